/- knot.go: search, whole. -/
import Derived.Test.YtbcgcnmnblfhmaaKn5
namespace Go.Proofs.Ytbcgcnmnblfhmaa
open Lin Tar
set_option maxRecDepth 10000
set_option linter.unusedSimpArgs false

theorem search_spec (sort : SortC) {ρ0 : Nat → Nat} {h0 : AHeap} {N : Nat} {into : Nat → List Int} {inv : Value} {t ix lw on_ of_ : Nat} {sv kv : Value} {rows : List (Nat × List Nat)} {s0 : TS} {src : Nat}
    (R : Rep ρ0 h0 N inv t ix lw on_ of_ sv kv rows s0) (T : TInv N into [] s0) (G : Graph ρ0 h0 N into inv) (hsrc : src < N) (h0i : s0.index src = 0) (hN : N ≤ 1000000) (hI : ∀ v, v < N → (into v).length ≤ 1000000000) {Q : Value → AHeap → Prop}
    (hq : ∀ h' ρ' sv' kv' rows' s', Keep ρ0 h0 ρ' h' → Rep ρ' h' N inv t ix lw on_ of_ sv' kv' rows' s' → TInv N into [] s' → (∀ x, s0.index x ≠ 0 → s'.index x ≠ 0) → s'.index src ≠ 0 → Q (.tuple #[]) h') :
    ACallW Try.prog 10 [.pointer (some ⟨t, 0, none⟩), iv src] h0 Q := by
  refine enter10 ?_
  unfold c10
  refine sw_scope (sw_seq (sw_wf fun hwf => sw_reg mixed ?_))
  have z1 : h0.obj (h0.next + 3) = none := hwf _ (by simp)
  have hT2 := T.enter hsrc h0i (fun x hx => by simp [nodes] at hx)
  have hc2 := hT2.n_le
  have hc3 := hT2.stk_le
  simp [enterT] at hc2 hc3
  simp [p10_0, params, List.range_succ]
  refine run_callI 11 [.pointer (some ⟨t, 0, none⟩), iv src] (by simp [iv]) (acall_old ?_)
  refine enter_spec (R.same (h1 := h0.bump 5) rfl (by simp)) hsrc hN hc2 hc3 ?_
  intro h3 ρ3 sv3 K3 R3 old3
  have z3 : h3.obj (h0.next + 3) = none := old3 _ (by simp) z1
  have hn3 : h0.next + 5 ≤ h3.next := by have := K3.nxt; simpa using this
  simp [iv, z3]
  refine sw_seq (sw_label ?_)
  simp
  refine sw_block ?_
  have hoth : ∀ j, j ≠ h0.next + 3 → (h3.put (h0.next + 3) (.arr true 40 [.int .i64 src, .int .i64 0])).obj j = h3.obj j := by intro j hj; simp [hj]
  have hpn : (h3.put (h0.next + 3) (.arr true 40 [.int .i64 src, .int .i64 0])).obj (h0.next + 3) = some (.arr true 40 [.int .i64 src, .int .i64 0]) := by simp
  have hnx : (h3.put (h0.next + 3) (.arr true 40 [.int .i64 src, .int .i64 0])).next = h3.next := (rfl)
  generalize h3.put (h0.next + 3) (.arr true 40 [.int .i64 src, .int .i64 0]) = h4 at *
  have hlive : ∀ j, h3.obj j ≠ none → j ≠ h0.next + 3 := fun j hj e => hj (e ▸ z3)
  have hr3 : ∀ j, j < h0.next → ρ3 j = ρ0 j := fun j hj => K3.role j (by simp; omega)
  refine sw_loopG (fun g : SG => g.env t) (SH ρ0 h0 N into inv t ix lw on_ of_ s0 src) (fun g => g.mu N into)
    ⟨fun j => if j = h0.next + 3 then 9 else ρ3 j, enterT s0 src, [(src, 0)], h0.next + 3, [], sv3, kv, rows⟩ ?_ ⟨?_, hT2, ⟨?_, ?_, ?_⟩, ?_, ?_, ?_, ?_, ?_, ?_, ?_⟩ ?_
  · simp [Covers, SG.env]
  · refine R3.move (by omega) (fun j _ hl => ?_) (fun j _ hl e1 e2 => ?_)
    · exact if_neg (hlive j hl)
    · exact hoth j (hlive j hl)
  · omega
  · intro j hj
    show (if j = h0.next + 3 then 9 else ρ3 j) = ρ0 j
    rw [if_neg (by omega), hr3 j hj]
  · intro j hj hr
    rw [hoth j (by omega), K3.obj j (by simp; omega) hr]; rfl
  · refine Graph.keep (Graph.keep' (G.keep (h' := h0.bump 5) (ρ' := ρ0) (by simp) (fun j _ _ e => e) (fun j _ _ e => rfl)) K3) (by omega) (fun j _ hl e => ?_) (fun j _ hl e => ?_)
    · show (if j = h0.next + 3 then 9 else ρ3 j) = 0
      rw [if_neg (hlive j hl)]; exact e
    · exact hoth j (hlive j hl)
  · show h0.next ≤ h0.next + 3
    omega
  · simp
  · show h0.next + 3 < h4.next
    omega
  · rw [hpn, flat_one]; rfl
  · intro y hy
    show upd s0.index src _ y ≠ 0
    by_cases e : y = src
    · subst e; rw [upd_same]; omega
    · rw [upd_ne _ _ e]; exact hy
  · show upd s0.index src _ src ≠ 0
    rw [upd_same]; omega
  · intro g h S
    have hT := S.tinv
    have hplen : g.path.length ≤ N := by have := hT.path_le; have := hT.stk_le; omega
    have hw : IntKind.i64.wrap (g.path.length : Int) = g.path.length := wrap_in (by omega)
    refine sw_seq (sw_seq ?_)
    unfold SG.env
    (refine sw_reg mixed ?_; simp [Nat.add_assoc, iv, tab_len, tab_getE, tab_set, Nat.add_one_le_iff, p10_1, *])
    rcases List.eq_nil_or_concat g.path with e | ⟨p, ⟨v, i⟩, e⟩
    · refine sw_cond (b := false) (by simp [e]) ?_
      simp
      refine sw_exit ?_
      simp
      rw [e] at hT
      exact hq _ g.ρ g.sv g.kv g.rows g.s (S.keep.trans (Keep.same rfl (by simp))) (S.rep.same rfl (by simp)) hT S.mono S.frm
    · rw [List.concat_eq_append] at e
      have hpl : g.path.length = p.length + 1 := by rw [e]; simp
      refine sw_cond (b := true) (by simp; omega) ?_
      simp
      refine sw_skip ?_
      simp
      refine sw_block ?_
      rw [hpl] at hw ⊢
      have hw2 : IntKind.i64.wrap (p.length : Int) = p.length := wrap_in (by omega)
      have hlt1 : (p.length : Int) < (p.length : Int) + 1 := by omega
      (refine sw_seq ?_; refine sw_reg mixed ?_; simp [Nat.add_assoc, iv, tab_len, tab_getE, tab_set, Nat.add_one_le_iff, p10_2, *])
      have S2 : SH ρ0 h0 N into inv t ix lw on_ of_ s0 src g ((h.bump 3).bump 6) := by
        have := S.upd (h2 := (h.bump 3).bump 6) (s' := g.s) (path' := g.path) (rest' := g.rest) (S.rep.same rfl (by simp; omega)) S.tinv (by simp; omega) (fun _ _ _ => rfl) S.pobj rfl
        exact this
      refine sw_seq (inner_walk S2 e hN hI ?_ ?_)
      · intro e' h' g' c1 c2 c3
        simp
        exact ⟨g', c1, c2, c3⟩
      · intro e' h' g' c1 c2 c3 c4
        simp
        refine sw_covers c1 ?_
        refine tail_walk sort c2 c3 rfl hN ?_
        intro e2 h2 g2 d1 d2 d3
        simp
        exact ⟨g2, d1, d2, by omega⟩

end Go.Proofs.Ytbcgcnmnblfhmaa
