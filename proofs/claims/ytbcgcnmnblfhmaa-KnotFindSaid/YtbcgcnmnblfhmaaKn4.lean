/- knot.go: search: a node is left. -/
import Derived.Test.YtbcgcnmnblfhmaaKn3
namespace Go.Proofs.Ytbcgcnmnblfhmaa
open Lin Tar
set_option maxRecDepth 10000
set_option linter.unusedSimpArgs false

theorem split_at {l : List Nat} {v : Nat} (h : v ∈ l) : ∃ a b, l = a ++ v :: b := List.append_of_mem h

/-- The last of it: the knot that begins with a node, if one does. -/
theorem end_walk (sort : SortC) {ρ0 : Nat → Nat} {h0 : AHeap} {N : Nat} {into : Nat → List Int} {inv : Value} {t ix lw on_ of_ : Nat} {s0 : TS} {src : Nat} {g : SG} {h : AHeap} {p : List (Nat × Nat)} {v i : Nat} {s1 : TS}
    (S : SH ρ0 h0 N into inv t ix lw on_ of_ s0 src g h) (hp : g.path = p ++ [(v, i)]) (hi : i = (into v).length) (hN : N ≤ 1000000)
    {h1 : AHeap} (R : Rep g.ρ h1 N inv t ix lw on_ of_ g.sv g.kv g.rows s1) (hn : h.next ≤ h1.next) (ho : ∀ i, g.ρ i ≠ 3 → h1.obj i = h.obj i)
    (hidx : s1.index = g.s.index) (hlv : s1.low v = g.s.low v)
    (hs1 : g.s.low v = g.s.index v → s1 = g.s) (hs2 : g.s.low v ≠ g.s.index v → TInv N into p s1)
    {Q : Exit → Env → AHeap → Prop} (hq : ∀ e h' g', Covers e (g'.env t) → SH ρ0 h0 N into inv t ix lw on_ of_ s0 src g' h' → g'.mu N into < g.mu N into → Q .normal e h') :
    SW Try.prog 180 (.seq (.reg 15 [0, 1, 4, 5, 6, 7, 8, 176] p10_16)
         (.cond 176 false
          (.reg 3 [0, 1, 4, 5, 6, 7, 8] p10_17)
          .skip)) [(0, .pointer (some ⟨t, 0, none⟩)), (4, .slice (some ⟨g.pid, 0, none⟩) p.length 2), (7, .int .i64 v)] h1 Q := by
  have hvs : v ∈ g.s.stack := S.tinv.mem (by rw [hp]; simp [nodes])
  have hv := S.tinv.stk_lt v hvs
  have hmu : ∀ g' : SG, g'.path = p → g'.s.index = g.s.index → g'.mu N into < g.mu N into := by
    intro g' e1 e2
    unfold SG.mu
    rw [e1, e2, hp, pathm_app]; omega
  have hgn : ∀ i, i < h.next → g.ρ i = 0 ∨ 9 ≤ g.ρ i → h1.obj i = h.obj i := fun i _ hr => ho i (by omega)
  have hK1 : Keep g.ρ h g.ρ h1 := ⟨hn, fun _ _ => rfl, hgn⟩
  have R0 := R
  obtain ⟨cells, r_ix, r_lw, r_on, r_of, stk, knt, hrows, each, rt, rix, rlw, ron, rof, lt, lix, llw, lon, lof⟩ := R
  have hS := S
  replace S : Hid _ := ⟨S⟩
  clear ho hgn
  replace hs1 : Hid _ := ⟨hs1⟩
  (refine sw_seq ?_; refine sw_reg mixed ?_; simp [Nat.add_assoc, iv, tab_len, tab_getE, tab_set, Nat.add_one_le_iff, p10_16, hidx, hlv, *])
  by_cases hl : g.s.low v = g.s.index v
  · have e := hs1.out hl
    subst e
    refine sw_cond (b := true) (by simp [hl]) ?_
    simp
    obtain ⟨a, b, hab⟩ := split_at hvs
    have hT := hS.tinv
    rw [hp] at hT
    refine sw_reg mixed ?_
    simp [p10_17]
    refine run_callI 12 [.pointer (some ⟨t, 0, none⟩), iv v] (by simp [iv]) ?_
    refine leave_spec sort (R0.same (h1 := (h1.bump 15).bump 3) rfl (by simp; omega)) hv hN hab (fun x hx => hT.stk_lt x hx) hT.stk_nodup ?_ hT.stk_le ?_
    · have := hT.n_le; have := hT.count; have := flat_len_le hT.nonempty
      have : 0 < g.s.stack.length := List.length_pos_of_mem hvs
      omega
    · intro l h' ρ' sv' kv' rows' q1 q2 q3 q4
      have hT2 := hT.leave hi hl hab q1 (by
        have hnd : l.Nodup := q1.nodup_iff.2 (by have := hT.stk_nodup; rw [hab] at this; exact (List.nodup_append.1 this).2.1)
        exact (List.pairwise_and_iff.2 ⟨q2, hnd⟩).imp (fun q => by omega))
      simp
      have hK2 : Keep g.ρ h ρ' h' := hK1.trans ((Keep.same (by rfl) (by simp; omega)).trans q3)
      refine hq _ _ ⟨ρ', leaveT g.s a b l v, p, g.pid, flat [(v, i)] ++ g.rest, sv', kv', rows'⟩ ?_ ?_ (hmu _ rfl rfl)
      · simp [Covers, SG.env]
      · have hpl : g.pid < h1.next := Nat.lt_of_lt_of_le hS.plt hn
        refine ⟨q4, hT2, hS.keep.trans hK2, hS.gr.keep' hK2, hS.pnew, ?_, ?_, ?_, hS.mono, hS.frm⟩
        · exact (hK2.role _ hS.plt).trans hS.prole
        · exact Nat.lt_of_lt_of_le hS.plt hK2.nxt
        · have := hK2.obj g.pid hS.plt (by rw [hS.prole]; omega)
          rw [this, hS.pobj, hp, flat_app, List.append_assoc]
  · refine sw_cond (b := false) (by simp; omega) ?_
    simp
    refine sw_skip ?_
    have hK2 : Keep g.ρ h g.ρ (h1.bump 15) := hK1.trans (Keep.same rfl (by simp))
    refine hq _ _ ⟨g.ρ, s1, p, g.pid, flat [(v, i)] ++ g.rest, g.sv, g.kv, g.rows⟩ ?_ ?_ (hmu _ rfl hidx)
    · simp [Covers, SG.env]
    · refine ⟨R0.same rfl (by simp), hs2 hl, hS.keep.trans hK2, hS.gr.keep' hK2, hS.pnew, hS.prole, Nat.lt_of_lt_of_le hS.plt hK2.nxt, ?_, ?_, ?_⟩
      · have := hK2.obj g.pid hS.plt (by rw [hS.prole]; omega)
        rw [this, hS.pobj, hp, flat_app, List.append_assoc]
      · intro x hx; rw [hidx]; exact hS.mono x hx
      · rw [hidx]; exact hS.frm

/-- A node of which all is looked at. -/
theorem tail_walk (sort : SortC) {ρ0 : Nat → Nat} {h0 : AHeap} {N : Nat} {into : Nat → List Int} {inv : Value} {t ix lw on_ of_ : Nat} {s0 : TS} {src : Nat} {g : SG} {h : AHeap} {p : List (Nat × Nat)} {v i : Nat}
    (S : SH ρ0 h0 N into inv t ix lw on_ of_ s0 src g h) (hp : g.path = p ++ [(v, i)]) (hi : i = (into v).length) (hN : N ≤ 1000000)
    {Q : Exit → Env → AHeap → Prop} (hq : ∀ e h' g', Covers e (g'.env t) → SH ρ0 h0 N into inv t ix lw on_ of_ s0 src g' h' → g'.mu N into < g.mu N into → Q .normal e h') :
    SW Try.prog 180 (.seq (.reg 5 [0, 1, 4, 5, 6, 7, 8] p10_11)
         (.seq (.reg 6 [0, 1, 4, 5, 6, 7, 8] p10_12)
         (.seq (.seq (.reg 3 [0, 1, 4, 5, 6, 7, 8, 133] p10_13)
          (.cond 133 false
           (.seq (.reg 8 [0, 1, 4, 5, 6, 7, 8] p10_14)
            (.reg 22 [0, 1, 4, 5, 6, 7, 8] p10_15))
           .skip))
         (.seq (.reg 15 [0, 1, 4, 5, 6, 7, 8, 176] p10_16)
         (.cond 176 false
          (.reg 3 [0, 1, 4, 5, 6, 7, 8] p10_17)
          .skip)))))
      [(0, .pointer (some ⟨t, 0, none⟩)), (4, .slice (some ⟨g.pid, 0, none⟩) (p.length + 1) 2), (5, .pointer (some ⟨g.pid, p.length * 2, none⟩))] h Q := by
  have hT := S.tinv
  have hpo := S.pobj
  have hpl := S.plt
  have hpr := S.prole
  have hplen : p.length + 1 ≤ N := by
    have := hT.path_le; have := hT.stk_le; rw [hp] at *; simp at *; omega
  rw [hp] at hpo hT
  have hget : (flat (p ++ [(v, i)]) ++ g.rest)[p.length * 2]? = some (.int .i64 v) := by
    rw [flat_app, List.append_assoc, List.getElem?_append_right (by rw [flat_len]; omega), flat_len, flat_one]; simp
  have hget2 : ∀ (p' : List (Nat × Nat)) (u j : Nat), p = p' ++ [(u, j)] → (flat (p ++ [(v, i)]) ++ g.rest)[(p.length - 1) * 2]? = some (.int .i64 u) := by
    intro p' u j e
    subst e
    rw [flat_app, flat_app, List.append_assoc, List.append_assoc, List.getElem?_append_right (by rw [flat_len]; simp), flat_len, flat_one]; simp
  generalize hcs : flat (p ++ [(v, i)]) ++ g.rest = cs at *
  replace hcs : Hid _ := ⟨hcs⟩
  have hw0 : IntKind.i64.wrap (p.length : Int) = p.length := by rw [wrap_in (by omega)]
  have hS := S
  replace S : Hid _ := ⟨S⟩
  have R0 := hS.rep
  have hle1 : (p.length : Int) ≤ (p.length : Int) + 1 := by omega
  have f1 := ne_fresh hpl
  (refine sw_seq ?_; refine sw_reg mixed ?_; simp [Nat.add_assoc, iv, tab_len, tab_getE, tab_set, Nat.add_one_le_iff, p10_11, *])
  (refine sw_seq ?_; refine sw_reg mixed ?_; simp [Nat.add_assoc, iv, tab_len, tab_getE, tab_set, Nat.add_one_le_iff, p10_12, *])
  refine sw_seq (sw_seq ?_)
  (refine sw_reg mixed ?_; simp [Nat.add_assoc, iv, tab_len, tab_getE, tab_set, Nat.add_one_le_iff, p10_13, *])
  have hK0 : ((((h.bump 5).bump 6).bump 3)).obj = h.obj := rfl
  have hK1 : h.next ≤ (((h.bump 5).bump 6).bump 3).next := by simp; omega
  generalize ((h.bump 5).bump 6).bump 3 = h1 at *
  rcases List.eq_nil_or_concat p with e | ⟨p', ⟨u, j⟩, e⟩
  · subst e
    refine sw_cond (b := false) (by simp) ?_
    simp
    refine sw_skip ?_
    simp
    have hvs : v ∈ g.s.stack := hT.mem (by simp [nodes])
    have hlv : g.s.low v = g.s.index v := by
      obtain ⟨y, hy, e1, _⟩ := hT.low_wit v hvs
      obtain ⟨z, hz, e2, _⟩ := hT.back y hy
      have : z = v := by simpa [nodes] using hz
      subst this
      have := hT.low_le z hvs
      omega
    refine sw_covers ?_ (end_walk sort hS hp hi hN (R0.same hK0 hK1) hK1 (fun i _ => by rw [hK0]) rfl rfl (fun _ => rfl) (fun q => absurd hlv q) hq)
    simp [Covers]
  · rw [List.concat_eq_append] at e
    have hp0 : 0 < p.length := by rw [e]; simp
    refine sw_cond (b := true) (by simp; omega) ?_
    simp
    have hu : u ∈ nodes (p ++ [(v, i)]) := by rw [e]; simp [nodes]
    have hus := hT.mem hu
    have hvs : v ∈ g.s.stack := hT.mem (by simp [nodes])
    refine sw_covers ?_ (lower_walk (R0.same hK0 hK1) (hT.stk_lt u hus) (hT.stk_lt v hvs) hpr (Nat.lt_of_lt_of_le hpl hK1) (by rw [hK0]; exact hpo) (by omega) hp0 (hget2 p' u j e) ?_)
    · simp [Covers]
    intro e1 h2 hc1 R2 hn2 ho2
    simp
    refine sw_covers hc1 ?_
    have huv : g.s.index u < g.s.index v := hT.top_max (by rw [e]; simp [nodes])
    have hne : v ≠ u := fun e => by subst e; omega
    refine end_walk sort hS hp hi hN R2 (Nat.le_trans hK1 hn2) (fun i hi => (ho2 i hi).trans (by rw [hK0])) rfl (upd_ne _ _ hne) (fun q => low_same ?_) (fun q => ?_) hq
    · have := hT.low_le u hus; omega
    · subst e
      exact hT.pop hi q

end Go.Proofs.Ytbcgcnmnblfhmaa
