/- knot.go: search: the edges of a node. -/
import Derived.Test.YtbcgcnmnblfhmaaKn4
namespace Go.Proofs.Ytbcgcnmnblfhmaa
open Lin Tar
set_option maxRecDepth 10000
set_option linter.unusedSimpArgs false

theorem Rep.move {ρ ρ' : Nat → Nat} {h h1 : AHeap} {N : Nat} {inv : Value} {t ix lw on_ of_ : Nat} {sv kv : Value} {rows : List (Nat × List Nat)} {s : TS}
    (R : Rep ρ h N inv t ix lw on_ of_ sv kv rows s) (hn : h.next ≤ h1.next) (hρ : ∀ i, i < h.next → h.obj i ≠ none → ρ' i = ρ i) (ho : ∀ i, i < h.next → h.obj i ≠ none → ρ i ≠ 0 → ρ i ≠ 9 → h1.obj i = h.obj i) :
    Rep ρ' h1 N inv t ix lw on_ of_ sv kv rows s := by
  have g := fun i hi => Nat.lt_of_lt_of_le (m := h.next) (n := i) hi hn
  have n1 : h.obj t ≠ none := by rw [R.cells]; simp
  have n2 : h.obj ix ≠ none := by rw [R.oix]; simp
  have n3 : h.obj lw ≠ none := by rw [R.olw]; simp
  have n4 : h.obj on_ ≠ none := by rw [R.oon]; simp
  have n5 : h.obj of_ ≠ none := by rw [R.oof]; simp
  refine ⟨by rw [ho _ R.lt n1 (by simp [R.rt]) (by simp [R.rt])]; exact R.cells, by rw [ho _ R.lix n2 (by simp [R.rix]) (by simp [R.rix])]; exact R.oix, by rw [ho _ R.llw n3 (by simp [R.rlw]) (by simp [R.rlw])]; exact R.olw,
    by rw [ho _ R.lon n4 (by simp [R.ron]) (by simp [R.ron])]; exact R.oon, by rw [ho _ R.lof n5 (by simp [R.rof]) (by simp [R.rof])]; exact R.oof,
    row_keepL R.stk hn hρ (fun i hi hl hr => ho i hi hl (by omega) (by omega)), row_keepL R.knt hn hρ (fun i hi hl hr => ho i hi hl (by omega) (by omega)), R.knots, fun r hr => ?_,
    (hρ _ R.lt n1).trans R.rt, (hρ _ R.lix n2).trans R.rix, (hρ _ R.llw n3).trans R.rlw, (hρ _ R.lon n4).trans R.ron, (hρ _ R.lof n5).trans R.rof, g _ R.lt, g _ R.lix, g _ R.llw, g _ R.lon, g _ R.lof⟩
  obtain ⟨a, b, c⟩ := R.each r hr
  have n6 : h.obj r.1 ≠ none := by rw [c]; simp
  exact ⟨(hρ _ b n6).trans a, g _ b, by rw [ho _ b n6 (by omega) (by omega)]; exact c⟩

theorem Rep.other {ρ : Nat → Nat} {h h1 : AHeap} {N : Nat} {inv : Value} {t ix lw on_ of_ : Nat} {sv kv : Value} {rows : List (Nat × List Nat)} {s : TS}
    (R : Rep ρ h N inv t ix lw on_ of_ sv kv rows s) (hn : h.next ≤ h1.next) (ho : ∀ i, ρ i ≠ 0 → ρ i ≠ 9 → h1.obj i = h.obj i) : Rep ρ h1 N inv t ix lw on_ of_ sv kv rows s :=
  R.move hn (fun _ _ _ => rfl) (fun i _ _ => ho i)

theorem SH.upd {ρ0 : Nat → Nat} {h0 : AHeap} {N : Nat} {into : Nat → List Int} {inv : Value} {t ix lw on_ of_ : Nat} {s0 : TS} {src : Nat} {g : SG} {h : AHeap}
    (S : SH ρ0 h0 N into inv t ix lw on_ of_ s0 src g h) {h2 : AHeap} {s' : TS} {path' : List (Nat × Nat)} {rest' : List Value} (rep : Rep g.ρ h2 N inv t ix lw on_ of_ g.sv g.kv g.rows s') (tinv : TInv N into path' s') (hn : h.next ≤ h2.next)
    (ho : ∀ i, g.ρ i ≠ 3 → i ≠ g.pid → h2.obj i = h.obj i) (pobj : h2.obj g.pid = some (.arr true 40 (flat path' ++ rest'))) (hidx : s'.index = g.s.index) :
    SH ρ0 h0 N into inv t ix lw on_ of_ s0 src { g with s := s', path := path', rest := rest' } h2 := by
  refine ⟨rep, tinv, ⟨Nat.le_trans S.keep.nxt hn, S.keep.role, fun i hi hr => ?_⟩, ?_, S.pnew, S.prole, Nat.lt_of_lt_of_le S.plt hn, pobj, ?_, ?_⟩
  · rw [ho i (by rw [S.keep.role i hi]; omega) (by have := S.pnew; omega)]
    exact S.keep.obj i hi hr
  · exact S.gr.keep hn (fun i _ _ hr => hr) (fun i _ _ hr => ho i (by omega) (fun e => by subst e; rw [S.prole] at hr; cases hr))
  · intro x hx; rw [show s'.index = _ from hidx]; exact S.mono x hx
  · rw [show s'.index = _ from hidx]; exact S.frm

theorem edge_walk {ρ0 : Nat → Nat} {h0 : AHeap} {N : Nat} {into : Nat → List Int} {inv : Value} {t ix lw on_ of_ : Nat} {s0 : TS} {src : Nat} {g : SG} {h h2 : AHeap} {p : List (Nat × Nat)} {v i : Nat} {x : Int}
    (S : SH ρ0 h0 N into inv t ix lw on_ of_ s0 src g h) (hp : g.path = p ++ [(v, i)]) (hN : N ≤ 1000000) (hx : (into v)[i]? = some x)
    (R : Rep g.ρ h2 N inv t ix lw on_ of_ g.sv g.kv g.rows g.s) (hn : h.next ≤ h2.next) (ho : ∀ i, i ≠ g.pid → h2.obj i = h.obj i) (hpo : h2.obj g.pid = some (.arr true 40 (flat (p ++ [(v, i + 1)]) ++ g.rest)))
    {Q : Exit → Env → AHeap → Prop} (hq1 : ∀ e h' g', Covers e (g'.env t) → SH ρ0 h0 N into inv t ix lw on_ of_ s0 src g' h' → g'.mu N into < g.mu N into → Q (.exit 1) e h')
    (hq2 : ∀ e h' s', Covers e [(0, .pointer (some ⟨t, 0, none⟩)), (4, .slice (some ⟨g.pid, 0, none⟩) (p.length + 1) 2), (5, .pointer (some ⟨g.pid, p.length * 2, none⟩))] →
      SH ρ0 h0 N into inv t ix lw on_ of_ s0 src { g with s := s', path := p ++ [(v, i + 1)] } h' → s'.index = g.s.index → Q .normal e h') :
    SW Try.prog 180 (.block 4
                 (.seq (.reg 12 [0, 1, 4, 5, 6, 7, 8, 60] p10_6)
                  (.cond 60 false
                   .skip
                   (.seq (.reg 9 [0, 1, 4, 5, 6, 7, 8, 72] p10_7)
                    (.cond 72 false
                     (.seq (.reg 7 [0, 1, 4, 5, 6, 7, 8] p10_8)
                      (.exit 1))
                     (.seq (.reg 8 [0, 1, 4, 5, 6, 7, 8, 87] p10_9)
                      (.cond 87 false
                       (.reg 28 [0, 1, 4, 5, 6, 7, 8] p10_10)
                       .skip)))))))
      [(0, .pointer (some ⟨t, 0, none⟩)), (4, .slice (some ⟨g.pid, 0, none⟩) (p.length + 1) 2), (5, .pointer (some ⟨g.pid, p.length * 2, none⟩)), (6, .int .i64 x)] h2 Q := by
  have hT := S.tinv
  have hpl := Nat.lt_of_lt_of_le S.plt hn
  have hpr := S.prole
  have hplen : p.length + 1 ≤ N := by
    have := hT.path_le; have := hT.stk_le; rw [hp] at *; simp at *; omega
  rw [hp] at hT
  have hvs : v ∈ g.s.stack := hT.mem (by simp [nodes])
  have hv := hT.stk_lt v hvs
  have hget1 : (flat (p ++ [(v, i + 1)]) ++ g.rest)[p.length * 2]? = some (.int .i64 v) := by
    rw [flat_app, List.append_assoc, List.getElem?_append_right (by rw [flat_len]; omega), flat_len, flat_one]; simp
  obtain ⟨hl1, hg1⟩ := List.getElem?_eq_some_iff.1 hget1
  obtain ⟨ip, iq, hsh⟩ := S.gr.shape
  subst hsh
  have hpo0 := hpo
  have htk : List.take ((p.length + 1) * 2) (flat (p ++ [(v, i + 1)]) ++ g.rest) = flat (p ++ [(v, i + 1)]) := by
    rw [show (p.length + 1) * 2 = (flat (p ++ [(v, i + 1)])).length by rw [flat_len]; simp, List.take_left]
  have hcl : (p.length + 1) * 2 ≤ (flat (p ++ [(v, i + 1)]) ++ g.rest).length := by rw [List.length_append, flat_len]; simp
  generalize hcs : flat (p ++ [(v, i + 1)]) ++ g.rest = cs at *
  replace hcs : Hid _ := ⟨hcs⟩
  replace ho : Hid _ := ⟨ho⟩
  have R0 := R
  have hS := S
  replace S : Hid _ := ⟨S⟩
  obtain ⟨cells, r_ix, r_lw, r_on, r_of, stk, knt, hrows, each, rt, rix, rlw, ron, rof, lt, lix, llw, lon, lof⟩ := R
  have rn : ∀ a b, g.ρ a ≠ g.ρ b → (a = b) = False := fun a b => role_ne
  -- the state as it is, with one more edge done
  have same : ∀ (h3 : AHeap) (s' : TS), h2.next ≤ h3.next → (∀ i, g.ρ i ≠ 3 → h3.obj i = h2.obj i) → Rep g.ρ h3 N (.slice ip N iq) t ix lw on_ of_ g.sv g.kv g.rows s' → TInv N into (p ++ [(v, i + 1)]) s' → s'.index = g.s.index →
      SH ρ0 h0 N into (.slice ip N iq) t ix lw on_ of_ s0 src { g with s := s', path := p ++ [(v, i + 1)] } h3 := by
    intro h3 s' e1 e2 e3 e4 e5
    exact hS.upd e3 e4 (Nat.le_trans hn e1) (fun j q1 q2 => (e2 j q1).trans (ho.out j q2)) (by rw [e2 _ (by rw [hpr]; decide), hpo0, hcs.out]) e5
  refine sw_block (sw_seq ?_)
  by_cases hx0 : 0 ≤ x ∧ x < N
  · obtain ⟨w, rfl⟩ : ∃ w : Nat, x = w := ⟨x.toNat, by omega⟩
    have hw : w < N := by omega
    have hx1 : ¬ ((w : Int) < 0) := by omega
    have hx2 : ¬ (N ≤ w) := by omega
    clear hx0
    (refine sw_reg mixed ?_; simp [Nat.add_assoc, iv, tab_len, tab_getE, tab_set, Nat.add_one_le_iff, p10_6, *])
    refine sw_cond (b := false) (by simp) ?_
    simp
    (refine sw_seq ?_; refine sw_reg mixed ?_; simp [Nat.add_assoc, iv, tab_len, tab_getE, tab_set, Nat.add_one_le_iff, p10_7, *])
    by_cases hw0 : g.s.index w = 0
    · refine sw_cond (b := true) (by simp [hw0]) ?_
      simp
      refine sw_seq (sw_wf fun hwf => sw_reg mixed ?_)
      have z1 : h2.obj (h2.next + 25) = none := hwf _ (by simp <;> omega)
      have z2 : h2.obj (h2.next + 26) = none := hwf _ (by simp <;> omega)
      simp [p10_8]
      refine run_callI 11 [.pointer (some ⟨t, 0, none⟩), iv w] (by simp [iv]) (acall_old ?_)
      have hT2 := hT.step hx hw hw0
      have hc2 := hT2.n_le
      have hc3 := hT2.stk_le
      simp [enterT] at hc2 hc3
      refine enter_spec (R0.same (h1 := ((h2.bump 12).bump 9).bump 7) rfl (by simp; omega)) hw hN hc2 hc3 ?_
      intro h3 ρ3 sv3 K3 R3 old3
      have z3 : h3.obj (h2.next + 25) = none := old3 _ (by simp <;> omega) z1
      have z4 : h3.obj (h2.next + 26) = none := old3 _ (by simp <;> omega) z2
      have hn3 : h2.next + 28 ≤ h3.next := by have := K3.nxt; simp at this; omega
      have hpo3 := K3.obj g.pid (by simp; omega) (by rw [hpr]; omega)
      simp [hpo] at hpo3
      have f9 := ne_fresh hpl
      have hb : (p.length + 1 + 1) * 16 ≤ 140737488355328 := by omega
      simp [iv, Nat.add_assoc, *]
      refine sw_exit ?_
      simp
      have hoth : ∀ j, j ≠ h2.next + 25 → j ≠ h2.next + 26 → j ≠ g.pid → (((h3.put (h2.next + 25) (.arr true 40 [.int .i64 w, .int .i64 0])).del g.pid).put (h2.next + 26) (.arr true 40 (flat (p ++ [(v, i + 1)]) ++ [.int .i64 w, .int .i64 0]))).obj j = h3.obj j := by
        intro j j1 j2 j3; simp [j1, j2, j3]
      have hnx : (((h3.put (h2.next + 25) (.arr true 40 [.int .i64 w, .int .i64 0])).del g.pid).put (h2.next + 26) (.arr true 40 (flat (p ++ [(v, i + 1)]) ++ [.int .i64 w, .int .i64 0]))).next = h3.next := (rfl)
      have hpn : (((h3.put (h2.next + 25) (.arr true 40 [.int .i64 w, .int .i64 0])).del g.pid).put (h2.next + 26) (.arr true 40 (flat (p ++ [(v, i + 1)]) ++ [.int .i64 w, .int .i64 0]))).obj (h2.next + 26) = some (.arr true 40 (flat (p ++ [(v, i + 1)]) ++ [.int .i64 w, .int .i64 0])) := by simp
      generalize ((h3.put (h2.next + 25) (.arr true 40 [.int .i64 w, .int .i64 0])).del g.pid).put (h2.next + 26) (.arr true 40 (flat (p ++ [(v, i + 1)]) ++ [.int .i64 w, .int .i64 0])) = h4 at *
      have hlive : ∀ j, h3.obj j ≠ none → j ≠ h2.next + 25 ∧ j ≠ h2.next + 26 := fun j hj => ⟨fun e => hj (e ▸ z3), fun e => hj (e ▸ z4)⟩
      have hr3 : ∀ j, j < h2.next → ρ3 j = g.ρ j := fun j hj => K3.role j (by simp; omega)
      have hpid3 : ρ3 g.pid = 9 := (hr3 _ hpl).trans hpr
      have hkp := hS.keep.nxt
      have hpw := hS.pnew
      have hdw : i < (into v).length := (List.getElem?_eq_some_iff.1 hx).1
      have h2' : h2.next ≤ h3.next := by omega
      refine hq1 _ _ ⟨fun j => if j = h2.next + 26 then 9 else ρ3 j, enterT g.s w, p ++ [(v, i + 1)] ++ [(w, 0)], h2.next + 26, [], sv3, g.kv, g.rows⟩ ?_ ⟨?_, hT2, ⟨?_, ?_, ?_⟩, ?_, ?_, ?_, ?_, ?_, ?_, ?_⟩ ?_
      · simp [Covers, SG.env]
      · refine R3.move (by omega) (fun j _ hl => ?_) (fun j _ hl e1 e2 => ?_)
        · exact if_neg (hlive j hl).2
        · exact hoth j (hlive j hl).1 (hlive j hl).2 (fun e => by subst e; exact e2 hpid3)
      · show h0.next ≤ h4.next
        omega
      · intro j hj
        show (if j = h2.next + 26 then 9 else ρ3 j) = ρ0 j
        rw [if_neg (by omega), hr3 j (by omega)]
        exact hS.keep.role j hj
      · intro j hj hr
        have e1 := hS.keep.role j hj
        rw [hoth j (by omega) (by omega) (by omega), K3.obj j (by simp; omega) (by rw [e1]; exact hr)]
        exact (ho.out j (by omega)).trans (hS.keep.obj j hj hr)
      · refine Graph.keep (Graph.keep' (hS.gr.keep (h' := ((h2.bump 12).bump 9).bump 7) (ρ' := g.ρ) (by simp; omega) (fun j _ _ e => e) (fun j _ _ e => ho.out j (fun q => by subst q; omega))) K3) (by omega) (fun j _ hl e => ?_) (fun j _ hl e => ?_)
        · show (if j = h2.next + 26 then 9 else ρ3 j) = 0
          rw [if_neg (hlive j hl).2]; exact e
        · exact hoth j (hlive j hl).1 (hlive j hl).2 (fun q => by subst q; omega)
      · show h0.next ≤ h2.next + 26
        omega
      · simp
      · show h2.next + 26 < h4.next
        omega
      · rw [hpn, flat_app _ [(w, 0)], flat_one]; simp
      · intro y hy
        have := hS.mono y hy
        show upd g.s.index w _ y ≠ 0
        by_cases e : y = w
        · subst e; rw [upd_same]; omega
        · rw [upd_ne _ _ e]; exact this
      · have := hS.frm
        show upd g.s.index w _ src ≠ 0
        by_cases e : src = w
        · subst e; rw [upd_same]; omega
        · rw [upd_ne _ _ e]; exact this
      · have := unv_enter (into := into) hw hw0
        unfold SG.mu
        show unv N into (enterT g.s w).index + pathm into (p ++ [(v, i + 1)] ++ [(w, 0)]) < unv N into g.s.index + pathm into g.path
        rw [hp, pathm_app, pathm_app, pathm_app]
        omega
    · refine sw_cond (b := false) (by simp [hw0]) ?_
      simp
      (refine sw_seq ?_; refine sw_reg mixed ?_; simp [Nat.add_assoc, iv, tab_len, tab_getE, tab_set, Nat.add_one_le_iff, p10_9, *])
      by_cases hon : g.s.on w = true
      · refine sw_cond (b := true) (by simp [hon]) ?_
        simp
        have hm := min_int (g.s.low v) (g.s.index w)
        have hws := (hT.on w hw).1 hon
        (refine sw_reg mixed ?_; simp [Nat.add_assoc, iv, tab_len, tab_getE, tab_set, Nat.add_one_le_iff, p10_10, upd_n, *])
        have hoth : ∀ j, g.ρ j ≠ 3 → ((((h2.bump 12).bump 9).bump 8).bump 28 |>.put lw (.arr true 3 (tab N fun j => iv (upd g.s.low v (min (g.s.low v) (g.s.index w)) j)))).obj j = h2.obj j := by
          intro j hj
          have : (j = lw) = False := rn _ _ (by rw [rlw]; exact hj)
          simp [this]
        refine hq2 _ _ { g.s with low := upd g.s.low v (min (g.s.low v) (g.s.index w)) } ?_ (same _ _ (by simp; omega) hoth (R0.low (by simp; omega) (by simp [iv]) hoth) (hT.lower hx hws) rfl) rfl
        simp [Covers]
      · refine sw_cond (b := false) (by simp [hon]) ?_
        simp
        refine sw_skip ?_
        simp
        refine hq2 _ _ g.s ?_ (same _ _ (by simp; omega) (fun j _ => rfl) (R0.same rfl (by simp; omega)) ?_ rfl) rfl
        · simp [Covers]
        · refine hT.next hx (fun y hy e => ?_) (fun y hy e => ?_)
          · have : w = y := by omega
            subst this; exact hw0
          · have : w = y := by omega
            subst this
            exact absurd ((hT.on w hw).2 hy) hon
  · have hb : (x < 0 ∨ (N : Int) ≤ x) := by omega
    have fin : SW Try.prog 180 (SCode.cond 60 false SCode.skip
      ((SCode.reg 9 [0, 1, 4, 5, 6, 7, 8, 72] p10_7).seq
        (SCode.cond 72 false ((SCode.reg 7 [0, 1, 4, 5, 6, 7, 8] p10_8).seq (SCode.exit 1))
          ((SCode.reg 8 [0, 1, 4, 5, 6, 7, 8, 87] p10_9).seq
            (SCode.cond 87 false (SCode.reg 28 [0, 1, 4, 5, 6, 7, 8] p10_10) SCode.skip)))))
        [(0, .pointer (some ⟨t, 0, none⟩)), (4, .slice (some ⟨g.pid, 0, none⟩) (p.length + 1) 2), (5, .pointer (some ⟨g.pid, p.length * 2, none⟩)), (6, .int .i64 x), (60, .bool true)] (h2.bump 12) (blockX 4 Q) := by
      refine sw_cond (b := true) (by simp) ?_
      simp
      refine sw_skip ?_
      simp
      refine hq2 _ _ g.s ?_ (same _ _ (by simp) (fun j _ => rfl) (R0.same rfl (by simp)) ?_ rfl) rfl
      · simp [Covers]
      · refine hT.next hx (fun y hy e => ?_) (fun y hy e => ?_)
        · omega
        · have := hT.stk_lt y hy; omega
    by_cases hx3 : x < 0
    · (refine sw_reg mixed ?_; simp [Nat.add_assoc, iv, tab_len, tab_getE, tab_set, Nat.add_one_le_iff, p10_6, *])
    · have hx4 : (N : Int) ≤ x := by omega
      (refine sw_reg mixed ?_; simp [Nat.add_assoc, iv, tab_len, tab_getE, tab_set, Nat.add_one_le_iff, p10_6, *])

theorem inner_walk {ρ0 : Nat → Nat} {h0 : AHeap} {N : Nat} {into : Nat → List Int} {inv : Value} {t ix lw on_ of_ : Nat} {s0 : TS} {src : Nat} {g0 : SG} {hs : AHeap} {p : List (Nat × Nat)} {v i0 : Nat}
    (S0 : SH ρ0 h0 N into inv t ix lw on_ of_ s0 src g0 hs) (hp0 : g0.path = p ++ [(v, i0)]) (hN : N ≤ 1000000) (hI : ∀ v, v < N → (into v).length ≤ 1000000000)
    {Q : Exit → Env → AHeap → Prop} (hq1 : ∀ e h' g', Covers e (g'.env t) → SH ρ0 h0 N into inv t ix lw on_ of_ s0 src g' h' → g'.mu N into < g0.mu N into → Q (.exit 1) e h')
    (hq2 : ∀ e h' g', Covers e [(0, .pointer (some ⟨t, 0, none⟩)), (4, .slice (some ⟨g'.pid, 0, none⟩) (p.length + 1) 2), (5, .pointer (some ⟨g'.pid, p.length * 2, none⟩))] → SH ρ0 h0 N into inv t ix lw on_ of_ s0 src g' h' → g'.path = p ++ [(v, (into v).length)] → g'.mu N into ≤ g0.mu N into → Q .normal e h') :
    SW Try.prog 180 (.block 2
           (.loop
             (.seq (.seq (.reg 16 [0, 1, 4, 5, 6, 7, 8, 36] p10_3)
               (.cond 36 false
                .skip
                (.exit 2)))
              (.block 3
               (.seq (.reg 17 [0, 1, 4, 5, 6, 7, 8] p10_4)
                (.seq (.reg 8 [0, 1, 4, 5, 6, 7, 8] p10_5)
                (.block 4
                 (.seq (.reg 12 [0, 1, 4, 5, 6, 7, 8, 60] p10_6)
                  (.cond 60 false
                   .skip
                   (.seq (.reg 9 [0, 1, 4, 5, 6, 7, 8, 72] p10_7)
                    (.cond 72 false
                     (.seq (.reg 7 [0, 1, 4, 5, 6, 7, 8] p10_8)
                      (.exit 1))
                     (.seq (.reg 8 [0, 1, 4, 5, 6, 7, 8, 87] p10_9)
                      (.cond 87 false
                       (.reg 28 [0, 1, 4, 5, 6, 7, 8] p10_10)
                       .skip)))))))))))))
      [(0, .pointer (some ⟨t, 0, none⟩)), (4, .slice (some ⟨g0.pid, 0, none⟩) (p.length + 1) 2), (5, .pointer (some ⟨g0.pid, p.length * 2, none⟩))] hs Q := by
  refine sw_block ?_
  refine sw_loopG (fun x : SG × Nat => [(0, .pointer (some ⟨t, 0, none⟩)), (4, .slice (some ⟨x.1.pid, 0, none⟩) (p.length + 1) 2), (5, .pointer (some ⟨x.1.pid, p.length * 2, none⟩))])
    (fun x h => SH ρ0 h0 N into inv t ix lw on_ of_ s0 src x.1 h ∧ x.1.path = p ++ [(v, x.2)] ∧ x.1.mu N into ≤ g0.mu N into) (fun x => (into v).length - x.2) (g0, i0) ?_ ⟨S0, hp0, Nat.le_refl _⟩ ?_
  · simp [Covers]
  · rintro ⟨g, i⟩ h ⟨S, hp, hmu⟩
    simp only at S hp hmu
    have hT := S.tinv
    have hpo := S.pobj
    have hpl := S.plt
    have hpr := S.prole
    have hplen : p.length + 1 ≤ N := by
      have := hT.path_le; have := hT.stk_le; rw [hp] at *; simp at *; omega
    rw [hp] at hpo hT
    have hvs : v ∈ g.s.stack := hT.mem (by simp [nodes])
    have hv := hT.stk_lt v hvs
    obtain ⟨gg, off, own, ty, c, pv, qv, hinv, hgr, hgl, hgo, hgc, hge⟩ := S.gr.row v hv
    have hget1 : (flat (p ++ [(v, i)]) ++ g.rest)[p.length * 2]? = some (.int .i64 v) := by
      rw [flat_app, List.append_assoc, List.getElem?_append_right (by rw [flat_len]; omega), flat_len, flat_one]; simp
    have hget2 : (flat (p ++ [(v, i)]) ++ g.rest)[p.length * 2 + 1]? = some (.int .i64 i) := by
      rw [flat_app, List.append_assoc, List.getElem?_append_right (by rw [flat_len]; omega), flat_len, flat_one, show p.length * 2 + 1 - p.length * 2 = 1 by omega]; simp
    have hset : (flat (p ++ [(v, i)]) ++ g.rest).set (p.length * 2 + 1) (.int .i64 ((i : Int) + 1)) = flat (p ++ [(v, i + 1)]) ++ g.rest := by
      rw [flat_app, flat_app, List.append_assoc, List.append_assoc, List.set_append_right _ _ (by rw [flat_len]; omega), flat_len, flat_one, flat_one, show p.length * 2 + 1 - p.length * 2 = 1 by omega]; simp
    obtain ⟨hl1, hg1⟩ := List.getElem?_eq_some_iff.1 hget1
    obtain ⟨hl2, hg2⟩ := List.getElem?_eq_some_iff.1 hget2
    subst hinv
    generalize hcs : flat (p ++ [(v, i)]) ++ g.rest = cs at *
    replace hcs : Hid _ := ⟨hcs⟩
    have R := S.rep
    have hS := S
    replace S : Hid _ := ⟨S⟩
    obtain ⟨cells, r_ix, r_lw, r_on, r_of, stk, knt, hrows, each, rt, rix, rlw, ron, rof, lt, lix, llw, lon, lof⟩ := R
    have rn : ∀ a b, g.ρ a ≠ g.ρ b → (a = b) = False := fun a b => role_ne
    have f1 := ne_fresh hpl
    have f2 := ne_fresh lt
    have f3 := ne_fresh lix
    have f4 := ne_fresh llw
    have hile := hT.next_le (v, i) (by simp)
    simp only at hile
    have hIv := hI v hv
    refine sw_seq (sw_seq ?_)
    (refine sw_reg mixed ?_; simp [Nat.add_assoc, iv, tab_len, tab_getE, tab_set, Nat.add_one_le_iff, p10_3, *])
    by_cases hlt : i < (into v).length
    · refine sw_cond (b := true) (by simp; omega) ?_
      simp
      refine sw_skip ?_
      simp
      refine sw_block ?_
      obtain ⟨x, hx⟩ : ∃ x, (into v)[i]? = some x := ⟨(into v)[i], by simp [hlt]⟩
      obtain ⟨r, o, own', ty', c', rfl, rfl, hrr, hrl, hro, hrc⟩ := hge.1 i x hx
      have hwr : IntKind.i64.wrap ((i : Int) + 1) = (i : Int) + 1 := wrap_in (by omega)
      have hrp : (r = g.pid) = False := rn _ _ (by rw [hrr, hpr]; decide)
      (refine sw_seq ?_; refine sw_reg mixed ?_; simp [Nat.add_assoc, iv, tab_len, tab_getE, tab_set, Nat.add_one_le_iff, p10_4, *])
      (refine sw_seq ?_; refine sw_reg mixed ?_; simp [Nat.add_assoc, iv, tab_len, tab_getE, tab_set, Nat.add_one_le_iff, p10_5, *])
      have hoth : ∀ j, j ≠ g.pid → ((((h.bump 16).bump 17).bump 8).put g.pid (.arr true 40 (flat (p ++ [(v, i + 1)]) ++ g.rest))).obj j = h.obj j := by
        intro j hj; simp [hj]
      have hnx : h.next ≤ ((((h.bump 16).bump 17).bump 8).put g.pid (.arr true 40 (flat (p ++ [(v, i + 1)]) ++ g.rest))).next := by simp; omega
      refine edge_walk hS hp hN hx (hS.rep.other hnx (fun j e1 e2 => hoth j (fun q => by subst q; exact e2 hpr))) hnx hoth (by simp) ?_ ?_
      · intro e h' g' c1 c2 c3
        exact hq1 e h' g' c1 c2 (by omega)
      · intro e h' s' c1 c2 c3
        simp only [blockX_normal, thenX_normal]
        refine ⟨{ g with s := s', path := p ++ [(v, i + 1)] }, c1, i + 1, ⟨c2, rfl, ?_⟩, ?_⟩
        · refine Nat.le_trans ?_ hmu
          unfold SG.mu
          show unv N into s'.index + pathm into (p ++ [(v, i + 1)]) ≤ _
          rw [c3, hp, pathm_app, pathm_app]; omega
        · show (into v).length - (i + 1) < (into v).length - i
          omega
    · refine sw_cond (b := false) (by simp; omega) ?_
      simp
      refine sw_exit ?_
      simp
      have hie : i = (into v).length := by omega
      refine hq2 _ _ g ?_ (hS.upd (s' := g.s) (path' := g.path) (rest' := g.rest) (hS.rep.same rfl (by simp)) hS.tinv (by simp) (fun _ _ _ => rfl) hS.pobj rfl) (by rw [hp, hie]) hmu
      simp [Covers]

end Go.Proofs.Ytbcgcnmnblfhmaa
