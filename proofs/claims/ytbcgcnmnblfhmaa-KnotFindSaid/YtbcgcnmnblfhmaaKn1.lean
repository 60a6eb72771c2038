/- knot.go: enter. -/
import Derived.Test.YtbcgcnmnblfhmaaKn0
import Derived.Test.YtbcgcnmnblfhmaaKT
import Derived.Test.YtbcgcnmnblfhmaaK11
namespace Go.Proofs.Ytbcgcnmnblfhmaa
open Lin Tar
set_option maxRecDepth 10000
set_option linter.unusedSimpArgs false

theorem enter_fin {ρ : Nat → Nat} {h : AHeap} {N : Nat} {inv : Value} {t ix lw on_ of_ : Nat} {sv kv : Value} {rows : List (Nat × List Nat)} {s : TS}
    (R : Rep ρ h N inv t ix lw on_ of_ sv kv rows s) {v : Nat} {Q : Value → AHeap → Prop}
    (hq : ∀ h' ρ' sv', Keep ρ h ρ' h' → Rep ρ' h' N inv t ix lw on_ of_ sv' kv rows (enterT s v) → Q (.agg #[iv v, iv 0]) h')
    {h' : AHeap} (id : Nat) (hid : h.next ≤ id) (hid' : id < h'.next)
    (c1 : h'.obj t = some (.arr true 37 [inv, .slice (some ⟨ix, 0, none⟩) N 1, .slice (some ⟨lw, 0, none⟩) N 1, .slice (some ⟨on_, 0, none⟩) N 1, .slice (some ⟨id, 0, none⟩) (s.stack.length + 1) 1, .slice (some ⟨of_, 0, none⟩) N 1, iv (s.n + 1), kv]))
    (c2 : h'.obj ix = some (.arr true 3 (tab N fun i => iv (upd s.index v (s.n + 1) i)))) (c3 : h'.obj lw = some (.arr true 3 (tab N fun i => iv (upd s.low v (s.n + 1) i))))
    (c4 : h'.obj on_ = some (.arr true 4 (tab N fun i => .bool (upd s.on v true i)))) (c5 : h'.obj id = some (.arr true 3 (nats (s.stack ++ [v]))))
    (fr : ∀ i, i < h.next → ρ i ≠ 1 → ρ i ≠ 2 → ρ i ≠ 3 → ρ i ≠ 4 → ρ i ≠ 6 → h'.obj i = h.obj i) : Q (.agg #[iv v, iv 0]) h' := by
  have hle : h.next ≤ h'.next := by omega
  have hρ : ∀ i, i < h.next → (fun i => if i = id then 6 else ρ i) i = ρ i := fun i hi => by show (if i = id then 6 else ρ i) = _; rw [if_neg (by omega)]
  refine hq h' (fun i => if i = id then 6 else ρ i) (.slice (some ⟨id, 0, none⟩) (s.stack.length + 1) 1) ⟨hle, hρ, fun i hi hr => fr i hi (by omega) (by omega) (by omega) (by omega) (by omega)⟩ ?_
  have g := fun i hi => Nat.lt_of_lt_of_le (m := h.next) (n := i) hi hle
  refine ⟨c1, c2, c3, c4, ?_, ?_, ?_, R.knots, ?_, ?_, ?_, ?_, ?_, ?_, g _ R.lt, g _ R.lix, g _ R.llw, g _ R.lon, g _ R.lof⟩
  · rw [fr _ R.lof (by simp [R.rof]) (by simp [R.rof]) (by simp [R.rof]) (by simp [R.rof]) (by simp [R.rof])]; exact R.oof
  · refine row_mk [] (by simp [enterT, nats]) (by simp) hid' ?_
    rw [List.append_nil]; exact c5
  · exact row_keep R.knt hle hρ (fun i hi hr => fr i hi (by omega) (by omega) (by omega) (by omega) (by omega))
  · intro r hr
    obtain ⟨a, b, c⟩ := R.each r hr
    exact ⟨(hρ _ b).trans a, g _ b, by rw [fr _ b (by omega) (by omega) (by omega) (by omega) (by omega)]; exact c⟩
  · exact (hρ _ R.lt).trans R.rt
  · exact (hρ _ R.lix).trans R.rix
  · exact (hρ _ R.llw).trans R.rlw
  · exact (hρ _ R.lon).trans R.ron
  · exact (hρ _ R.lof).trans R.rof

theorem enter_spec {ρ : Nat → Nat} {h : AHeap} {N : Nat} {inv : Value} {t ix lw on_ of_ : Nat} {sv kv : Value} {rows : List (Nat × List Nat)} {s : TS}
    (R : Rep ρ h N inv t ix lw on_ of_ sv kv rows s) {v : Nat} (hv : v < N) (hN : N ≤ 1000000) (hn : s.n < N) (hs : s.stack.length < N) {Q : Value → AHeap → Prop}
    (hq : ∀ h' ρ' sv', Keep ρ h ρ' h' → Rep ρ' h' N inv t ix lw on_ of_ sv' kv rows (enterT s v) → Q (.agg #[iv v, iv 0]) h') :
    ACallW Try.prog 11 [.pointer (some ⟨t, 0, none⟩), iv v] h Q := by
  have R0 := R
  obtain ⟨cells, r_ix, r_lw, r_on, r_of, stk, knt, hrows, each, rt, rix, rlw, ron, rof, lt, lix, llw, lon, lof⟩ := R
  have f1 := ne_fresh lt
  have f2 := ne_fresh lix
  have f3 := ne_fresh llw
  have f4 := ne_fresh lon
  have rn : ∀ a b, ρ a ≠ ρ b → (a = b) = False := fun a b => role_ne
  have hn1 : IntKind.i64.wrap ((s.n : Int) + 1) = (s.n : Int) + 1 := wrap_in (by omega)
  refine enter11 ?_
  unfold c11
  (refine sw_seq ?_; refine sw_reg mixed ?_; simp [Nat.add_assoc, iv, tab_len, tab_getE, tab_set, Nat.add_one_le_iff, p11_0, params, List.range_succ, *])
  intro g1
  (refine sw_seq ?_; refine sw_reg mixed ?_; simp [Nat.add_assoc, iv, tab_len, tab_getE, tab_set, Nat.add_one_le_iff, p11_1, *])
  (refine sw_seq ?_; refine sw_reg mixed ?_; simp [Nat.add_assoc, iv, tab_len, tab_getE, tab_set, Nat.add_one_le_iff, p11_2, *])
  have hb : ((nats s.stack).length + 1) * 8 ≤ 140737488355328 := by rw [nats_len]; omega
  have hl : s.stack.length = (nats s.stack).length := (nats_len _).symm
  have ha : nats (s.stack ++ [v]) = nats s.stack ++ [.int .i64 v] := nats_app _ _
  generalize hstk : nats s.stack = st at stk hb hl ha
  cases stk with
  | none =>
    (refine sw_seq ?_; refine sw_reg mixed ?_; simp [Nat.add_assoc, iv, tab_len, tab_getE, tab_set, Nat.add_one_le_iff, p11_3, *])
    intro g2
    (refine sw_seq ?_; refine sw_reg mixed ?_; simp [Nat.add_assoc, iv, tab_len, tab_getE, tab_set, Nat.add_one_le_iff, p11_4, *])
    refine sw_ret ?_
    simp
    refine enter_fin R0 hq (h.next + 45) ?_ ?_ ?_ ?_ ?_ ?_ ?_ ?fr
    case fr => intro i hi q1 q2 q3 q4 q6; have fi := ne_fresh hi; simp [Nat.add_assoc, *]
    all_goals simp [Nat.add_assoc, iv, upd_n1, upd_bool, *]
  | some c hr lts ho =>
    have f5 := ne_fresh lts
    (refine sw_seq ?_; refine sw_reg mixed ?_; simp [Nat.add_assoc, iv, tab_len, tab_getE, tab_set, Nat.add_one_le_iff, p11_3, *])
    intro g2
    (refine sw_seq ?_; refine sw_reg mixed ?_; simp [Nat.add_assoc, iv, tab_len, tab_getE, tab_set, Nat.add_one_le_iff, p11_4, *])
    refine sw_ret ?_
    simp
    refine enter_fin R0 hq (h.next + 45) ?_ ?_ ?_ ?_ ?_ ?_ ?_ ?fr
    case fr => intro i hi q1 q2 q3 q4 q6; have fi := ne_fresh hi; simp [Nat.add_assoc, *]
    all_goals simp [Nat.add_assoc, iv, upd_n1, upd_bool, *]
end Go.Proofs.Ytbcgcnmnblfhmaa
