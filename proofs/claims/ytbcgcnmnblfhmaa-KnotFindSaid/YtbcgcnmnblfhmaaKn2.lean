/- knot.go: leave. -/
import Derived.Test.YtbcgcnmnblfhmaaKn0
import Derived.Test.YtbcgcnmnblfhmaaKT
import Derived.Test.YtbcgcnmnblfhmaaK12
namespace Go.Proofs.Ytbcgcnmnblfhmaa
open Lin Tar
set_option maxRecDepth 10000
set_option linter.unusedSimpArgs false

/-- What slices.Sort does to a row of ints that is its own. -/
def SortC : Prop := ∀ (h : AHeap) (id n : Nat) (l : List Nat) (Q : Value → AHeap → Prop), n = l.length → id < h.next → h.obj id = some (.arr true 3 (nats l)) → (∀ x ∈ l, x < 1000000) → l.length ≤ 1000000 →
  (∀ h' l', l'.Perm l → l'.Pairwise (· ≤ ·) → h.next ≤ h'.next → h'.obj id = some (.arr true 3 (nats l')) → (∀ i, i < h.next → i ≠ id → h'.obj i = h.obj i) → Q (.tuple #[]) h') →
  ACallW Try.prog 13 [.slice (some ⟨id, 0, none⟩) n 1] h Q

theorem leave_fin {ρ : Nat → Nat} {h : AHeap} {N : Nat} {inv : Value} {t ix lw on_ of_ : Nat} {sv kv : Value} {rows : List (Nat × List Nat)} {s : TS}
    (R : Rep ρ h N inv t ix lw on_ of_ sv kv rows s) {v : Nat} {a b l : List Nat} (hs : s.stack = a ++ v :: b) {sid : Nat} (hsv : sv = .slice (some ⟨sid, 0, none⟩) s.stack.length 1) {Q : Value → AHeap → Prop}
    (hq : ∀ h' ρ' sv' kv' rows', Keep ρ h ρ' h' → Rep ρ' h' N inv t ix lw on_ of_ sv' kv' rows' (leaveT s a b l v) → Q (.tuple #[]) h')
    {h' : AHeap} (lid id : Nat) (hlid : h.next ≤ lid) (hid : h.next ≤ id) (hne : lid < id) (hid' : id < h'.next)
    (c1 : h'.obj t = some (.arr true 37 [inv, .slice (some ⟨ix, 0, none⟩) N 1, .slice (some ⟨lw, 0, none⟩) N 1, .slice (some ⟨on_, 0, none⟩) N 1, .slice (some ⟨sid, 0, none⟩) a.length 1, .slice (some ⟨of_, 0, none⟩) N 1, iv s.n, .slice (some ⟨id, 0, none⟩) (rows.length + 1) 1]))
    (c2 : h'.obj on_ = some (.arr true 4 (tab N fun i => .bool (if i ∈ v :: b then false else s.on i)))) (c3 : h'.obj of_ = some (.arr true 3 (tab N fun i => iv (if i ∈ v :: b then s.knots.length else s.of i))))
    (c4 : h'.obj lid = some (.arr true 3 (nats l))) (c5 : h'.obj id = some (.arr true 24 ((rows.map fun r => sl r.1 r.2.length) ++ [sl lid l.length])))
    (fr : ∀ i, i < h.next → ρ i ≠ 1 → ρ i ≠ 4 → ρ i ≠ 5 → ρ i ≠ 7 → h'.obj i = h.obj i) : Q (.tuple #[]) h' := by
  have hle : h.next ≤ h'.next := by omega
  have hρ : ∀ i, i < h.next → (fun i => if i = lid then 8 else if i = id then 7 else ρ i) i = ρ i := fun i hi => by show (if i = lid then 8 else if i = id then 7 else ρ i) = _; rw [if_neg (by omega), if_neg (by omega)]
  refine hq h' (fun i => if i = lid then 8 else if i = id then 7 else ρ i) (.slice (some ⟨sid, 0, none⟩) a.length 1) (.slice (some ⟨id, 0, none⟩) (rows.length + 1) 1) (rows ++ [(lid, l)]) ⟨hle, hρ, fun i hi hr => fr i hi (by omega) (by omega) (by omega) (by omega)⟩ ?_
  have g := fun i hi => Nat.lt_of_lt_of_le (m := h.next) (n := i) hi hle
  refine ⟨c1, ?_, ?_, c2, c3, ?_, ?_, ?_, ?_, ?_, ?_, ?_, ?_, ?_, g _ R.lt, g _ R.lix, g _ R.llw, g _ R.lon, g _ R.lof⟩
  · rw [fr _ R.lix (by simp [R.rix]) (by simp [R.rix]) (by simp [R.rix]) (by simp [R.rix])]; exact R.oix
  · rw [fr _ R.llw (by simp [R.rlw]) (by simp [R.rlw]) (by simp [R.rlw]) (by simp [R.rlw])]; exact R.olw
  · have hst := R.stk
    subst hsv
    rcases row_inv hst with ⟨e, _⟩ | ⟨id', c, e, hr, lts, ho⟩
    · cases e
    · have e2 : sid = id' := by injection e with e; injection e with e; injection e
      subst e2
      refine row_mk (nats (v :: b) ++ c) (nats_len _).symm ((hρ _ lts).trans hr) (g _ lts) ?_
      rw [fr _ lts (by omega) (by omega) (by omega) (by omega), ho, hs, nats_app, List.append_assoc]
      rfl
  · refine row_mk [] (by simp) (by simp; omega) hid' ?_
    rw [c5]; simp
  · show s.knots ++ [l] = _
    rw [R.knots]; simp
  · intro r hr
    rcases List.mem_append.1 hr with hr | hr
    · obtain ⟨a, b, c⟩ := R.each r hr
      exact ⟨(hρ _ b).trans a, g _ b, by rw [fr _ b (by omega) (by omega) (by omega) (by omega)]; exact c⟩
    · have : r = (lid, l) := by simpa using hr
      subst this
      exact ⟨by simp, by show lid < h'.next; omega, c4⟩
  · exact (hρ _ R.lt).trans R.rt
  · exact (hρ _ R.lix).trans R.rix
  · exact (hρ _ R.llw).trans R.rlw
  · exact (hρ _ R.lon).trans R.ron
  · exact (hρ _ R.lof).trans R.rof

theorem leave_rest (sort : SortC) {ρ : Nat → Nat} {h : AHeap} {N : Nat} {inv : Value} {t ix lw on_ of_ : Nat} {sid : Nat} {kv : Value} {rows : List (Nat × List Nat)} {s : TS} {n : Nat}
    (R : Rep ρ h N inv t ix lw on_ of_ (.slice (some ⟨sid, 0, none⟩) n 1) kv rows s) {v : Nat} (hv : v < N) (hN : N ≤ 1000000) {a b : List Nat} (hs : s.stack = a ++ v :: b) (hlt : ∀ x ∈ s.stack, x < N)
    (hsl : s.stack.length ≤ N) (hn : n = s.stack.length) (hk : s.knots.length < N) {Q : Value → AHeap → Prop}
    (hq : ∀ l h' ρ' sv' kv' rows', l.Perm (v :: b) → l.Pairwise (· ≤ ·) → Keep ρ h ρ' h' → Rep ρ' h' N inv t ix lw on_ of_ sv' kv' rows' (leaveT s a b l v) → Q (.tuple #[]) h') :
    SW Try.prog 77 ((SCode.reg 8 [0, 1, 4, 5, 7, 41, 42, 43] p12_3).seq
      ((SCode.reg 10 [0, 1, 4, 5, 7, 41, 42, 43] p12_4).seq
        (((SCode.reg 3 [0, 1, 4, 5, 7, 41, 42, 43] p12_5).seq
              (SCode.block 2
                ((SCode.reg 1 [0, 1, 4, 5, 7, 41, 42, 43, 44] p12_6).seq
                    ((SCode.cond 44 false SCode.skip (SCode.exit 2)).seq
                      ((SCode.block 3
                            ((SCode.reg 3 [0, 1, 4, 5, 7, 41, 42, 43] p12_7).seq
                              (SCode.reg 19 [0, 1, 4, 5, 7, 41, 42, 43] p12_8))).seq
                        (SCode.reg 2 [0, 1, 4, 5, 7, 41, 42, 43] p12_9)))).loop)).seq
          ((SCode.reg 2 [0, 1, 4, 5, 7, 41, 42, 43] p12_10).seq (SCode.reg 11 [0, 1, 4, 5, 7, 41, 42, 43] p12_11)))))
      [(0, .pointer (some ⟨t, 0, none⟩)), (1, .int .i64 v), (4, .int .i64 a.length)] h (retQ Try.prog [] Q) := by
  have R0 := R
  obtain ⟨cells, r_ix, r_lw, r_on, r_of, stk, knt, hrows, each, rt, rix, rlw, ron, rof, lt, lix, llw, lon, lof⟩ := R
  have rn : ∀ a b, ρ a ≠ ρ b → (a = b) = False := fun a b => role_ne
  obtain ⟨c, hr, lts, ho⟩ : ∃ c, ρ sid = 6 ∧ sid < h.next ∧ h.obj sid = some (.arr true 3 (nats s.stack ++ c)) := by
    rcases row_inv stk with ⟨e, e2⟩ | ⟨sid', c, e, hr, lts, ho⟩
    · cases e
    · injection e with e; injection e with e; injection e with e; subst e; exact ⟨c, hr, lts, ho⟩
  obtain ⟨kp, kq, hkv⟩ := row_slice knt
  rw [List.length_map] at hkv
  subst hkv
  have hkl : s.knots.length = rows.length := by rw [hrows]; simp
  replace hrows : Hid _ := ⟨hrows⟩
  have hlen : n = a.length + b.length + 1 := by rw [hn, hs]; simp; omega
  have f1 := ne_fresh lt
  have f2 := ne_fresh lts
  have f3 := ne_fresh lon
  have f4 := ne_fresh lof
  have hbN : b.length + 1 ≤ N := by omega
  have e1 : a.length ≤ n := by omega
  have e2 : n - a.length = b.length + 1 := by omega
  have e3 : n ≤ (nats s.stack).length + c.length := by rw [nats_len]; omega
  have e4 : ¬ (b.length + 1 = 0) := by omega
  have e5 : (b.length + 1) * 8 ≤ 140737488355328 := by omega
  have e6 : List.take (b.length + 1) (List.drop a.length (nats s.stack ++ c)) = nats (v :: b) := by
    rw [hs, nats_app, List.append_assoc, ← nats_len a, List.drop_left, show b.length + 1 = (nats (v :: b)).length by rw [nats_len]; rfl, List.take_left]
  have e7 : a.length + (b.length + 1) ≤ (nats s.stack).length + c.length := by rw [nats_len]; omega
  have hlt' : ∀ x ∈ v :: b, x < N := fun x hx => hlt x (by rw [hs]; exact List.mem_append_right _ hx)
  clear hlt
  replace hs : Hid _ := ⟨hs⟩
  replace hlen : Hid _ := ⟨hlen⟩
  replace hn : Hid _ := ⟨hn⟩
  replace stk : Hid _ := ⟨stk⟩
  (refine sw_seq ?_; refine sw_reg mixed ?_; simp [Nat.add_assoc, iv, tab_len, tab_getE, tab_set, Nat.add_one_le_iff, p12_3, *])
  (refine sw_seq ?_; refine sw_reg mixed ?_; simp [Nat.add_assoc, iv, tab_len, tab_getE, tab_set, Nat.add_one_le_iff, p12_4, *])
  refine sw_seq (sw_seq ?_)
  (refine sw_reg mixed ?_; simp [Nat.add_assoc, iv, tab_len, tab_getE, tab_set, Nat.add_one_le_iff, p12_5, *])
  refine sw_block ?_
  refine sw_loopG (fun i : Nat => [(0, .pointer (some ⟨t, 0, none⟩)), (5, .slice (some ⟨h.next + 6, 0, none⟩) (b.length + 1) 1), (41, .slice (some ⟨h.next + 6, 0, none⟩) (b.length + 1) 1), (42, iv (b.length + 1)), (43, iv i)])
    (fun i h' => i ≤ b.length + 1 ∧ h.next + 6 < h'.next ∧ h'.obj t = some (.arr true 37 [inv, .slice (some ⟨ix, 0, none⟩) N 1, .slice (some ⟨lw, 0, none⟩) N 1, .slice (some ⟨on_, 0, none⟩) N 1, .slice (some ⟨sid, 0, none⟩) a.length 1, .slice (some ⟨of_, 0, none⟩) N 1, iv s.n, .slice kp rows.length kq])
      ∧ h'.obj (h.next + 6) = some (.arr true 3 (nats (v :: b)))
      ∧ h'.obj on_ = some (.arr true 4 (tab N (fun j => .bool (offN ((v :: b).take i) false s.on j)))) ∧ h'.obj of_ = some (.arr true 3 (tab N (fun j => iv (offN ((v :: b).take i) rows.length s.of j))))
      ∧ ∀ j, j < h.next → ρ j ≠ 1 → ρ j ≠ 4 → ρ j ≠ 5 → h'.obj j = h.obj j) (fun i => b.length + 1 - i) 0 ?_ ?_ ?_
  · simp [Covers, iv]
  · refine ⟨by omega, by simp <;> omega, ?_, ?_, ?_, ?_, ?fr⟩
    case fr => intro i hi q1 q2 q3; have fi := ne_fresh hi; simp [Nat.add_assoc, *]
    all_goals simp [Nat.add_assoc, iv, upd_n1, upd_bool, offN_nil, *]
  · rintro i h' ⟨hi, hnx, d1, d2, d3, d4, d5⟩
    refine sw_seq ?_
    (refine sw_reg mixed ?_; simp [Nat.add_assoc, iv, tab_len, tab_getE, tab_set, Nat.add_one_le_iff, p12_6, *])
    by_cases hlt : i < b.length + 1
    · obtain ⟨w, hw⟩ : ∃ w, (v :: b)[i]? = some w := ⟨(v :: b)[i]'(by simpa using hlt), by simp⟩
      have hwN := hlt' w (List.mem_of_getElem? hw)
      have hget := nats_get hw []
      rw [List.append_nil] at hget
      have hwr : IntKind.i64.wrap ((i : Int) + 1) = ((i + 1 : Nat) : Int) := by rw [wrap_in (by omega)]; omega
      have hon := upd_off hw false s.on
      have hof := upd_off hw rows.length s.of
      have z1 : (i : Int) < (b.length : Int) + 1 := by omega
      refine sw_seq (sw_cond (b := true) (by simp; omega) ?_)
      simp
      refine sw_skip ?_
      simp
      refine sw_seq (sw_block (sw_seq ?_))
      (refine sw_reg mixed ?_; simp [Nat.add_assoc, iv, tab_len, tab_getE, tab_set, Nat.add_one_le_iff, p12_7, *])
      (refine sw_reg mixed ?_; simp [Nat.add_assoc, iv, tab_len, tab_getE, tab_set, Nat.add_one_le_iff, p12_8, upd_n, upd_bool, *])
      (refine sw_reg mixed ?_; simp [Nat.add_assoc, iv, tab_len, tab_getE, tab_set, Nat.add_one_le_iff, p12_9, *])
      refine ⟨i + 1, ?_, ?_, ?_⟩
      · simp [Covers]
      · simp [*]
        refine ⟨by omega, by omega, ?fr⟩
        case fr => intro j hj q1 q2 q3; simp [*]
      · omega
    · obtain rfl : i = b.length + 1 := by omega
      have htk : (v :: b).take (b.length + 1) = v :: b := List.take_of_length_le (by simp)
      rw [htk] at d3 d4
      clear htk
      refine sw_seq (sw_cond (b := false) (by simp) ?_)
      simp
      refine sw_exit ?_
      simp
      refine sw_seq (sw_reg mixed ?_)
      simp [p12_10]
      refine run_callI 13 [.slice (some ⟨h.next + 6, 0, none⟩) (b.length + 1) 1] (by simp) ?_
      refine sort _ (h.next + 6) (b.length + 1) (v :: b) _ rfl (by simp; omega) (by simpa using d2) (fun x hx => by have := hlt' x hx; omega) (by rw [List.length_cons]; omega) ?_
      intro h2 l p1 p2 p3 p4 p5
      simp at p3 p5
      have p6 : ∀ j, j < h.next → h2.obj j = h'.obj j := fun j hj => p5 j (by omega) (by omega)
      have g1 := p6 t lt
      have g2 := p6 on_ lon
      have g3 := p6 of_ lof
      have fl : ∀ j, j < h.next → ρ j ≠ 1 → ρ j ≠ 4 → ρ j ≠ 5 → h2.obj j = h.obj j := fun j hj q1 q2 q3 => (p6 j hj).trans (d5 j hj q1 q2 q3)
      have f5 := ne_fresh (show h.next + 6 < h2.next by omega)
      have f6 := ne_fresh (show t < h2.next by omega)
      have f7 := ne_fresh (show on_ < h2.next by omega)
      have f8 := ne_fresh (show of_ < h2.next by omega)
      rw [d1] at g1
      rw [d3] at g2
      rw [d4] at g3
      have p1' : Hid _ := ⟨p1⟩
      have hll : l.length = b.length + 1 := by rw [p1.length_eq]; rfl
      replace hll : Hid _ := ⟨hll⟩
      clear d1 d2 d3 d4 d5 p5 p6 p1 hlt' hi hlt
      have hkb : (rows.length + 1) * 24 ≤ 140737488355328 := by omega
      have hl1 : h.next ≤ h.next + 6 := by omega
      have hl2 : h.next + 6 < h2.next := by omega
      generalize h.next + 6 = lid at *
      rcases row_inv knt with ⟨e, e'⟩ | ⟨kid, kc, e, ke1, ke2, ke3⟩
      · injection e with e e3 e4
        subst e; subst e4
        have hrl : rows = [] := by simpa using e'
        subst hrl
        simp
        (refine sw_reg mixed ?_; simp [Nat.add_assoc, iv, tab_len, tab_getE, tab_set, Nat.add_one_le_iff, p12_11, *])
        intro g4
        refine leave_fin R0 hs.out (sid := sid) (by rw [hn.out]) (fun h' ρ' sv' kv' rows' q1 q2 => hq l h' ρ' sv' kv' rows' p1'.out p2 q1 q2) lid (h2.next + 7) (by omega) (by omega) (by omega) ?_ ?_ ?_ ?_ ?_ ?_ ?fr
        case fr => intro j hj q1 q2 q3 q4; have fi := ne_fresh (show j < h2.next by omega); have fj : (j = lid) = False := by simp; omega
                   simp [Nat.add_assoc, *]
        all_goals simp [Nat.add_assoc, iv, offN, hll.out, sl, *]
        omega
      · injection e with e e3 e4
        subst e; subst e4
        rw [List.length_map] at e3
        have hml : (List.map (fun r : Nat × List Nat => sl r.1 r.2.length) rows).length = rows.length := List.length_map _
        have f9 := ne_fresh (show kid < h2.next by omega)
        have g5 := fl kid ke2 (by omega) (by omega) (by omega)
        have htk : List.take rows.length (List.map (fun r : Nat × List Nat => sl r.1 r.2.length) rows ++ kc) = List.map (fun r : Nat × List Nat => sl r.1 r.2.length) rows := by
          conv => lhs; rw [← hml]
          exact List.take_left
        generalize hrl : List.map (fun r : Nat × List Nat => sl r.1 r.2.length) rows = rl at *
        simp
        (refine sw_reg mixed ?_; simp [Nat.add_assoc, iv, tab_len, tab_getE, tab_set, Nat.add_one_le_iff, p12_11, *])
        intro g4
        have fl1 : (lid = t) = False := by simp; omega
        have fl2 : (lid = kid) = False := by simp; omega
        have fl3 : sl lid (b.length + 1) = .slice (some ⟨lid, 0, none⟩) (b.length + 1) 1 := rfl
        refine leave_fin R0 hs.out (sid := sid) (by rw [hn.out]) (fun h' ρ' sv' kv' rows' q1 q2 => hq l h' ρ' sv' kv' rows' p1'.out p2 q1 q2) lid (h2.next + 7) (by omega) (by omega) (by omega) ?_ ?_ ?_ ?_ ?_ ?_ ?fr
        case fr => intro j hj q1 q2 q3 q4; have fi := ne_fresh (show j < h2.next by omega); have fj : (j = lid) = False := by simp; omega
                   simp [Nat.add_assoc, *]
        all_goals simp [Nat.add_assoc, iv, offN, hll.out, *]

theorem leave_spec (sort : SortC) {ρ : Nat → Nat} {h : AHeap} {N : Nat} {inv : Value} {t ix lw on_ of_ : Nat} {sv kv : Value} {rows : List (Nat × List Nat)} {s : TS}
    (R : Rep ρ h N inv t ix lw on_ of_ sv kv rows s) {v : Nat} (hv : v < N) (hN : N ≤ 1000000) {a b : List Nat} (hs : s.stack = a ++ v :: b) (hlt : ∀ x ∈ s.stack, x < N) (hnd : s.stack.Nodup) (hk : s.knots.length < N)
    (hsl : s.stack.length ≤ N) {Q : Value → AHeap → Prop}
    (hq : ∀ l h' ρ' sv' kv' rows', l.Perm (v :: b) → l.Pairwise (· ≤ ·) → Keep ρ h ρ' h' → Rep ρ' h' N inv t ix lw on_ of_ sv' kv' rows' (leaveT s a b l v) → Q (.tuple #[]) h') :
    ACallW Try.prog 12 [.pointer (some ⟨t, 0, none⟩), iv v] h Q := by
  have R0 := R
  obtain ⟨cells, r_ix, r_lw, r_on, r_of, stk, knt, hrows, each, rt, rix, rlw, ron, rof, lt, lix, llw, lon, lof⟩ := R
  have rn : ∀ a b, ρ a ≠ ρ b → (a = b) = False := fun a b => role_ne
  rcases row_inv stk with ⟨e, e2⟩ | ⟨sid, c, e, hr, lts, ho⟩
  · rw [hs] at e2; simp [nats] at e2
  subst e
  rw [nats_len] at cells R0
  have hlen : s.stack.length = a.length + b.length + 1 := by rw [hs]; simp; omega
  refine enter12 ?_
  unfold c12
  have f1 := ne_fresh lt
  have f2 := ne_fresh lts
  generalize hst : s.stack = st at *
  replace hs : Hid _ := ⟨hs⟩
  replace hlen : Hid _ := ⟨hlen⟩
  replace hst : Hid _ := ⟨hst⟩
  have hl := hlen.out
  have hw : IntKind.i64.wrap ((st.length : Int) - 1) = ((a.length + b.length : Nat) : Int) := by rw [wrap_in (by omega)]; omega
  clear hl
  refine sw_seq ?_
  refine sw_reg mixed ?_
  simp [p12_0, params, List.range_succ, cells, hw, -Int.natCast_add]
  refine sw_seq (sw_block ?_)
  refine sw_loopG (fun k : Nat => [(0, .pointer (some ⟨t, 0, none⟩)), (1, iv v), (4, iv k)]) (fun k h' => a.length ≤ k ∧ k < st.length ∧ h'.obj = h.obj ∧ h.next ≤ h'.next) (fun k => k) (a.length + b.length) ?_ ?_ ?_
  · simp [Covers, iv]
  · simp [hlen.out]; exact rfl
  · rintro k h' ⟨hj, hjl, hobj, hnx⟩
    obtain ⟨x, hx⟩ : ∃ x, st[k]? = some x := ⟨st[k], by simp [hjl]⟩
    have hget := nats_get hx c
    refine sw_seq (sw_seq ?_)
    (refine sw_reg mixed ?_; simp [Nat.add_assoc, iv, tab_len, tab_getE, tab_set, Nat.add_one_le_iff, p12_1, *])
    have hsv : st[a.length]? = some v := by rw [hs.out]; simp
    by_cases hxv : x = v
    · subst hxv
      have hka : k = a.length := by
        have h1 := (List.getElem?_eq_some_iff.1 hx).2
        have h2 := (List.getElem?_eq_some_iff.1 hsv).2
        exact (List.getElem_inj hnd).1 (h1.trans h2.symm)
      refine sw_cond (b := false) (by simp) ?_
      simp
      refine sw_exit ?_
      simp
      subst hka
      have R2 := R0.same (h1 := h'.bump 9) (by rw [← hobj]; rfl) (by simp; omega)
      refine leave_rest sort R2 hv hN (hst.out.trans hs.out) (fun y hy => hlt y (by rw [hst.out] at hy; exact hy)) (by rw [hst.out]; exact hsl) (by rw [hst.out]) hk
        (fun l h2 ρ' sv' kv' rows' p1 p2 p3 p4 => hq l h2 ρ' sv' kv' rows' p1 p2 ((Keep.same (by rw [← hobj]; rfl) (by simp; omega)).trans p3) p4)
    · refine sw_cond (b := true) (by simp; omega) ?_
      simp
      refine sw_skip ?_
      simp
      refine sw_block ?_
      have hka : k ≠ a.length := by
        intro e; subst e
        rw [hsv] at hx
        exact hxv (Option.some.inj hx).symm
      have hw2 : IntKind.i64.wrap ((k : Int) - 1) = ((k - 1 : Nat) : Int) := by rw [wrap_in (by omega)]; omega
      (refine sw_reg mixed ?_; simp [Nat.add_assoc, iv, tab_len, tab_getE, tab_set, Nat.add_one_le_iff, p12_2, *])
      refine ⟨k - 1, ?_, ?_, ?_⟩
      · simp [Covers]
      · exact ⟨by omega, by omega, hobj, by omega⟩
      · omega
end Go.Proofs.Ytbcgcnmnblfhmaa
