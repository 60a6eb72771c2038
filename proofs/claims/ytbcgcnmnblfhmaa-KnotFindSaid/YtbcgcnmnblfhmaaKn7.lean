/- knot.go: Find. -/
import Derived.Test.YtbcgcnmnblfhmaaKn6
import Derived.Test.YtbcgcnmnblfhmaaK9
namespace Go.Proofs.Ytbcgcnmnblfhmaa
open Lin Tar
set_option maxRecDepth 10000
set_option linter.unusedSimpArgs false

theorem rep_tab (N : Nat) (z : Value) : List.replicate N z = tab N (fun _ => z) := by
  apply List.ext_getElem
  · simp [tab_len]
  · intro i h1 h2; simp [tab]

theorem find_spec (sort : SortC) {h : AHeap} {N : Nat} {into : Nat → List Int} {inv : Value} (G : Graph (fun _ => 0) h N into inv) (hN : N ≤ 1000000) (hI : ∀ v, v < N → (into v).length ≤ 1000000000) {Q : Value → AHeap → Prop}
    (hq : ∀ (h' : AHeap) (ρ : Nat → Nat) (kv : Value) (oid : Nat) (rows : List (Nat × List Nat)) (of : Nat → Nat), h.next ≤ h'.next → (∀ i, i < h.next → h'.obj i = h.obj i) → (∀ i, i < h.next → ρ i = 0) → Row ρ 7 24 h' kv (rows.map fun r => sl r.1 r.2.length) → (∀ r ∈ rows, ρ r.1 = 8 ∧ r.1 < h'.next ∧ h'.obj r.1 = some (.arr true 3 (nats r.2))) →
      ρ oid = 5 → oid < h'.next → h'.obj oid = some (.arr true 3 (tab N fun i => iv (of i))) → Done N into (rows.map (·.2)) of → Q (.tuple #[kv, .slice (some ⟨oid, 0, none⟩) N 1]) h') :
    ACallW Try.prog 9 [inv] h Q := by
  obtain ⟨ip, iq, rfl⟩ := G.shape
  refine enter9 ?_
  unfold c9
  have hw : IntKind.i64.wrap (N : Int) = N := wrap_in (by omega)
  have hb1 : 8 * (N : Int) ≤ 281474976710656 := by omega
  have hb2 : (N : Int) ≤ 281474976710656 := by omega
  have hb3 : (N : Int) ≤ 9223372036854775807 := by omega
  (refine sw_seq ?_; refine sw_reg mixed ?_; simp [Nat.add_assoc, iv, tab_len, tab_getE, tab_set, Nat.add_one_le_iff, p9_0, params, List.range_succ, *])
  refine sw_seq (sw_wf fun hwf => sw_reg mixed ?_)
  simp [p9_1, Nat.add_assoc, rep_tab, *]
  intro z1 z2 z3 z4 z5
  have hoth : ∀ j, j < h.next → ((((((((h.bump 2).bump 16).put (h.next + 5) (.arr true 3 (tab N fun x => .int .i64 0))).put (h.next + 8) (.arr true 3 (tab N fun x => .int .i64 0))).put (h.next + 11) (.arr true 4 (tab N fun x => .bool false))).put
      (h.next + 14) (.arr true 3 (tab N fun x => .int .i64 0))).put (h.next + 16) (.arr true 37 [.slice ip N iq, .slice (some ⟨h.next + 5, 0, none⟩) N 1, .slice (some ⟨h.next + 8, 0, none⟩) N 1,
      .slice (some ⟨h.next + 11, 0, none⟩) N 1, .slice none 0 0, .slice (some ⟨h.next + 14, 0, none⟩) N 1, .int .i64 0, .slice none 0 0]))).obj j = h.obj j := by
    intro j hj
    have fj := ne_fresh hj
    simp [fj]
  have R1 : Rep (fun i => if i = h.next + 5 then 2 else if i = h.next + 8 then 3 else if i = h.next + 11 then 4 else if i = h.next + 14 then 5 else if i = h.next + 16 then 1 else 0)
      ((((((((h.bump 2).bump 16).put (h.next + 5) (.arr true 3 (tab N fun x => .int .i64 0))).put (h.next + 8) (.arr true 3 (tab N fun x => .int .i64 0))).put (h.next + 11) (.arr true 4 (tab N fun x => .bool false))).put
      (h.next + 14) (.arr true 3 (tab N fun x => .int .i64 0))).put (h.next + 16) (.arr true 37 [.slice ip N iq, .slice (some ⟨h.next + 5, 0, none⟩) N 1, .slice (some ⟨h.next + 8, 0, none⟩) N 1,
      .slice (some ⟨h.next + 11, 0, none⟩) N 1, .slice none 0 0, .slice (some ⟨h.next + 14, 0, none⟩) N 1, .int .i64 0, .slice none 0 0]))) N (.slice ip N iq) (h.next + 16) (h.next + 5) (h.next + 8) (h.next + 11) (h.next + 14) (.slice none 0 0) (.slice none 0 0) [] Tar.start := by
    refine ⟨?_, ?_, ?_, ?_, ?_, .none, .none, rfl, by simp, ?_, ?_, ?_, ?_, ?_, ?_, ?_, ?_, ?_, ?_⟩ <;> simp [Tar.start, iv]
  have hnx : h.next + 18 ≤ ((((((((h.bump 2).bump 16).put (h.next + 5) (.arr true 3 (tab N fun x => .int .i64 0))).put (h.next + 8) (.arr true 3 (tab N fun x => .int .i64 0))).put (h.next + 11) (.arr true 4 (tab N fun x => .bool false))).put
      (h.next + 14) (.arr true 3 (tab N fun x => .int .i64 0))).put (h.next + 16) (.arr true 37 [.slice ip N iq, .slice (some ⟨h.next + 5, 0, none⟩) N 1, .slice (some ⟨h.next + 8, 0, none⟩) N 1,
      .slice (some ⟨h.next + 11, 0, none⟩) N 1, .slice none 0 0, .slice (some ⟨h.next + 14, 0, none⟩) N 1, .int .i64 0, .slice none 0 0]))).next := by simp
  generalize (((((((h.bump 2).bump 16).put (h.next + 5) (.arr true 3 (tab N fun x => .int .i64 0))).put (h.next + 8) (.arr true 3 (tab N fun x => .int .i64 0))).put (h.next + 11) (.arr true 4 (tab N fun x => .bool false))).put
      (h.next + 14) (.arr true 3 (tab N fun x => .int .i64 0))).put (h.next + 16) (.arr true 37 [.slice ip N iq, .slice (some ⟨h.next + 5, 0, none⟩) N 1, .slice (some ⟨h.next + 8, 0, none⟩) N 1,
      .slice (some ⟨h.next + 11, 0, none⟩) N 1, .slice none 0 0, .slice (some ⟨h.next + 14, 0, none⟩) N 1, .int .i64 0, .slice none 0 0])) = h1 at *
  have hρ0 : ∀ i, i < h.next → (fun i => if i = h.next + 5 then 2 else if i = h.next + 8 then 3 else if i = h.next + 11 then 4 else if i = h.next + 14 then 5 else if i = h.next + 16 then 1 else 0) i = 0 := by
    intro i hi
    have fi := ne_fresh hi
    simp [fi]
  generalize (fun i => if i = h.next + 5 then 2 else if i = h.next + 8 then 3 else if i = h.next + 11 then 4 else if i = h.next + 14 then 5 else if i = h.next + 16 then 1 else 0) = ρ1 at *
  clear z1 z2 z3 z4 z5 hwf
  have G1 : Graph ρ1 h1 N into (.slice ip N iq) := G.keep (by omega) (fun i hi _ _ => hρ0 i hi) (fun i hi _ _ => hoth i hi)
  generalize h.next + 16 = t at *
  generalize h.next + 5 = ix at *
  generalize h.next + 8 = lw at *
  generalize h.next + 11 = on_ at *
  generalize h.next + 14 = of_ at *
  refine sw_seq (sw_seq ?_)
  (refine sw_reg mixed ?_; simp [Nat.add_assoc, iv, tab_len, tab_getE, tab_set, Nat.add_one_le_iff, p9_2, *])
  refine sw_block ?_
  refine sw_loopG (fun x : Nat × (Nat → Nat) × Value × Value × List (Nat × List Nat) × TS => [(4, .pointer (some ⟨t, 0, none⟩)), (22, iv N), (23, iv x.1)])
    (fun x h' => x.1 ≤ N ∧ Keep ρ1 h1 x.2.1 h' ∧ Rep x.2.1 h' N (.slice ip N iq) t ix lw on_ of_ x.2.2.1 x.2.2.2.1 x.2.2.2.2.1 x.2.2.2.2.2 ∧ TInv N into [] x.2.2.2.2.2 ∧ ∀ v, v < x.1 → x.2.2.2.2.2.index v ≠ 0) (fun x => N - x.1)
    (0, ρ1, .slice none 0 0, .slice none 0 0, [], Tar.start) ?_ ⟨Nat.zero_le _, Keep.same rfl (by simp), R1.same rfl (by simp), TInv.start, fun v hv => absurd hv (Nat.not_lt_zero v)⟩ ?_
  · simp [Covers, iv]
  · rintro ⟨i, ρ, sv, kv, rows, s⟩ h2 ⟨hi, K, R, T, hvis⟩
    simp only at hi K R T hvis
    have hwi : IntKind.i64.wrap ((i : Int) + 1) = ((i + 1 : Nat) : Int) := by rw [wrap_in (by omega)]; omega
    refine sw_seq ?_
    (refine sw_reg mixed ?_; simp [Nat.add_assoc, iv, tab_len, tab_getE, tab_set, Nat.add_one_le_iff, p9_3, *])
    by_cases hlt : i < N
    · refine sw_seq (sw_cond (b := true) (by simp; omega) ?_)
      simp
      refine sw_skip ?_
      simp
      have cells := R.cells
      have r_ix := R.oix
      have R0 := R
      have rn : ∀ a b, ρ a ≠ ρ b → (a = b) = False := fun a b => role_ne
      have rt := R.rt
      have rix := R.rix
      have hR : Hid (Rep ρ h2 N (.slice ip N iq) t ix lw on_ of_ sv kv rows s) := ⟨R⟩
      refine sw_seq (sw_block (sw_seq ?_))
      (refine sw_reg mixed ?_; simp [Nat.add_assoc, iv, tab_len, tab_getE, tab_set, Nat.add_one_le_iff, p9_4, *])
      (refine sw_seq ?_; refine sw_reg mixed ?_; simp [Nat.add_assoc, iv, tab_len, tab_getE, tab_set, Nat.add_one_le_iff, p9_5, *])
      by_cases h0 : s.index i = 0
      · refine sw_cond (b := true) (by simp [h0]) ?_
        simp
        refine sw_reg mixed ?_
        simp [p9_6]
        refine run_callI 10 [.pointer (some ⟨t, 0, none⟩), iv i] (by simp [iv]) ?_
        have hb : ((((h2.bump 1).bump 2).bump 8).bump 3).obj = h2.obj := rfl
        have hbn : h2.next ≤ ((((h2.bump 1).bump 2).bump 8).bump 3).next := by simp; omega
        refine search_spec sort (R0.same hb hbn) T ((G1.keep' K).keep' (Keep.same hb hbn)) hlt h0 hN hI ?_
        intro h3 ρ3 sv3 kv3 rows3 s3 K3 R3 T3 m1 m2
        simp
        (refine sw_reg mixed ?_; simp [Nat.add_assoc, iv, tab_len, tab_getE, tab_set, Nat.add_one_le_iff, p9_7, *])
        refine ⟨i + 1, by simp [Covers], ⟨by omega, ρ3, (K.trans (Keep.same hb hbn)).trans (K3.trans (Keep.same rfl (by simp))), sv3, kv3, rows3, s3, R3.same rfl (by simp), T3, fun v hv => ?_⟩, by omega⟩
        by_cases hvi : v = i
        · subst hvi; exact m2
        · exact m1 v (hvis v (by omega))
      · refine sw_cond (b := false) (by simp [h0]) ?_
        simp
        refine sw_skip ?_
        simp
        have hvis2 : ∀ v, v < i + 1 → s.index v ≠ 0 := fun v hv => by
          by_cases hvi : v = i
          · subst hvi; exact h0
          · exact hvis v (by omega)
        (refine sw_reg mixed ?_; simp [Nat.add_assoc, iv, tab_len, tab_getE, tab_set, Nat.add_one_le_iff, p9_7, *])
        refine ⟨i + 1, by simp [Covers], ⟨by omega, ρ, K.trans (Keep.same rfl (by simp; omega)), sv, kv, rows, s, R0.same rfl (by simp; omega), T, hvis2⟩, by omega⟩
    · refine sw_seq (sw_cond (b := false) (by simp; omega) ?_)
      simp
      refine sw_exit ?_
      simp
      have hie : i = N := by omega
      subst hie
      have D := T.done hvis
      have cells := R.cells
      obtain ⟨kp, kq, hkv⟩ := row_slice R.knt
      rw [List.length_map] at hkv
      subst hkv
      (refine sw_seq ?_; refine sw_reg mixed ?_; simp [Nat.add_assoc, iv, tab_len, tab_getE, tab_set, Nat.add_one_le_iff, p9_8, *])
      refine sw_ret ?_
      simp
      have hKk := K
      rw [R.knots] at D
      refine hq _ ρ _ of_ rows s.of ?_ ?_ ?_ ?_ ?_ R.rof ?_ ?_ D
      · have := K.nxt; simp; omega
      · intro j hj
        exact (K.obj j (by omega) (.inl (hρ0 j hj))).trans (hoth j hj)
      · intro j hj
        exact (K.role j (by omega)).trans (hρ0 j hj)
      · exact row_keep R.knt (by simp; omega) (fun _ _ => rfl) (fun _ _ _ => rfl)
      · intro r hr
        obtain ⟨a, b, c⟩ := R.each r hr
        exact ⟨a, by simp; omega, c⟩
      · have := R.lof; simp; omega
      · exact R.oof

end Go.Proofs.Ytbcgcnmnblfhmaa
