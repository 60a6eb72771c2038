/- KnotFind: its last part: who is in one knot, and in which order. -/
import Derived.Test.YtbcgcnmnblfhmaaFd1
import Derived.Test.YtbcgcnmnblfhmaaKt3
namespace Go.Proofs.Ytbcgcnmnblfhmaa
open Lin Tar
set_option maxRecDepth 10000
set_option linter.unusedSimpArgs false

set_option maxHeartbeats 2000000 in
theorem find_t12 {h0 h : AHeap} (st : ∀ i, still (h0.obj i) = true) (on : On h0 h) {n O oid : Nat} {rid : Nat → Nat} {R : Nat → Nat → Bool} {of : Nat → Nat} {w1 w2 : Bool} {oty : TypeId} (hn : n ≤ 25)
    (lO : O < h0.next) (hO : h0.obj O = some (.arr w1 oty (tab n fun v => .slice (some ⟨rid v, 0, none⟩) n 1))) (hr : ∀ v, v < n → rid v < h0.next ∧ ∃ w, h0.obj (rid v) = some (.arr w 4 (tab n fun u => .bool (R v u))))
    (lo : oid < h0.next) (ho : h0.obj oid = some (.arr w2 3 (tab n fun i => iv (of i)))) (law : ∀ v u, v < n → u < n → (((of v = of u) ↔ (R v u && R u v) = true) ∧ (R v u = true → of u ≤ of v))) :
    SW Try.prog 287 c3_12 [(5, iv n), (11, .slice (some ⟨O, 0, none⟩) n 1), (19, .slice (some ⟨oid, 0, none⟩) n 1), (20, iv n)] h (retQ Try.prog [.tmp 4] fun v _ => v = .bool true) := by
  unfold c3_12 c3_13 c3_14
  have hrH : Hid _ := ⟨And.intro hr law⟩
  clear hr law
  refine sw_seq (sw_seq ?_)
  (refine sw_reg mixed ?_; simp [Nat.add_assoc, iv, tab_len, tab_getE, tab_set, Nat.add_one_le_iff, p3_55, *])
  refine sw_block ?_
  refine sw_loopB st (by (repeat' first | assumption | exact On.refl _ | refine On.bump ?_ _ | refine On.put ?_ _ ?_ | refine On.del ?_ ?_) <;> (try simp only [AHeap.bump_next, AHeap.put_next, AHeap.del_next]) <;> omega) (fun x : Nat => [(5, iv n), (11, .slice (some ⟨O, 0, none⟩) n 1), (19, .slice (some ⟨oid, 0, none⟩) n 1), (20, iv n), (24, iv x)]) (fun x _ => x ≤ n) (fun x => n - x) 0 ?_ (Nat.zero_le _) ?_
  · simp [Covers, iv]
  · rintro v h1 on1 hv
    change v ≤ n at hv
    have hwv : IntKind.i64.wrap ((v : Int) + 1) = ((v + 1 : Nat) : Int) := by rw [wrap_in (by omega)]; omega
    refine sw_seq (sw_seq ?_)
    (refine sw_reg mixed ?_; simp [Nat.add_assoc, iv, tab_len, tab_getE, tab_set, Nat.add_one_le_iff, p3_56, *])
    by_cases hlv : v < n
    · refine sw_cond (b := true) (by simp; omega) ?_
      simp
      refine sw_skip ?_
      simp
      refine sw_seq (sw_block (sw_seq ?_))
      (refine sw_reg mixed ?_; simp [Nat.add_assoc, iv, tab_len, tab_getE, tab_set, Nat.add_one_le_iff, p3_58, *])
      refine sw_block ?_
      refine sw_loopB st (by (repeat' first | assumption | exact On.refl _ | refine On.bump ?_ _ | refine On.put ?_ _ ?_ | refine On.del ?_ ?_) <;> (try simp only [AHeap.bump_next, AHeap.put_next, AHeap.del_next]) <;> omega) (fun x : Nat => [(5, iv n), (11, .slice (some ⟨O, 0, none⟩) n 1), (19, .slice (some ⟨oid, 0, none⟩) n 1), (20, iv n), (24, iv v), (25, iv x)]) (fun x _ => x ≤ n) (fun x => n - x) 0 ?_ (Nat.zero_le _) ?_
      · simp [Covers, iv]
      · rintro u h2 on2 hu
        change u ≤ n at hu
        have hwu : IntKind.i64.wrap ((u : Int) + 1) = ((u + 1 : Nat) : Int) := by rw [wrap_in (by omega)]; omega
        refine sw_seq (sw_seq ?_)
        (refine sw_reg mixed ?_; simp [Nat.add_assoc, iv, tab_len, tab_getE, tab_set, Nat.add_one_le_iff, p3_59, *])
        by_cases hlu : u < n
        · refine sw_cond (b := true) (by simp; omega) ?_
          simp
          refine sw_skip ?_
          simp
          obtain ⟨l1, wv, hrv⟩ := hrH.out.1 v hlv
          obtain ⟨l2, wu, hru⟩ := hrH.out.1 u hlu
          obtain ⟨a1, a2⟩ := hrH.out.2 v u hlv hlu
          have q1 := (on2.obj O lO).trans hO
          have q2 := (on2.obj oid lo).trans ho
          have q3 := (on2.obj _ l1).trans hrv
          have q4 := (on2.obj _ l2).trans hru
          have hb : ((of v : Int) == (of u : Int)) = (R v u && R u v) := by
            rw [Bool.eq_iff_iff, ← a1]; simp only [beq_iff_eq]; omega
          clear hrv hru a1
          cases e1 : R v u with
          | true =>
            have a3 : ¬ of v < of u := by have := a2 e1; omega
            clear a2
            cases e2 : R u v with
            | true =>
              rw [e1, e2] at hb
              refine sw_seq (sw_block (sw_seq ?_))
              (refine sw_reg mixed ?_; simp [Nat.add_assoc, iv, tab_len, tab_getE, tab_set, Nat.add_one_le_iff, p3_61, *])
              refine sw_cond (b := false) (by simp) ?_
              simp
              refine sw_skip ?_
              simp
              (refine sw_reg mixed ?_; simp [Nat.add_assoc, iv, tab_len, tab_getE, tab_set, Nat.add_one_le_iff, p3_60, *])
              exact ⟨u + 1, by simp [Covers], hlu, by omega⟩
            | false =>
              rw [e1, e2] at hb
              refine sw_seq (sw_block (sw_seq ?_))
              (refine sw_reg mixed ?_; simp [Nat.add_assoc, iv, tab_len, tab_getE, tab_set, Nat.add_one_le_iff, p3_61, *])
              refine sw_cond (b := false) (by simp) ?_
              simp
              refine sw_skip ?_
              simp
              (refine sw_reg mixed ?_; simp [Nat.add_assoc, iv, tab_len, tab_getE, tab_set, Nat.add_one_le_iff, p3_60, *])
              exact ⟨u + 1, by simp [Covers], hlu, by omega⟩
          | false =>
            clear a2
            rw [e1] at hb
            refine sw_seq (sw_block (sw_seq ?_))
            (refine sw_reg mixed ?_; simp [Nat.add_assoc, iv, tab_len, tab_getE, tab_set, Nat.add_one_le_iff, p3_61, *])
            refine sw_cond (b := false) (by simp) ?_
            simp
            refine sw_skip ?_
            simp
            (refine sw_reg mixed ?_; simp [Nat.add_assoc, iv, tab_len, tab_getE, tab_set, Nat.add_one_le_iff, p3_60, *])
            exact ⟨u + 1, by simp [Covers], hlu, by omega⟩
        · refine sw_cond (b := false) (by simp; omega) ?_
          simp
          refine sw_exit ?_
          simp
          (refine sw_reg mixed ?_; simp [Nat.add_assoc, iv, tab_len, tab_getE, tab_set, Nat.add_one_le_iff, p3_57, *])
          exact ⟨v + 1, by simp [Covers], hlv, by omega⟩
    · refine sw_cond (b := false) (by simp; omega) ?_
      simp
      refine sw_exit ?_
      simp
      (refine sw_seq ?_; refine sw_reg mixed ?_; simp [Nat.add_assoc, iv, tab_len, tab_getE, tab_set, Nat.add_one_le_iff, p3_63, *])
      refine sw_ret ?_
      simp
end Go.Proofs.Ytbcgcnmnblfhmaa
