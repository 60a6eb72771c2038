/- KnotFind: the knots are lists of nodes, rising. -/
import Derived.Test.YtbcgcnmnblfhmaaFd2
namespace Go.Proofs.Ytbcgcnmnblfhmaa
open Lin Tar
set_option maxRecDepth 10000
set_option linter.unusedSimpArgs false

/-- How many stand in the first ones. -/
def tot (knots : List (List Nat)) (k : Nat) : Nat := (knots.take k).flatten.length
theorem tot_zero (knots : List (List Nat)) : tot knots 0 = 0 := by simp [tot]
theorem tot_succ {knots : List (List Nat)} {k : Nat} {row : List Nat} (h : knots[k]? = some row) : tot knots (k + 1) = tot knots k + row.length := by
  unfold tot
  rw [List.take_add_one, h, Option.toList_some, List.flatten_append, List.length_append]
  simp
theorem tot_le (knots : List (List Nat)) (k : Nat) : tot knots k ≤ knots.flatten.length := by
  unfold tot
  conv => rhs; rw [← List.take_append_drop k knots, List.flatten_append, List.length_append]
  omega
theorem tot_all (knots : List (List Nat)) : tot knots knots.length = knots.flatten.length := by simp [tot]

structure KF where
  k : Nat
  i : Nat

set_option maxHeartbeats 2000000 in
theorem find_t10 {h0 h : AHeap} (st : ∀ i, still (h0.obj i) = true) (on : On h0 h) {n O oid : Nat} {rid : Nat → Nat} {R : Nat → Nat → Bool} {of : Nat → Nat} {w1 w2 : Bool} {oty : TypeId} (hn : n ≤ 25)
    (lO : O < h0.next) (hO : h0.obj O = some (.arr w1 oty (tab n fun v => .slice (some ⟨rid v, 0, none⟩) n 1))) (hr : ∀ v, v < n → rid v < h0.next ∧ ∃ w, h0.obj (rid v) = some (.arr w 4 (tab n fun u => .bool (R v u))))
    (lo : oid < h0.next) (ho : h0.obj oid = some (.arr w2 3 (tab n fun i => iv (of i)))) (law : ∀ v u, v < n → u < n → (((of v = of u) ↔ (R v u && R u v) = true) ∧ (R v u = true → of u ≤ of v)))
    {into : Nat → List Int} {knots : List (List Nat)} {kv : Value} (Dk : (cSlc (cSlc cZ)).R (· < h0.next) h0 [kv] (knots.map intsOf)) (D : Done n into knots of) :
    SW Try.prog 287 c3_10 [(5, iv n), (11, .slice (some ⟨O, 0, none⟩) n 1), (18, kv), (19, .slice (some ⟨oid, 0, none⟩) n 1)] h (retQ Try.prog [.tmp 4] fun v _ => v = .bool true) := by
  unfold c3_10
  obtain ⟨kp, kq, rfl⟩ := slc_val Dk
  have hkl : (knots.map intsOf).length = knots.length := by simp
  have hDH : Hid _ := ⟨D⟩
  have lenle := D.len_le
  have totle := D.total
  clear D
  rw [hkl]
  (refine sw_seq ?_; refine sw_reg mixed ?_; simp [Nat.add_assoc, iv, tab_len, tab_getE, tab_set, Nat.add_one_le_iff, p3_42, *])
  unfold c3_11
  refine sw_seq (sw_seq ?_)
  (refine sw_reg mixed ?_; simp [Nat.add_assoc, iv, tab_len, tab_getE, tab_set, Nat.add_one_le_iff, p3_43, *])
  refine sw_block ?_
  refine sw_loopB st (by (repeat' first | assumption | exact On.refl _ | refine On.bump ?_ _ | refine On.put ?_ _ ?_ | refine On.del ?_ ?_) <;> (try simp only [AHeap.bump_next, AHeap.put_next, AHeap.del_next]) <;> omega) (fun x : Nat => [(5, iv n), (11, .slice (some ⟨O, 0, none⟩) n 1), (18, .slice kp knots.length kq), (19, .slice (some ⟨oid, 0, none⟩) n 1), (20, iv (tot knots x)), (21, iv x)]) (fun x _ => x ≤ knots.length) (fun x => knots.length - x) 0 ?_ (Nat.zero_le _) ?_
  · simp [Covers, iv, tot_zero]
  · rintro k h1 on1 hk
    change k ≤ knots.length at hk
    have hwk : IntKind.i64.wrap ((k : Int) + 1) = ((k + 1 : Nat) : Int) := by rw [wrap_in (by omega)]; omega
    refine sw_seq (sw_seq ?_)
    (refine sw_reg mixed ?_; simp [Nat.add_assoc, iv, tab_len, tab_getE, tab_set, Nat.add_one_le_iff, p3_44, *])
    by_cases hlk : k < knots.length
    · refine sw_cond (b := true) (by simp; omega) ?_
      simp
      refine sw_skip ?_
      simp
      obtain ⟨r, o, own, ty, c, e1, hrr, hro, hrk, hrow⟩ := slc_open1 rfl Dk (by omega)
      rw [hkl] at e1 hrk
      cases e1
      obtain ⟨row, hrw⟩ : ∃ row, knots[k]? = some row := ⟨_, List.getElem?_eq_getElem hlk⟩
      have hmem := List.mem_of_getElem? hrw
      obtain ⟨u, hu, Du⟩ := hrow k (intsOf row) (by simp [hrw])
      have hil : (intsOf row).length = row.length := by simp [intsOf]
      obtain ⟨p, q, rfl⟩ := slc_val Du
      clear hrow
      have hts := tot_succ hrw
      have htl := tot_le knots (k + 1)
      rw [hts, totle] at htl
      have hrl : row.length ≤ 25 ∧ tot knots k + row.length ≤ 25 := by omega
      have hne := hDH.out.nonempty _ hmem
      have hpos : 0 < row.length := List.length_pos_iff.2 hne
      have f1 : ∀ i (hi : i < row.length), row[i] < n := fun i hi => hDH.out.lt _ hmem _ (List.getElem_mem hi)
      have f2 : ∀ i (hi : i < row.length), of row[i] = k := fun i hi => hDH.out.of_eq k _ _ hrw (List.getElem_mem hi)
      have f3 : ∀ i (hi : i + 1 < row.length), row[i] < row[i + 1] := fun i hi => by
        have := hDH.out.rows _ hmem
        rw [List.pairwise_iff_getElem] at this
        exact this i (i + 1) (by omega) hi (by omega)
      have fH : Hid _ := ⟨And.intro f1 (And.intro f2 f3)⟩
      replace hts : Hid _ := ⟨hts⟩
      clear f1 f2 f3 hmem
      rw [hil] at hu
      have hu2 := (List.getElem?_eq_some_iff.1 hu).2
      refine sw_seq (sw_block (sw_seq ?_))
      refine SW.mono (Q := fun x e h => x = .normal ∧ Cut (fun _ : Unit => [(5, iv n), (11, .slice (some ⟨O, 0, none⟩) n 1), (18, .slice (some ⟨r, o, none⟩) knots.length 1), (19, .slice (some ⟨oid, 0, none⟩) n 1), (20, iv (tot knots k + row.length)), (21, iv k)]) (fun _ h' => On h0 h') e h) (sw_seq ?_) ?_
      · (refine sw_reg mixed ?_; simp [Nat.add_assoc, iv, tab_len, tab_getE, tab_set, Nat.add_one_le_iff, p3_46, *])
        refine sw_block ?_
        refine sw_loopB st (by (repeat' first | assumption | exact On.refl _ | refine On.bump ?_ _ | refine On.put ?_ _ ?_ | refine On.del ?_ ?_) <;> (try simp only [AHeap.bump_next, AHeap.put_next, AHeap.del_next]) <;> omega) (fun x : Nat => [(5, iv n), (11, .slice (some ⟨O, 0, none⟩) n 1), (18, .slice (some ⟨r, o, none⟩) knots.length 1), (19, .slice (some ⟨oid, 0, none⟩) n 1), (20, iv (tot knots k + x)), (21, iv k), (22, iv x)]) (fun x _ => x ≤ row.length) (fun x => row.length - x) 0 ?_ (Nat.zero_le _) ?_
        · simp [Covers, iv]
        · rintro i h2 on2 hi
          change i ≤ row.length at hi
          have hwi : IntKind.i64.wrap ((i : Int) + 1) = ((i + 1 : Nat) : Int) := by rw [wrap_in (by omega)]; omega
          have hwt : IntKind.i64.wrap ((tot knots k : Int) + i + 1) = ((tot knots k + i + 1 : Nat) : Int) := by rw [wrap_in (by omega)]; omega
          have q0 := (on2.obj r hrr).trans hro
          refine sw_seq (sw_seq ?_)
          (refine sw_reg mixed ?_; simp [Nat.add_assoc, iv, tab_len, tab_getE, tab_set, Nat.add_one_le_iff, p3_47, *])
          by_cases hli : i < row.length
          · refine sw_cond (b := true) (by simp; omega) ?_
            simp
            refine sw_skip ?_
            simp
            rcases row_ints Du with ⟨_, e⟩ | ⟨e, _⟩ | ⟨_, s, w, ow, tw, cw, e, hs, hso, hsl, _, hget⟩
            · have := congrArg List.length e; rw [hil] at this; simp only [List.length_nil] at this; omega
            · have := congrArg List.length e; rw [hil] at this; simp only [List.length_nil] at this; omega
            rw [hil] at e hsl
            cases e
            have g1 := hget i (row[i] : Nat) (by simp [intsOf, hli])
            have g2 := (List.getElem?_eq_some_iff.1 g1).2
            replace hget := Hid.mk hget
            have q1 := (on2.obj s hs).trans hso
            have q2 := (on2.obj oid lo).trans ho
            have b1 := fH.out.1 i hli
            have b2 := fH.out.2.1 i hli
            have b3 : ¬ ((row[i] : Nat) : Int) < 0 := by omega
            have b1' : ¬ n ≤ row[i] := by omega
            refine sw_seq (sw_block (sw_seq ?_))
            (refine sw_reg mixed ?_; simp [Nat.add_assoc, iv, tab_len, tab_getE, tab_set, Nat.add_one_le_iff, p3_49, *])
            refine sw_seq (sw_seq ?_)
            by_cases hi0 : 0 < i
            · have g3 := hget.out (i - 1) (row[i - 1] : Nat) (by simp [intsOf, show i - 1 < row.length by omega])
              have g4 := (List.getElem?_eq_some_iff.1 g3).2
              have hws : IntKind.i64.wrap ((i : Int) - 1) = ((i - 1 : Nat) : Int) := by rw [wrap_in (by omega)]; omega
              have b4 := fH.out.2.2 (i - 1) (by omega)
              have b5 : row[i - 1] < row[i] := by
                have e : i - 1 + 1 = i := by omega
                simp only [e] at b4; exact b4
              have b6 : ¬ row[i] ≤ row[i - 1] := by omega
              clear hget b4
              have b7 : i - 1 < row.length := by omega
              (refine sw_reg mixed ?_; simp [Nat.add_assoc, iv, tab_len, tab_getE, tab_set, Nat.add_one_le_iff, p3_50, *])
              refine sw_cond (b := false) (by simp) ?_
              simp
              refine sw_skip ?_
              simp
              (refine sw_reg mixed ?_; simp [Nat.add_assoc, iv, tab_len, tab_getE, tab_set, Nat.add_one_le_iff, p3_52, *])
              (refine sw_reg mixed ?_; simp [Nat.add_assoc, iv, tab_len, tab_getE, tab_set, Nat.add_one_le_iff, p3_48, *])
              exact ⟨i + 1, by simp [Covers] <;> omega, hli, by omega⟩
            · obtain rfl : i = 0 := by omega
              have hw1 : IntKind.i64.wrap 1 = 1 := by decide
              have hw2 : IntKind.i64.wrap ((tot knots k : Int) + 1) = (tot knots k : Int) + 1 := wrap_in (by omega)
              clear hget
              (refine sw_reg mixed ?_; simp [Nat.add_assoc, iv, tab_len, tab_getE, tab_set, Nat.add_one_le_iff, p3_50, *])
              refine sw_cond (b := false) (by simp) ?_
              simp
              refine sw_skip ?_
              simp
              (refine sw_reg mixed ?_; simp [Nat.add_assoc, iv, tab_len, tab_getE, tab_set, Nat.add_one_le_iff, p3_52, *])
              (refine sw_reg mixed ?_; simp [Nat.add_assoc, iv, tab_len, tab_getE, tab_set, Nat.add_one_le_iff, p3_48, *])
              exact ⟨1, by simp [Covers], hli, by omega⟩
          · refine sw_cond (b := false) (by simp; omega) ?_
            simp
            refine sw_exit ?_
            simp
            obtain rfl : i = row.length := by omega
            exact Cut.mk () (by simp [Covers]) (by (repeat' first | assumption | exact On.refl _ | refine On.bump ?_ _ | refine On.put ?_ _ ?_ | refine On.del ?_ ?_) <;> (try simp only [AHeap.bump_next, AHeap.put_next, AHeap.del_next]) <;> omega)
      · rintro x e h2 ⟨rfl, _, hc, on2⟩
        refine SW.sub hc.sub ?_
        simp
        have hp0 : ¬ row.length = 0 := by omega
        have q0 := (on2.obj r hrr).trans hro
        (refine sw_seq ?_; refine sw_reg mixed ?_; simp [Nat.add_assoc, iv, tab_len, tab_getE, tab_set, Nat.add_one_le_iff, p3_53, *])
        refine sw_cond (b := false) (by simp [hp0, hne]) ?_
        simp
        refine sw_skip ?_
        simp
        (refine sw_reg mixed ?_; simp [Nat.add_assoc, iv, tab_len, tab_getE, tab_set, Nat.add_one_le_iff, p3_45, *])
        exact ⟨k + 1, by simp [Covers]; rw [hts.out]; omega, hlk, by omega⟩
    · refine sw_cond (b := false) (by simp; omega) ?_
      simp
      refine sw_exit ?_
      simp
      obtain rfl : k = knots.length := by omega
      rw [tot_all, totle]
      exact (find_t12 (h := h1.bump 4) st (on1.bump 4) hn lO hO hr lo ho law).sub (Covers.sub (by simp [Covers, iv]))
end Go.Proofs.Ytbcgcnmnblfhmaa
