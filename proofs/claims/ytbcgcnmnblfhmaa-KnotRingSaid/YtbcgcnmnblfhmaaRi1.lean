/- KnotRing. -/
import Derived.Test.YtbcgcnmnblfhmaaAw0
import Derived.Test.YtbcgcnmnblfhmaaRi0
import Derived.Test.YtbcgcnmnblfhmaaK4
namespace Go.Proofs.Ytbcgcnmnblfhmaa
open Lin Tar
set_option maxRecDepth 10000
set_option linter.unusedSimpArgs false

theorem ring_spec {h : AHeap} {n : Int} (hn0 : 0 ≤ n) (hn1 : n < 65536) (ring : Bool) {Q : Value → AHeap → Prop} (hq : ∀ h', Q (.bool true) h') : ACallW Try.prog 4 [.int .u16 n, .bool ring] h Q := by
  refine enter4 ?_
  unfold c4
  (refine sw_seq ?_; refine sw_reg mixed ?_; simp [Nat.add_assoc, iv, tab_len, tab_getE, tab_set, Nat.add_one_le_iff, p4_0, params, List.range_succ, *])
  refine sw_seq (sw_seq (sw_reg mixed ?_))
  simp [p4_1]
  refine run_callI 8 [] (by simp) (awake_spec ?_)
  intro h1 _ _
  simp
  refine sw_cond (b := false) (by simp) ?_
  simp
  refine sw_skip ?_
  simp
  obtain ⟨k, hk⟩ : ∃ k : Nat, (k : Int) = n.tmod 3000 + 1 := ⟨(n.tmod 3000 + 1).toNat, by have := Int.tmod_nonneg 3000 hn0; omega⟩
  have hk0 : 0 < k := by have := Int.tmod_nonneg 3000 hn0; omega
  have hk1 : k ≤ 3000 := by have := Int.tmod_lt_of_pos n (show (0 : Int) < 3000 by omega); omega
  have hw1 : IntKind.i64.wrap n = n := wrap_in (by omega)
  have hw2 : IntKind.i64.wrap (1 + n.tmod 3000) = k := by rw [wrap_in (by omega)]; omega
  have hb1 : 24 * (k : Int) ≤ 281474976710656 := by omega
  have hb2 : (k : Int) ≤ 9223372036854775807 := by omega
  clear hk
  (refine sw_seq ?_; refine sw_reg mixed ?_; simp [Nat.add_assoc, iv, tab_len, tab_getE, tab_set, Nat.add_one_le_iff, p4_3, *])
  (refine sw_seq ?_; refine sw_reg mixed ?_; simp [Nat.add_assoc, iv, tab_len, tab_getE, tab_set, Nat.add_one_le_iff, p4_4, rep_tab, *])
  intro z1
  have hgl : h1.next + 6 < (((h1.bump 5).bump 3).put (h1.next + 6) (.arr true 24 (tab k fun x => .slice none 0 0))).next := by simp <;> omega
  have hgo : (((h1.bump 5).bump 3).put (h1.next + 6) (.arr true 24 (tab k fun x => .slice none 0 0))).obj (h1.next + 6) = some (.arr true 24 (tab k fun x => .slice none 0 0)) := by simp
  generalize ((h1.bump 5).bump 3).put (h1.next + 6) (.arr true 24 (tab k fun x => .slice none 0 0)) = h2 at *
  generalize h1.next + 6 = gid at *
  clear z1
  refine sw_seq (sw_seq ?_)
  (refine sw_reg mixed ?_; simp [Nat.add_assoc, iv, tab_len, tab_getE, tab_set, Nat.add_one_le_iff, p4_5, *])
  refine sw_block ?_
  refine sw_loopG (fun x : Nat × (Nat → Value) => [(1, .bool ring), (5, iv k), (6, .slice (some ⟨gid, 0, none⟩) k 1), (7, iv x.1)])
    (fun x h' => 1 ≤ x.1 ∧ x.1 ≤ k ∧ gid < h'.next ∧ h'.obj gid = some (.arr true 24 (tab k x.2)) ∧ x.2 0 = .slice none 0 0 ∧ ∀ v, 1 ≤ v → v < x.1 → IntsAt (· ≠ gid) h' (x.2 v) [((v - 1 : Nat) : Int)]) (fun x => k - x.1)
    (1, fun _ => .slice none 0 0) ?_ ⟨Nat.le_refl _, hk0, by simp; omega, hgo, rfl, fun v h1 h2 => by omega⟩ ?_
  · simp [Covers, iv]
  · rintro ⟨i, f⟩ h3 ⟨hi1, hik, hg, ho, hf0, hf⟩
    simp only at hi1 hik hg ho hf0 hf
    have hwi : IntKind.i64.wrap ((i : Int) - 1) = ((i - 1 : Nat) : Int) := by rw [wrap_in (by omega)]; omega
    have hwi2 : IntKind.i64.wrap ((i : Int) + 1) = ((i + 1 : Nat) : Int) := by rw [wrap_in (by omega)]; omega
    have hfH : Hid _ := ⟨hf⟩
    clear hf
    refine sw_seq (sw_seq ?_)
    (refine sw_reg mixed ?_; simp [Nat.add_assoc, iv, tab_len, tab_getE, tab_set, Nat.add_one_le_iff, p4_6, *])
    by_cases hlt : i < k
    · refine sw_cond (b := true) (by simp; omega) ?_
      simp
      refine sw_skip ?_
      simp
      have fg := ne_fresh hg
      refine sw_seq (sw_block ?_)
      (refine sw_reg mixed ?_; simp [Nat.add_assoc, iv, tab_len, tab_getE, tab_set, Nat.add_one_le_iff, p4_8, *])
      intro z1
      (refine sw_reg mixed ?_; simp [Nat.add_assoc, iv, tab_len, tab_getE, tab_set, Nat.add_one_le_iff, p4_7, *])
      refine ⟨i + 1, by simp [Covers], ⟨by omega, by omega, by omega, _, rfl, ?_, ?_⟩, by omega⟩
      · rw [upd_ne _ _ (by omega)]; exact hf0
      · intro v hv1 hv2
        by_cases hvi : v = i
        · subst hvi
          rw [upd_same]
          refine ints_own (l := [((v - 1 : Nat) : Int)]) (c := []) (own := true) (ty := 3) rfl (by omega) (by simp) ?_
          simp [fg]
        · rw [upd_ne _ _ hvi]
          refine ints_keep (hfH.out v (by omega) (by omega)) (by simp; omega) (fun j hj hs _ => ?_)
          have fj := ne_fresh hj
          have hs' : ¬ j = gid := hs
          simp [fj, hs']
    · refine sw_cond (b := false) (by simp; omega) ?_
      simp
      refine sw_exit ?_
      simp
      have hie : i = k := by omega
      subst hie
      clear hlt hwi hwi2 hik hgl hgo
      generalize hh4 : h3.bump 3 = h4
      have ho4 : h4.obj gid = some (.arr true 24 (tab i f)) := by rw [← hh4]; exact ho
      have hg4 : gid < h4.next := by rw [← hh4]; simp; omega
      have hf4 : ∀ v, 1 ≤ v → v < i → IntsAt (fun x => x ≠ gid) h4 (f v) [((v - 1 : Nat) : Int)] := fun v h1 h2 => ints_keep (hfH.out v h1 h2) (by rw [← hh4]; simp) (fun j _ _ _ => by rw [← hh4]; rfl)
      clear ho hg hfH hh4
      replace hf4 : Hid _ := ⟨hf4⟩
      have fg := ne_fresh hg4
      have hw3 : IntKind.i64.wrap ((i : Int) - 1) = ((i - 1 : Nat) : Int) := by rw [wrap_in (by omega)]; omega
      refine sw_seq (sw_seq ?_)
      (refine sw_reg mixed ?_; simp [Nat.add_assoc, iv, tab_len, tab_getE, tab_set, Nat.add_one_le_iff, p4_9, *])
      cases ring with
      | true =>
        refine sw_cond (b := true) (by simp) ?_
        simp
        (refine sw_reg mixed ?_; simp [Nat.add_assoc, iv, tab_len, tab_getE, tab_set, Nat.add_one_le_iff, p4_10, *])
        intro z1
        refine sw_seq (sw_reg mixed ?_)
        simp [p4_11]
        refine run_callI 9 [.slice (some ⟨gid, 0, none⟩) i 1] (by simp) ?_
        refine find_spec sortC (into := ringG i) (N := i) (graph_of (S := fun _ => True) (c := tab i (upd f 0 (.slice (some ⟨h4.next + 1 + 3, 0, none⟩) 1 1))) (own := true) (ty := 24) (by simp; omega) (by simp) (fun v hv => ?_)) (by omega) (fun v hv => ?_) ?_
        · refine ⟨_, by rw [Nat.zero_add]; exact tab_get hv, ?_⟩
          by_cases h0 : v = 0
          · subst h0
            rw [upd_same]
            exact ints_own (l := [((i - 1 : Nat) : Int)]) (c := []) (own := true) (ty := 3) rfl trivial (by simp) (by simp [fg, Nat.add_assoc])
          · rw [upd_ne _ _ h0]
            have e0 : ringG i v = [((v - 1 : Nat) : Int)] := by simp [ringG, h0]
            rw [e0]
            obtain ⟨p, q, e1, e2⟩ := hf4.out v (by omega) hv
            have I2 : IntsAt (fun x => x ≠ gid) ((((h4.bump 1).bump 6).put (h4.next + 1 + 3) (.arr true 3 [.int .i64 ((i - 1 : Nat) : Int)])).put gid (.arr true 24 (tab i (upd f 0 (.slice (some ⟨h4.next + 1 + 3, 0, none⟩) 1 1)))) |>.bump 7) (f v) [((v - 1 : Nat) : Int)] := by
              refine ints_keep (hf4.out v (by omega) hv) (by simp; omega) (fun j hj hs _ => ?_)
              have fj := ne_fresh hj
              have hs' : ¬ j = gid := hs
              simp [fj, hs', Nat.add_assoc]
            obtain ⟨p, q, e1, e2⟩ := I2
            refine ⟨p, q, e1, fun j x hx => ?_⟩
            obtain ⟨r, o, own', ty', c', a1, a2, _, a3, a4, a5⟩ := e2 j x hx
            exact ⟨r, o, own', ty', c', a1, a2, trivial, a3, a4, a5⟩
        · unfold ringG; split <;> simp
        · intro h5 ρ kv oid rows of n1 fr hρ R each ro lo oo D
          obtain ⟨e1, l, e2, e3⟩ := ring_done hk0 D
          obtain ⟨⟨r0, l0⟩, rfl⟩ : ∃ a, rows = [a] := by
            have hl : rows.length = 1 := by have := congrArg List.length e2; simpa using this
            match rows, hl with
            | [a], _ => exact ⟨a, rfl⟩
          simp at e2
          subst e2
          rcases row_inv R with ⟨_, e⟩ | ⟨kid, kc, rfl, kr, kl, ko⟩
          · simp at e
          simp [sl, e3] at ko
          simp
          clear n1 fr each R D hρ
          have hlt1 : i - 1 < i := by omega
          have hoi : of (i - 1) = 0 := e1
          refine sw_seq (sw_seq ?_)
          (refine sw_reg mixed ?_; simp [Nat.add_assoc, iv, tab_len, tab_getE, tab_set, Nat.add_one_le_iff, p4_12, *])
          refine sw_cond (b := true) (by simp) ?_
          simp
          (refine sw_seq ?_; refine sw_reg mixed ?_; simp [Nat.add_assoc, iv, tab_len, tab_getE, tab_set, Nat.add_one_le_iff, p4_13, *])
          refine sw_ret ?_
          simp
          exact hq _
      | false =>
        refine sw_cond (b := false) (by simp) ?_
        simp
        refine sw_skip ?_
        simp
        refine sw_seq (sw_reg mixed ?_)
        simp [p4_11]
        refine run_callI 9 [.slice (some ⟨gid, 0, none⟩) i 1] (by simp) ?_
        refine find_spec sortC (into := rowG) (N := i) (graph_of (S := fun x => x ≠ gid) (c := tab i f) (own := true) (ty := 24) (by simp; omega) (by simpa using ho4) (fun v hv => ?_)) (by omega) (fun v hv => ?_) ?_
        · refine ⟨_, by rw [Nat.zero_add]; exact tab_get hv, ?_⟩
          by_cases h0 : v = 0
          · subst h0
            rw [hf0]
            exact ints_nil _ _
          · have e0 : rowG v = [((v - 1 : Nat) : Int)] := by simp [rowG, h0]
            rw [e0]
            exact ints_keep (hf4.out v (by omega) hv) (by simp; omega) (fun j _ _ _ => rfl)
        · unfold rowG; split <;> simp
        · intro h5 ρ kv oid rows of n1 fr hρ R each ro lo oo D
          obtain ⟨e1, e2, e3⟩ := row_done hk0 D
          simp at e1
          rcases row_inv R with ⟨_, e⟩ | ⟨kid, kc, rfl, kr, kl, ko⟩
          · have e' : rows = [] := by simpa using e
            subst e'
            simp at e1; omega
          have hrow : ∀ v, v < i → (List.map (fun r : Nat × List Nat => sl r.1 r.2.length) rows ++ kc)[v]? = some (.slice (some ⟨(rows.getD v (0, [])).1, 0, none⟩) 1 1) := by
            intro v hv
            have hv' : v < rows.length := by omega
            rw [List.getElem?_append_left (by simpa using hv')]
            have := e3 v rows[v].2 (by simp [hv'])
            simp [hv', sl, this]
          generalize hrl : List.map (fun r : Nat × List Nat => sl r.1 r.2.length) rows ++ kc = rl at *
          have hml : (List.map (fun r : Nat × List Nat => sl r.1 r.2.length) rows).length = i := by simp [e1]
          rw [hml]
          clear n1 fr each R D hρ hrl e3
          have hrow' : Hid _ := ⟨hrow⟩
          have e2' : Hid _ := ⟨e2⟩
          clear hrow e2
          simp
          refine sw_seq (sw_seq ?_)
          (refine sw_reg mixed ?_; simp [Nat.add_assoc, iv, tab_len, tab_getE, tab_set, Nat.add_one_le_iff, p4_12, *])
          refine sw_cond (b := false) (by simp) ?_
          simp
          refine sw_skip ?_
          simp
          refine sw_seq (sw_seq ?_)
          (refine sw_reg mixed ?_; simp [Nat.add_assoc, iv, tab_len, tab_getE, tab_set, Nat.add_one_le_iff, p4_14, *])
          refine sw_block ?_
          refine sw_loopG (fun x : Nat => [(5, iv i), (8, .slice (some ⟨kid, 0, none⟩) i 1), (9, .slice (some ⟨oid, 0, none⟩) i 1), (10, iv x)])
            (fun x h' => x ≤ i ∧ h'.obj = h5.obj) (fun x => i - x) 0 ?_ ⟨Nat.zero_le _, rfl⟩ ?_
          · simp [Covers, iv]
          · rintro j h6 ⟨hji, h6o⟩
            have hwj : IntKind.i64.wrap ((j : Int) + 1) = ((j + 1 : Nat) : Int) := by rw [wrap_in (by omega)]; omega
            refine sw_seq (sw_seq ?_)
            (refine sw_reg mixed ?_; simp [Nat.add_assoc, iv, tab_len, tab_getE, tab_set, Nat.add_one_le_iff, p4_15, *])
            by_cases hlt : j < i
            · refine sw_cond (b := true) (by simp; omega) ?_
              simp
              refine sw_skip ?_
              simp
              refine sw_seq (sw_block (sw_seq ?_))
              have g1 := hrow'.out j hlt
              have g2 := e2'.out j hlt
              (refine sw_reg mixed ?_; simp [Nat.add_assoc, iv, tab_len, tab_getE, tab_set, Nat.add_one_le_iff, p4_17, *])
              refine sw_cond (b := false) (by simp) ?_
              simp
              refine sw_skip ?_
              simp
              (refine sw_reg mixed ?_; simp [Nat.add_assoc, iv, tab_len, tab_getE, tab_set, Nat.add_one_le_iff, p4_16, *])
              exact ⟨j + 1, by simp [Covers], ⟨by omega, by rw [← h6o]; rfl⟩, by omega⟩
            · refine sw_cond (b := false) (by simp; omega) ?_
              simp
              refine sw_exit ?_
              simp
              (refine sw_seq ?_; refine sw_reg mixed ?_; simp [Nat.add_assoc, iv, tab_len, tab_getE, tab_set, Nat.add_one_le_iff, p4_19, *])
              refine sw_ret ?_
              simp
              exact hq _

end Go.Proofs.Ytbcgcnmnblfhmaa
