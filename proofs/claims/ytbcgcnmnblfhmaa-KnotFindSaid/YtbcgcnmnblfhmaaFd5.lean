/- KnotFind: its first parts, and the whole. -/
import Derived.Test.YtbcgcnmnblfhmaaFd4
namespace Go.Proofs.Ytbcgcnmnblfhmaa
open Lin Tar
set_option maxRecDepth 10000
set_option linter.unusedSimpArgs false

/-- A node, near or as it is told. -/
def nearW (n : Nat) (near : Bool) (w : Int) : Int := if near then ((modn n w : Nat) : Int) else w
def fPart (n : Nat) (near : Bool) (row : List Int) (k : Nat) : List Int := (row.take k).map (nearW n near)
def fL (n : Nat) (near : Bool) (G : List (List Int)) (i : Nat) : List (List Int) := (G.take i).map fun row => fPart n near row row.length
theorem fPart_succ {n : Nat} {near : Bool} {row : List Int} {k : Nat} (h : k < row.length) : fPart n near row (k + 1) = fPart n near row k ++ [nearW n near row[k]] := by
  unfold fPart
  rw [List.take_add_one, List.getElem?_eq_getElem h, Option.toList_some, List.map_append]; rfl
theorem fPart_len {n : Nat} {near : Bool} {row : List Int} {k : Nat} (h : k ≤ row.length) : (fPart n near row k).length = k := by simp [fPart]; omega
theorem fL_len {n : Nat} {near : Bool} {G : List (List Int)} {i : Nat} (h : i ≤ G.length) : (fL n near G i).length = i := by simp [fL]; omega
theorem fL_succ {n : Nat} {near : Bool} {G : List (List Int)} {i : Nat} {row : List Int} (h : G[i]? = some row) : fL n near G (i + 1) = fL n near G i ++ [fPart n near row row.length] := by
  unfold fL
  rw [List.take_add_one, h, Option.toList_some, List.map_append]; rfl

structure KA where
  i : Nat
  k : Nat
  gv : Value
  lv : Value

/-- No row at all, or the first ones. -/
structure KB where
  i : Nat
  rid : Nat → Nat

theorem diag_at {n : Nat} {into : Nat → List Int} : At n into (fun v u => decide (u = v)) 0 0 := by
  refine ⟨fun v u _ _ h => ?_, Comp.start (fun v _ => by simp), fun v _ _ hv => absurd hv (Nat.not_lt_zero v)⟩
  have : u = v := by simpa using h
  subst this
  exact .refl _

set_option maxHeartbeats 4000000 in
theorem find_t5 {h0 h : AHeap} (st : ∀ i, still (h0.obj i) = true) (on : On h0 h) {gv : Value} {G : List (List Int)} (hn : G.length ≤ 25) (D : (cSlc (cSlc cZ)).R (· < h0.next) h0 [gv] G) (hI : ∀ l ∈ G, l.length ≤ 1000000) :
    SW Try.prog 287 c3_5 [(5, iv G.length), (6, gv)] h (retQ Try.prog [.tmp 4] fun v _ => v = .bool true) := by
  unfold c3_5
  obtain ⟨gp, gq, rfl⟩ := slc_val D
  have hb1 : 24 * (G.length : Int) ≤ 281474976710656 := by omega
  have hb2 : (G.length : Int) ≤ 9223372036854775807 := by omega
  have hb3 : (G.length : Int) ≤ 281474976710656 := by omega
  have hnx := on.nxt
  (refine sw_seq ?_; refine sw_reg mixed ?_; simp [Nat.add_assoc, iv, tab_len, tab_getE, tab_set, Nat.add_one_le_iff, p3_19, rep_tab, *])
  intro z1
  unfold c3_6
  refine sw_seq (sw_seq ?_)
  (refine sw_reg mixed ?_; simp [Nat.add_assoc, iv, tab_len, tab_getE, tab_set, Nat.add_one_le_iff, p3_20, *])
  have hO : (((h.bump 3).put (h.next + 1) (.arr true 27 (tab G.length fun x => .slice none 0 0))).bump 1).obj (h.next + 1) = some (.arr true 27 (tab G.length fun x => .slice none 0 0)) := by simp
  have hOn : On h0 (((h.bump 3).put (h.next + 1) (.arr true 27 (tab G.length fun x => .slice none 0 0))).bump 1) := (by (repeat' first | assumption | exact On.refl _ | refine On.bump ?_ _ | refine On.put ?_ _ ?_ | refine On.del ?_ ?_) <;> (try simp only [AHeap.bump_next, AHeap.put_next, AHeap.del_next]) <;> omega)
  have hOl : h.next + 1 < (((h.bump 3).put (h.next + 1) (.arr true 27 (tab G.length fun x => .slice none 0 0))).bump 1).next := by simp; try omega
  have hOg : h0.next ≤ h.next + 1 := by omega
  generalize (((h.bump 3).put (h.next + 1) (AObj.arr true 27 (tab G.length fun x => .slice none 0 0))).bump 1) = h1 at *
  generalize h.next + 1 = O at *
  clear z1 on hnx
  refine sw_block ?_
  refine sw_loopB st hOn (fun x : KB => [(5, iv G.length), (6, .slice gp G.length gq), (11, .slice (some ⟨O, 0, none⟩) G.length 1), (12, iv x.i)])
    (fun x h' => x.i ≤ G.length ∧ On h0 h' ∧ O < h'.next ∧ h'.obj O = some (.arr true 27 (tab G.length fun v => if v < x.i then .slice (some ⟨x.rid v, 0, none⟩) G.length 1 else .slice none 0 0)) ∧
      (∀ v, v < x.i → h0.next ≤ x.rid v ∧ x.rid v < h'.next ∧ x.rid v ≠ O ∧ h'.obj (x.rid v) = some (.arr true 4 (tab G.length fun u => .bool (decide (u = v))))) ∧ ∀ v u, v < x.i → u < x.i → x.rid v = x.rid u → v = u)
    (fun x => G.length - x.i) ⟨0, fun _ => 0⟩ ?_ ⟨Nat.zero_le _, hOn, hOl, by simpa using hO, fun v hv => absurd hv (Nat.not_lt_zero v), fun v _ hv => absurd hv (Nat.not_lt_zero v)⟩ ?_
  · simp [Covers, iv]
  · clear hO hOn hOl
    rintro ⟨i, rid⟩ h2 on2 ⟨hi, _, hOl, hO, hR, hinj⟩
    simp only at hi hOl hO hR hinj
    have hnx := on2.nxt
    have hwi : IntKind.i64.wrap ((i : Int) + 1) = ((i + 1 : Nat) : Int) := by rw [wrap_in (by omega)]; omega
    have RH := Hid.mk (And.intro hR hinj)
    clear hR hinj
    refine sw_seq (sw_seq ?_)
    (refine sw_reg mixed ?_; simp [Nat.add_assoc, iv, tab_len, tab_getE, tab_set, Nat.add_one_le_iff, p3_21, *])
    by_cases hlt : i < G.length
    · refine sw_cond (b := true) (by simp; omega) ?_
      simp
      refine sw_skip ?_
      simp
      have fO := ne_fresh hOl
      refine sw_seq (sw_block (sw_seq ?_))
      (refine sw_reg mixed ?_; simp [Nat.add_assoc, iv, tab_len, tab_getE, tab_set, Nat.add_one_le_iff, p3_23, rep_tab, *])
      intro z1
      (refine sw_reg mixed ?_; simp [Nat.add_assoc, iv, tab_len, tab_getE, tab_set, Nat.add_one_le_iff, p3_24, upd_same, *])
      (refine sw_reg mixed ?_; simp [Nat.add_assoc, iv, tab_len, tab_getE, tab_set, Nat.add_one_le_iff, p3_22, *])
      obtain ⟨hR, hinj⟩ := RH.out
      refine ⟨⟨i + 1, upd rid i (h2.next + 6)⟩, by simp [Covers], ⟨hlt, (by (repeat' first | assumption | exact On.refl _ | refine On.bump ?_ _ | refine On.put ?_ _ ?_ | refine On.del ?_ ?_) <;> (try simp only [AHeap.bump_next, AHeap.put_next, AHeap.del_next]) <;> omega), by omega, ?_, fun v hv => ?_, fun v u hv hu e => ?_⟩, by simp; omega⟩
      · refine tab_congr (fun v hv => ?_)
        by_cases hvi : v = i
        · subst hvi; simp [upd]
        · have : (v < i + 1) = (v < i) := by simp; omega
          simp [upd, hvi, this]
      · simp only at hv
        by_cases hvi : v = i
        · subst hvi
          refine ⟨by simp [upd]; omega, by simp [upd], by simp [upd, fO], ?_⟩
          simp only [upd_same]
          simp
          exact tab_congr (fun u _ => by by_cases hu : u = v <;> simp [upd, hu])
        · obtain ⟨r1, r2, r3, r4⟩ := hR v (by omega)
          have fr := ne_fresh r2
          simp [upd, hvi, fr, r3]
          exact ⟨r1, by omega, r4⟩
      · simp only at hv hu e
        by_cases hvi : v = i <;> by_cases hui : u = i
        · omega
        · subst hvi
          have := (hR u (by omega)).2.1
          simp [upd, hui] at e; omega
        · subst hui
          have := (hR v (by omega)).2.1
          simp [upd, hvi] at e; omega
        · simp [upd, hvi, hui] at e
          exact hinj v u (by omega) (by omega) e
    · refine sw_cond (b := false) (by simp; omega) ?_
      simp
      refine sw_exit ?_
      simp
      obtain rfl : i = G.length := by omega
      obtain ⟨hR, hinj⟩ := RH.out
      refine SW.sub (Covers.sub (env' := [(5, iv G.length), (6, .slice gp G.length gq), (11, .slice (some ⟨O, 0, none⟩) G.length 1)]) (by simp [Covers, iv])) ?_
      refine find_t7 st (O := O) (rid := rid) (R0 := fun v u => decide (u = v)) (oty := 27) hn ⟨on2.bump 3, ⟨hOg, fun v hv => (hR v hv).1⟩, ⟨by simp; omega, fun v hv => by have := (hR v hv).2.1; simp; omega⟩, ?_, fun v hv => (hR v hv).2.2.2, hinj, fun v hv => (hR v hv).2.2.1⟩ D hI diag_at
      refine Eq.trans hO ?_
      congr 2
      exact tab_congr (fun v hv => by simp [hv])
end Go.Proofs.Ytbcgcnmnblfhmaa
