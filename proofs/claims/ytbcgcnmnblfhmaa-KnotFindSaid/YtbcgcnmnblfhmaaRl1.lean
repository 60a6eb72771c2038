/- Rows of whole numbers that are handed in, as an abstract heap. -/
import Derived.Test.YtbcgcnmnblfhmaaAw0
import Derived.Test.YtbcgcnmnblfhmaaRl0
import Derived.Deep.Matrix
namespace Go.Proofs.Ytbcgcnmnblfhmaa
open Lin Tar Go.RowKit

/-- What is known of rows that are handed in. -/
structure RowsIn (W : World) (a : Addr) (cap : Nat) (A : Nat → Option Addr) (L C : Nat → Nat) (Z : Nat → List Int) : Prop where
  row : ∀ r, r < cap → W.cell? (a.add r) = some (.slice (A r) (L r) (C r)) ∧ L r ≤ C r ∧ (Z r).length = C r ∧ (A r = none → C r = 0) ∧ ∀ a', A r = some a' → ∀ c, c < C r → W.cell? (a'.add c) = some (.int .i64 ((Z r).getD c 0))

/-- A row's value, told by number. -/
def rowV (A : Nat → Option Addr) (L : Nat → Nat) (r : Nat) : Value := match A r with
  | none => .slice none 0 0
  | some _ => .slice (some ⟨r + 1, 0, none⟩) (L r) 1

/-- The heap: number 0 the outer row, r + 1 the row r. -/
def argsH (cap : Nat) (A : Nat → Option Addr) (L C : Nat → Nat) (Z : Nat → List Int) : AHeap :=
  { next := cap + 1, obj := fun i => if i = 0 then (if cap = 0 then none else some (.arr false 0 ((List.range cap).map (rowV A L)))) else if i ≤ cap ∧ 0 < C (i - 1) then some (.arr false 0 ((Z (i - 1)).map (Value.int .i64))) else none }
def argsE (a : Addr) (cap : Nat) (A : Nat → Option Addr) (C : Nat → Nat) : Nat → Option Emb :=
  fun i => if i = 0 then (if cap = 0 then none else some ⟨a.block, a.off, cap⟩) else if i ≤ cap ∧ 0 < C (i - 1) then (A (i - 1)).map (fun a' => ⟨a'.block, a'.off, C (i - 1)⟩) else none

theorem argsH_wf (cap : Nat) (A : Nat → Option Addr) (L C : Nat → Nat) (Z : Nat → List Int) : WF (argsH cap A L C Z) := by
  intro i hi
  have hi' : cap + 1 ≤ i := hi
  show (if i = 0 then _ else if i ≤ cap ∧ 0 < C (i - 1) then _ else none) = none
  rw [if_neg (by omega), if_neg (by omega)]

theorem cell_spot {W : World} {a : Addr} {v : Value} (h : W.cell? a = some v) : a.spot = none ∧ ∃ c t f, W.heap[a.block]? = some (.cells c t f) ∧ c[a.off]? = some v := by
  unfold World.cell? at h
  split at h
  · rename_i c t f hc
    split at h
    · cases h
    · rename_i hs
      exact ⟨by simpa using hs, c, t, f, hc, h⟩
  · cases h

theorem add_block (a : Addr) (n : Nat) : (a.add n).block = a.block := by unfold Addr.add; split <;> rfl
theorem add_off (a : Addr) (n : Nat) : (a.add n).off = a.off + n := by
  unfold Addr.add
  split
  · rename_i h; rw [h]; rfl
  · rfl

theorem argsH_hr {W : World} {a : Addr} {cap : Nat} {A : Nat → Option Addr} {L C : Nat → Nat} {Z : Nat → List Int} (R : RowsIn W a cap A L C Z) : HR (· < W.heap.size) (argsE a cap A C) (argsH cap A L C Z) W := by
  refine ⟨fun _ hb => hb, fun i hi => ?_, fun i o ho => ?_, fun i j b hi => ?_⟩
  · have hi' : cap + 1 ≤ i := hi
    refine ⟨?_, argsH_wf cap A L C Z i hi⟩
    show (if i = 0 then _ else if i ≤ cap ∧ 0 < C (i - 1) then _ else none) = none
    rw [if_neg (by omega), if_neg (by omega)]
  · have ho' : (if i = 0 then (if cap = 0 then none else some (AObj.arr false 0 ((List.range cap).map (rowV A L)))) else if i ≤ cap ∧ 0 < C (i - 1) then some (.arr false 0 ((Z (i - 1)).map (Value.int .i64))) else none) = some o := ho
    by_cases h0 : i = 0
    · rw [if_pos h0] at ho'
      by_cases hc0 : cap = 0
      · rw [if_pos hc0] at ho'; cases ho'
      rw [if_neg hc0] at ho'
      cases ho'
      refine ⟨⟨a.block, a.off, cap⟩, by unfold argsE; rw [if_pos h0, if_neg hc0], ?_⟩
      obtain ⟨_, cur, t, f, hh, _⟩ := cell_spot (R.row 0 (by omega)).1
      rw [add_block] at hh
      refine ⟨cur, t, f, hh, fun k v hv => ?_, fun v hv => ?_, fun q => (by cases q), fun _ => (Array.getElem?_eq_some_iff.1 hh).1⟩
      · have hk : k < cap := by have := (List.getElem?_eq_some_iff.1 hv).1; simpa using this
        obtain ⟨g1, g2, g3, g4, g5⟩ := R.row k hk
        obtain ⟨_, c2, t2, f2, hh2, hc2⟩ := cell_spot g1
        rw [add_block, hh] at hh2
        cases hh2
        rw [add_off] at hc2
        refine ⟨_, hc2, ?_⟩
        have hv' : v = rowV A L k := by
          rw [List.getElem?_map, List.getElem?_range hk] at hv
          exact (Option.some.inj hv).symm
        subst hv'
        unfold rowV
        cases hA : A k with
        | none =>
          have e1 := g4 hA
          have e2 : L k = 0 := by omega
          simp only [e1, e2]
          exact .sliceNil
        | some a' =>
          simp only
          by_cases hC : C k = 0
          · have e2 : L k = 0 := by omega
            rw [hC, e2]
            exact .sliceZero
          · have hs := (cell_spot (g5 a' hA 0 (by omega))).1
            have ha' : a' = ⟨a'.block, a'.off, none⟩ := by
              obtain ⟨b', o', s'⟩ := a'
              simp [Addr.add] at hs
              rw [hs]
            rw [ha']
            refine VR.slice (e := ⟨a'.block, a'.off, C k⟩) ?_ g2 (by simp)
            unfold argsE
            rw [if_neg (by omega), if_pos ⟨by omega, by simp; omega⟩]
            simp [hA]
      · obtain ⟨k, _, rfl⟩ := List.mem_map.1 hv
        unfold rowV
        cases A k <;> rfl
    · rw [if_neg h0] at ho'
      by_cases hi : i ≤ cap ∧ 0 < C (i - 1)
      · rw [if_pos hi] at ho'
        cases ho'
        obtain ⟨r, rfl⟩ : ∃ r, i = r + 1 := ⟨i - 1, by omega⟩
        simp only [Nat.add_sub_cancel] at hi ⊢
        obtain ⟨g1, g2, g3, g4, g5⟩ := R.row r (by omega)
        cases hA : A r with
        | none => have := g4 hA; omega
        | some a' =>
          refine ⟨⟨a'.block, a'.off, C r⟩, by unfold argsE; rw [if_neg (by omega), if_pos (by simpa using hi)]; simp [hA], ?_⟩
          obtain ⟨_, cur, t, f, hh, _⟩ := cell_spot (g5 a' hA 0 (by omega))
          rw [add_block] at hh
          refine ⟨cur, t, f, hh, fun k v hv => ?_, fun v hv => ?_, fun q => (by cases q), fun _ => (Array.getElem?_eq_some_iff.1 hh).1⟩
          · have hk : k < C r := by have := (List.getElem?_eq_some_iff.1 hv).1; rw [List.length_map] at this; omega
            obtain ⟨_, c2, t2, f2, hh2, hc2⟩ := cell_spot (g5 a' hA k hk)
            rw [add_block, hh] at hh2
            cases hh2
            rw [add_off] at hc2
            refine ⟨_, hc2, ?_⟩
            have hv' : v = .int .i64 ((Z r).getD k 0) := by
              rw [List.getElem?_map, List.getElem?_eq_getElem (by omega)] at hv
              have := (Option.some.inj hv).symm
              rw [this, List.getD_eq_getElem?_getD, List.getElem?_eq_getElem (by omega)]
              rfl
            rw [hv']; exact .int _ _
          · obtain ⟨x, _, rfl⟩ := List.mem_map.1 hv
            rfl
      · rw [if_neg hi] at ho'; cases ho'
  · obtain ⟨e, o, ho, hown, _⟩ := hi
    exfalso
    have : (if i = 0 then (if cap = 0 then none else some (AObj.arr false 0 ((List.range cap).map (rowV A L)))) else if i ≤ cap ∧ 0 < C (i - 1) then some (.arr false 0 ((Z (i - 1)).map (Value.int .i64))) else none) = some o := ho
    split at this
    · split at this
      · cases this
      · cases this; cases hown
    · split at this
      · cases this; cases hown
      · cases this
/-- What the rows hold: of each as many as it is long. -/
def intoOf (L : Nat → Nat) (Z : Nat → List Int) : Nat → List Int := fun v => (Z v).take (L v)

theorem graph_args {W : World} {a : Addr} {len cap : Nat} {A : Nat → Option Addr} {L C : Nat → Nat} {Z : Nat → List Int} (R : RowsIn W a cap A L C Z) (hl : len ≤ cap) :
    Graph (fun _ => 0) (argsH cap A L C Z) len (intoOf L Z) (.slice (some ⟨0, 0, none⟩) len 1) := by
  refine ⟨⟨_, _, rfl⟩, fun v hv => ?_⟩
  obtain ⟨g1, g2, g3, g4, g5⟩ := R.row v (by omega)
  have hlen : (intoOf L Z v).length = L v := by unfold intoOf; rw [List.length_take]; omega
  have hout : (argsH cap A L C Z).obj 0 = some (.arr false 0 ((List.range cap).map (rowV A L))) := by
    unfold argsH
    simp only [if_true]
    rw [if_neg (by omega)]
  have hget : ((List.range cap).map (rowV A L))[0 + v]? = some (rowV A L v) := by
    rw [Nat.zero_add, List.getElem?_map, List.getElem?_range (by omega)]; rfl
  cases hA : A v with
  | none =>
    have e1 := g4 hA
    have e2 : L v = 0 := by omega
    refine ⟨0, 0, false, 0, _, none, 0, rfl, rfl, by show 0 < cap + 1; omega, hout, ?_, fun i x hx => ?_, .inl ⟨rfl, rfl⟩⟩
    · rw [hget, hlen, e2]; unfold rowV; rw [hA]
    · have := (List.getElem?_eq_some_iff.1 hx).1; omega
  | some a' =>
    refine ⟨0, 0, false, 0, _, some ⟨v + 1, 0, none⟩, 1, rfl, rfl, by show 0 < cap + 1; omega, hout, ?_, fun i x hx => ?_, .inr ⟨_, _, rfl, rfl⟩⟩
    · rw [hget, hlen]; unfold rowV; rw [hA]
    · have hi : i < L v := by have := (List.getElem?_eq_some_iff.1 hx).1; omega
      refine ⟨v + 1, 0, false, 0, (Z v).map (Value.int .i64), rfl, rfl, rfl, by show v + 1 < cap + 1; omega, ?_, ?_⟩
      · unfold argsH
        simp only []
        rw [if_neg (by omega), if_pos ⟨by omega, by simp only [Nat.add_sub_cancel]; omega⟩]
        rfl
      · unfold intoOf at hx
        rw [List.getElem?_take, if_pos hi] at hx
        rw [Nat.zero_add, List.getElem?_map, hx]; rfl

theorem args_vr {W : World} {a : Addr} {len cap : Nat} {A : Nat → Option Addr} {L C : Nat → Nat} {Z : Nat → List Int} (R : RowsIn W a cap A L C Z) (hl : len ≤ cap) :
    VR (argsE a cap A C) (.slice (some ⟨0, 0, none⟩) len 1) (.slice (some a) len cap) := by
  by_cases hc : cap = 0
  · have : len = 0 := by omega
    subst hc; subst this
    exact .sliceZero
  · have hs := (cell_spot (R.row 0 (by omega)).1).1
    have ha : a = ⟨a.block, a.off, none⟩ := by
      obtain ⟨b, o, s⟩ := a
      simp [Addr.add] at hs
      rw [hs]
    rw [ha]
    refine VR.slice (e := ⟨a.block, a.off, cap⟩) ?_ hl (by simp)
    unfold argsE
    rw [if_pos rfl, if_neg hc]

/-- A law of rows that says true of all graphs in memory: of what is handed in. -/
theorem calls_rows {P : Program} {f : FuncId} {W : World} {a : Addr} {len cap : Nat} {A : Nat → Option Addr} {L C : Nat → Nat} {Z : Nat → List Int} {more more' : List Value} (R : RowsIn W a cap A L C Z) (hl : len ≤ cap)
    (hm : VRs (argsE a cap A C) more more') (c : ∀ h into inv, Graph (fun _ => 0) h len into inv → ACallW P f (inv :: more) h (fun r _ => r = .bool true)) :
    Calls P f (.slice (some a) len cap :: more').toArray W fun e w' => e = .returned (.bool true) ∧ Below W.heap.size W w' :=
  calls_true (argsH_wf cap A L C Z) (argsH_hr R) (VRs.cons (args_vr R hl) hm) (c _ _ _ (graph_args R hl))

end Go.Proofs.Ytbcgcnmnblfhmaa
