/- What a law of knots is handed in, as data; what all of them begin with. -/
import Derived.Test.YtbcgcnmnblfhmaaRl1
import Derived.Test.YtbcgcnmnblfhmaaDat0
namespace Go.Proofs.Ytbcgcnmnblfhmaa
open Lin Tar Go.RowKit
set_option maxRecDepth 10000

def cZ : Cod Int where
  n := 1
  R := fun _ _ cs x => cs = [.int .i64 x]
  len := fun h => by rw [h]; rfl
  mono := fun _ h => h

@[simp] theorem cZ_n : cZ.n = 1 := (rfl)

def getG (G : List (List Int)) : Nat → List Int := fun v => G.getD v []

/-- Data are a graph. -/
theorem dat_graph {S : Nat → Prop} {h : AHeap} {inv : Value} {G : List (List Int)} (hS : ∀ j, S j → j < h.next) (D : (cSlc (cSlc cZ)).R S h [inv] G) : Graph (fun _ => 0) h G.length (getG G) inv := by
  refine ⟨slc_val D, fun v hv => ?_⟩
  obtain ⟨r, o, own, ty, k, rfl, h2, h3, h4, h5⟩ := slc_open1 rfl D (by omega)
  obtain ⟨u, h6, p, q, h7, h8⟩ := h5 v G[v] (by simp [hv])
  have hg : getG G v = G[v] := by simp [getG, List.getD_eq_getElem?_getD, hv]
  have hu : u = .slice p G[v].length q := by simpa using h7
  subst hu
  refine ⟨r, o, own, ty, k, p, q, rfl, rfl, hS _ h2, h3, by rw [hg]; exact h6, fun i x hx => ?_, ?_⟩
  · rw [hg] at hx
    rcases h8 with ⟨_, _, h9⟩ | ⟨r', o', rfl, rfl, h9⟩
    · rw [h9] at hx; simp at hx
    · obtain ⟨a1, own', ty', k', a2, a3, a4⟩ := h9 (by intro e; rw [e] at hx; simp at hx)
      have hi := (List.getElem?_eq_some_iff.1 hx).1
      have := a4 i x hx
      have e1 : cZ.n = 1 := rfl
      rw [e1] at a3 this
      rw [Nat.mul_one, take_one (by omega)] at this
      refine ⟨r', o', own', ty', k', rfl, rfl, rfl, hS _ a1, a2, ?_⟩
      have e2 : k'[o' + i]'(by omega) = .int .i64 x := by simpa [cZ] using this
      rw [List.getElem?_eq_getElem (by omega), e2]
  · rcases h8 with ⟨h9, h10, _⟩ | ⟨r', o', h9, h10, _⟩
    · exact .inl ⟨h9, h10⟩
    · exact .inr ⟨r', o', h9, h10⟩

theorem dat_args {W : World} {a : Addr} {len cap : Nat} {A : Nat → Option Addr} {L C : Nat → Nat} {Z : Nat → List Int} (R : RowsIn W a cap A L C Z) (hl : len ≤ cap) :
    (cSlc (cSlc cZ)).R (· < (argsH cap A L C Z).next) (argsH cap A L C Z) [.slice (some ⟨0, 0, none⟩) len 1] ((List.range len).map (intoOf L Z)) := by
  have hgr := graph_args R hl
  refine ⟨some ⟨0, 0, none⟩, 1, by simp, .inr ⟨0, 0, rfl, rfl, fun hne => ?_⟩⟩
  have hlen : 0 < len := by
    rcases Nat.eq_zero_or_pos len with g | g
    · subst g; simp at hne
    · exact g
  have hout : (argsH cap A L C Z).obj 0 = some (.arr false 0 ((List.range cap).map (rowV A L))) := by
    unfold argsH
    simp only [if_true]
    rw [if_neg (by omega)]
  refine ⟨by show 0 < cap + 1; omega, false, 0, _, hout, by simp [cSlc]; exact hl, fun i x hx => ?_⟩
  have hi : i < len := by have := (List.getElem?_eq_some_iff.1 hx).1; simpa using this
  have hx' : x = intoOf L Z i := by
    rw [List.getElem?_map, List.getElem?_range hi] at hx
    exact (Option.some.inj hx).symm
  subst hx'
  obtain ⟨g, off, own, ty, c, pv, qv, h1, _, h3, h4, h5, h6, h7⟩ := hgr.row i hi
  cases h1
  rw [hout] at h4
  cases h4
  have e1 : ((List.map (rowV A L) (List.range cap)).drop (0 + i * (cSlc cZ).n)).take (cSlc cZ).n = [.slice pv (intoOf L Z i).length qv] := by
    show ((List.map (rowV A L) (List.range cap)).drop (0 + i * 1)).take 1 = _
    rw [Nat.mul_one, take_one (by simp; omega)]
    rw [List.getElem?_eq_getElem (by simp; omega)] at h5
    rw [Option.some.inj h5]
  rw [e1]
  refine ⟨pv, qv, rfl, ?_⟩
  rcases h7 with ⟨rfl, rfl⟩ | ⟨r, o, rfl, rfl⟩
  · refine .inl ⟨rfl, rfl, ?_⟩
    cases hz : intoOf L Z i with
    | nil => rfl
    | cons x t => obtain ⟨r, o, own', ty', c', q1, _⟩ := h6 0 x (by rw [hz]; rfl); cases q1
  · refine .inr ⟨r, o, rfl, rfl, fun hne' => ?_⟩
    have hpos : 0 < (intoOf L Z i).length := List.length_pos_iff.2 hne'
    obtain ⟨r', o', own', ty', c', q1, _, _, q3, q4, q5⟩ := h6 ((intoOf L Z i).length - 1) _ (List.getElem?_eq_getElem (by omega))
    cases q1
    have q6 := (List.getElem?_eq_some_iff.1 q5).1
    refine ⟨q3, own', ty', c', q4, by simp [cZ]; omega, fun j y hy => ?_⟩
    obtain ⟨r', o', own'', ty'', c'', p1, _, _, p3, p4, p5⟩ := h6 j y hy
    cases p1
    rw [q4] at p4
    cases p4
    have hj := (List.getElem?_eq_some_iff.1 p5).1
    show (c'.drop (o + j * 1)).take 1 = _
    rw [Nat.mul_one, take_one hj]
    rw [List.getElem?_eq_getElem hj] at p5
    rw [Option.some.inj p5]

/-- A law of rows that says true of all rows in memory: of what is handed in. -/
theorem calls_dat {P : Program} {f : FuncId} {W : World} {a : Addr} {len cap : Nat} {A : Nat → Option Addr} {L C : Nat → Nat} {Z : Nat → List Int} {more more' : List Value} (R : RowsIn W a cap A L C Z) (hl : len ≤ cap)
    (hm : VRs (argsE a cap A C) more more') (c : ∀ h G inv, (cSlc (cSlc cZ)).R (· < h.next) h [inv] G → ACallW P f (inv :: more) h (fun r _ => r = .bool true)) :
    Calls P f (.slice (some a) len cap :: more').toArray W fun e w' => e = .returned (.bool true) ∧ Below W.heap.size W w' :=
  calls_true (argsH_wf cap A L C Z) (argsH_hr R) (VRs.cons (args_vr R hl) hm) (c _ _ _ (dat_args R hl))

/-- All that was there is only read. -/
theorem acall_begin {P : Program} {f : FuncId} {args : List Value} {h : AHeap} {Q : Value → Prop} (k : ∀ h0, h0.next = h.next → (∀ i, still (h0.obj i) = true) → Sees (· < h.next) h (· < h0.next) h0 → ACallW P f args h0 (fun v _ => Q v)) : ACallW P f args h (fun v _ => Q v) := by
  refine acall_frz (fun _ => false) ((k (h.frz fun _ => false) rfl (fun i => frz_still rfl) (Sees.frz _ (fun i hi => hi))).mono ?_)
  intro v h' q _ _
  exact q

theorem awake_at {h : AHeap} {Q : Value → AHeap → Prop} (hq : Q (.bool true) h) : ACallW Try.prog 8 [] h Q := by
  obtain ⟨v, h', d, rfl⟩ := (awake_spec (h := { next := 0, obj := fun _ => none }) (Q := fun v _ => v = .bool true) (fun _ _ _ => rfl)) (fun _ _ => rfl)
  exact acall_closed (by simp) rfl d hq

end Go.Proofs.Ytbcgcnmnblfhmaa
