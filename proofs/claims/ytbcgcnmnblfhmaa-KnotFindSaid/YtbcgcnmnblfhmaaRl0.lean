/- From an abstract call to what a row asks: memory that was there stays as it was. -/
import Derived.Test.YtbcgcnmnblfhmaaLin17
import Derived.Below
namespace Go.Proofs.Ytbcgcnmnblfhmaa.Lin
open Go.RowKit

def emptyH : AHeap := { next := 0, obj := fun _ => none }
theorem emptyH_wf : WF emptyH := fun _ _ => rfl
theorem emptyH_hr (w : World) : HR (· < w.heap.size) (fun _ => none) emptyH w :=
  ⟨fun _ hb => hb, fun _ _ => ⟨rfl, rfl⟩, fun i o h => (by cases h), fun i j b h => (by obtain ⟨e, o, h, _⟩ := h; cases h)⟩

/-- What a call leaves, of memory that was there: the same. -/
theorem Post.below0 {N : Nat} {φ φ' : Nat → Option Emb} {h h' : AHeap} {w w' : World} (hh : HR (· < w.heap.size) φ h w) (p : Post (· < w.heap.size) N φ h w φ' h' w') : Below w.heap.size w w' :=
  ⟨p.os, p.tape, p.output, p.size, p.below hh⟩

/-- Of a call that says true. -/
theorem calls_true {P : Program} {f : FuncId} {args args' : List Value} {h : AHeap} {φ : Nat → Option Emb} {w : World} (hw : WF h) (hh : HR (· < w.heap.size) φ h w) (ha : VRs φ args args') (c : ACallW P f args h (fun r _ => r = .bool true)) :
    Calls P f args'.toArray w fun e w' => e = .returned (.bool true) ∧ Below w.heap.size w w' := by
  obtain ⟨r, h', d, rfl⟩ := c hw
  refine (d.run (· < w.heap.size) φ args' w ha hh).mono ?_
  rintro e w' ⟨v', φ', rfl, hv', hpost⟩
  cases hv'
  exact ⟨rfl, hpost.below0 hh⟩

/-- .. that is handed no memory. -/
theorem calls_plain {P : Program} {f : FuncId} {args : List Value} (hp : ∀ x ∈ args, plainN 6 x = true) (c : ACallW P f args emptyH (fun r _ => r = .bool true)) (w : World) :
    Calls P f args.toArray w fun e w' => e = .returned (.bool true) ∧ Below w.heap.size w w' :=
  calls_true emptyH_wf (emptyH_hr w) ⟨rfl, fun i a b ha hb => by
    rw [ha] at hb; cases hb
    exact .of_plain (hp a (List.mem_of_getElem? ha))⟩ c
end Go.Proofs.Ytbcgcnmnblfhmaa.Lin
