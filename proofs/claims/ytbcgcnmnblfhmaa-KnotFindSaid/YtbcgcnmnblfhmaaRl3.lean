/- From a law's walk to what its row asks, where rows are handed in. -/
import Derived.Test.YtbcgcnmnblfhmaaRl2
namespace Go.Proofs.Ytbcgcnmnblfhmaa
open Lin Go.RowKit

def IsRows (W : World) (v : Value) : Prop := v = .slice none 0 0 ∨ ∃ a len cap A L C Z, v = .slice (some a) len cap ∧ len ≤ cap ∧ RowsIn W a cap A L C Z

theorem calls_isrows {P : Program} {f : FuncId} {W : World} {v : Value} {more : List Value} (w0 : IsRows W v) (hm : ∀ x ∈ more, plainN 6 x = true)
    (c : ∀ h G inv, (cSlc (cSlc cZ)).R (· < h.next) h [inv] G → ACallW P f (inv :: more) h (fun r _ => r = .bool true)) :
    Calls P f (v :: more).toArray W fun e w' => e = .returned (.bool true) ∧ Below W.heap.size W w' := by
  rcases w0 with rfl | ⟨a, len, cap, A, L, C, Z, rfl, hl, R⟩
  · exact calls_true emptyH_wf (emptyH_hr W) (VRs.cons .sliceNil ⟨rfl, fun i x y hx hy => by rw [hx] at hy; cases hy; exact .of_plain (hm x (List.mem_of_getElem? hx))⟩) (c _ _ _ slc_nil)
  · exact calls_dat R hl ⟨rfl, fun i x y hx hy => by rw [hx] at hy; cases hy; exact .of_plain (hm x (List.mem_of_getElem? hx))⟩ c
end Go.Proofs.Ytbcgcnmnblfhmaa
