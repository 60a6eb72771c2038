/- Find, over data; what two runs of it are compared by. -/
import Derived.Test.YtbcgcnmnblfhmaaDi0
namespace Go.Proofs.Ytbcgcnmnblfhmaa
open Lin Tar
set_option maxRecDepth 10000

theorem find_at {h : AHeap} {G : List (List Int)} {inv : Value} (D : (cSlc (cSlc cZ)).R (· < h.next) h [inv] G) (hN : G.length ≤ 1000000) (hI : ∀ l ∈ G, l.length ≤ 1000000000) {Q : Value → AHeap → Prop}
    (hq : ∀ (h' : AHeap) (kp : Option Addr) (kq oid : Nat) (knots : List (List Nat)) (of : Nat → Nat), On h h' → oid < h'.next → h'.obj oid = some (.arr true 3 (tab G.length fun i => iv (of i))) → Done G.length (getG G) knots of →
      Q (.tuple #[.slice kp knots.length kq, .slice (some ⟨oid, 0, none⟩) G.length 1]) h') : ACallW Try.prog 9 [inv] h Q := by
  refine find_spec sortC (dat_graph (fun j hj => hj) D) hN (fun v hv => ?_) ?_
  · have : getG G v = G[v] := by simp [getG, List.getD_eq_getElem?_getD, hv]
    rw [this]
    exact hI _ (List.getElem_mem hv)
  · intro h' ρ kv oid rows of hn ho _ R _ _ hlt hob hD
    obtain ⟨kp, kq, rfl⟩ := row_slice R
    rw [List.length_map]
    have e : (rows.map (·.2)).length = rows.length := List.length_map ..
    rw [← e]
    exact hq h' kp kq oid (rows.map (·.2)) of ⟨hn, ho⟩ hlt hob hD
end Go.Proofs.Ytbcgcnmnblfhmaa
