/- Graphs with the same reaching have the same knots. No program in sight. -/
import Derived.Test.YtbcgcnmnblfhmaaTar0
namespace Go.Proofs.Ytbcgcnmnblfhmaa.Tar

/-- A node of a knot. -/
def rep (knots : List (List Nat)) (k : Nat) : Nat := (knots.getD k []).headD 0

theorem rep_of {N : Nat} {into : Nat → List Int} {knots : List (List Nat)} {of : Nat → Nat} (D : Done N into knots of) {k : Nat} (hk : k < knots.length) : rep knots k < N ∧ of (rep knots k) = k := by
  have h1 := D.nonempty _ (List.getElem_mem hk)
  have h2 : rep knots k ∈ knots[k] := by
    unfold rep
    rw [List.getD_eq_getElem?_getD, List.getElem?_eq_getElem hk, Option.getD_some]
    cases h3 : knots[k] with
    | nil => exact absurd h3 h1
    | cons x t => simp
  exact ⟨D.lt _ (List.getElem_mem hk) _ h2, D.of_eq k _ _ (List.getElem?_eq_getElem hk) h2⟩

theorem knots_le {N : Nat} {i1 i2 : Nat → List Int} {k1 k2 : List (List Nat)} {o1 o2 : Nat → Nat} (D1 : Done N i1 k1 o1) (D2 : Done N i2 k2 o2) (h : ∀ x y, x < N → y < N → o2 x = o2 y → o1 x = o1 y) : k1.length ≤ k2.length := by
  have hn : ((List.range k1.length).map fun k => o2 (rep k1 k)).Nodup := by
    rw [List.nodup_iff_pairwise_ne, List.pairwise_map]
    refine List.Pairwise.imp_of_mem ?_ (List.nodup_iff_pairwise_ne.1 List.nodup_range)
    intro a b ha hb hab e
    have h1 := rep_of D1 (List.mem_range.1 ha)
    have h2 := rep_of D1 (List.mem_range.1 hb)
    have := h _ _ h1.1 h2.1 e
    rw [h1.2, h2.2] at this
    exact hab this
  have := sub_len hn (b := List.range k2.length) (fun x hx => by
    obtain ⟨k, hk, rfl⟩ := List.mem_map.1 hx
    exact List.mem_range.2 (D2.of_lt (rep_of D1 (List.mem_range.1 hk)).1))
  simpa using this

/-- Nodes that come to each other in the one do so in the other one. -/
theorem same_knots {N : Nat} {i1 i2 : Nat → List Int} {k1 k2 : List (List Nat)} {o1 o2 : Nat → Nat} (D1 : Done N i1 k1 o1) (D2 : Done N i2 k2 o2)
    (h : ∀ x y, x < N → y < N → ((Reach N i1 x y ∧ Reach N i1 y x) ↔ (Reach N i2 x y ∧ Reach N i2 y x))) : k1.length = k2.length ∧ ∀ x y, x < N → y < N → (o1 x = o1 y ↔ o2 x = o2 y) := by
  have key : ∀ x y, x < N → y < N → (o1 x = o1 y ↔ o2 x = o2 y) := fun x y hx hy => by rw [D1.same hx hy, D2.same hx hy]; exact h x y hx hy
  refine ⟨Nat.le_antisymm (knots_le D1 D2 fun x y hx hy e => (key x y hx hy).2 e) (knots_le D2 D1 fun x y hx hy e => (key x y hx hy).1 e), key⟩

theorem Reach.of_edges {N : Nat} {i1 i2 : Nat → List Int} (h : ∀ x y, Edge N i1 x y → Reach N i2 x y) {x y : Nat} (r : Reach N i1 x y) : Reach N i2 x y := by
  induction r with
  | refl v => exact .refl v
  | step e _ ih => exact (h _ _ e).trans ih

theorem Reach.turn {N : Nat} {i1 i2 : Nat → List Int} (h : ∀ x y, Edge N i1 x y → Reach N i2 y x) {x y : Nat} (r : Reach N i1 x y) : Reach N i2 y x := by
  induction r with
  | refl v => exact .refl v
  | step e _ ih => exact ih.trans (h _ _ e)
end Go.Proofs.Ytbcgcnmnblfhmaa.Tar
