/- What KnotFind's walk needs: Find with all that it tells; a table of yes and no. -/
import Derived.Test.YtbcgcnmnblfhmaaFi0
import Derived.Test.YtbcgcnmnblfhmaaFd0
namespace Go.Proofs.Ytbcgcnmnblfhmaa
open Lin Tar
set_option maxRecDepth 10000

def intsOf (l : List Nat) : List Int := l.map Int.ofNat
theorem find_at2 {h : AHeap} {G : List (List Int)} {inv : Value} (D : (cSlc (cSlc cZ)).R (· < h.next) h [inv] G) (hN : G.length ≤ 1000000) (hI : ∀ l ∈ G, l.length ≤ 1000000000) {Q : Value → AHeap → Prop}
    (hq : ∀ (h' : AHeap) (kv : Value) (oid : Nat) (knots : List (List Nat)) (of : Nat → Nat), On h h' → (cSlc (cSlc cZ)).R (· < h'.next) h' [kv] (knots.map intsOf) → oid < h'.next → h'.obj oid = some (.arr true 3 (tab G.length fun i => iv (of i))) → Done G.length (getG G) knots of →
      Q (.tuple #[kv, .slice (some ⟨oid, 0, none⟩) G.length 1]) h') : ACallW Try.prog 9 [inv] h Q := by
  refine find_spec sortC (dat_graph (fun j hj => hj) D) hN (fun v hv => ?_) ?_
  · have : getG G v = G[v] := by simp [getG, List.getD_eq_getElem?_getD, hv]
    rw [this]
    exact hI _ (List.getElem_mem hv)
  · intro h' ρ kv oid rows of hn ho _ R each _ hlt hob hD
    refine hq h' kv oid (rows.map (·.2)) of ⟨hn, ho⟩ ?_ hlt hob hD
    have hl : ((rows.map (·.2)).map intsOf).length = rows.length := by simp
    rcases row_inv R with ⟨rfl, e⟩ | ⟨id, c, rfl, _, hid, hob2⟩
    · have : rows = [] := by simpa using e
      subst this
      exact slc_nil
    · refine ⟨some ⟨id, 0, none⟩, 1, by simp, .inr ⟨id, 0, rfl, rfl, fun _ => ⟨hid, true, 24, _, hob2, by simp, fun k l hk => ?_⟩⟩⟩
      have hk' : k < rows.length := by rw [← hl]; exact (List.getElem?_eq_some_iff.1 hk).1
      have e : l = intsOf rows[k].2 := by
        rw [List.getElem?_eq_getElem (by rw [hl]; exact hk')] at hk
        simpa using hk.symm
      subst e
      obtain ⟨_, h2, h3⟩ := each rows[k] (List.getElem_mem hk')
      show (cSlc cZ).R _ h' (((rows.map fun r => sl r.1 r.2.length) ++ c).drop (0 + k * 1) |>.take 1) _
      rw [Nat.zero_add, Nat.mul_one, take_one (by simp; omega), List.getElem_append_left (by simpa using hk'), List.getElem_map]
      refine ints_mk (own := true) (ty := 3) [] h2 ?_ (by simp [intsOf])
      rw [h3]
      simp [nats, intsOf, iv]

structure Mat (h0 h : AHeap) (n O : Nat) (oty : TypeId) (rid : Nat → Nat) (R : Nat → Nat → Bool) : Prop where
  on : On h0 h
  lo : h0.next ≤ O ∧ ∀ v, v < n → h0.next ≤ rid v
  lt : O < h.next ∧ ∀ v, v < n → rid v < h.next
  out : h.obj O = some (.arr true oty (tab n fun v => .slice (some ⟨rid v, 0, none⟩) n 1))
  row : ∀ v, v < n → h.obj (rid v) = some (.arr true 4 (tab n fun u => .bool (R v u)))
  inj : ∀ v u, v < n → u < n → rid v = rid u → v = u
  ne : ∀ v, v < n → rid v ≠ O

theorem Mat.same {h0 h h' : AHeap} {n O : Nat} {oty : TypeId} {rid : Nat → Nat} {R : Nat → Nat → Bool} (M : Mat h0 h n O oty rid R) (hn : h.next ≤ h'.next) (ho : h'.obj = h.obj) : Mat h0 h' n O oty rid R :=
  ⟨⟨Nat.le_trans M.on.nxt hn, fun i hi => by rw [ho]; exact M.on.obj i hi⟩, M.lo, ⟨Nat.lt_of_lt_of_le M.lt.1 hn, fun v hv => Nat.lt_of_lt_of_le (M.lt.2 v hv) hn⟩, by rw [ho]; exact M.out, fun v hv => by rw [ho]; exact M.row v hv, M.inj, M.ne⟩

theorem Mat.set {h0 h h' : AHeap} {n O : Nat} {oty : TypeId} {rid : Nat → Nat} {R : Nat → Nat → Bool} (M : Mat h0 h n O oty rid R) {v u : Nat} (hv : v < n) (b : Bool) (hn : h.next ≤ h'.next) (hrow : h'.obj (rid v) = some (.arr true 4 (tab n (upd (fun u => .bool (R v u)) u (.bool b)))))
    (hoth : ∀ j, j < h.next → j ≠ rid v → h'.obj j = h.obj j) : Mat h0 h' n O oty rid (set2 R v u b) := by
  refine ⟨⟨Nat.le_trans M.on.nxt hn, fun i hi => (hoth i (Nat.lt_of_lt_of_le hi M.on.nxt) (fun e => by have := M.lo.2 v hv; omega)).trans (M.on.obj i hi)⟩, M.lo, ⟨Nat.lt_of_lt_of_le M.lt.1 hn, fun v hv => Nat.lt_of_lt_of_le (M.lt.2 v hv) hn⟩,
    (hoth O M.lt.1 (fun e => M.ne v hv e.symm)).trans M.out, fun x hx => ?_, M.inj, M.ne⟩
  by_cases hxv : x = v
  · subst hxv
    rw [hrow, upd_bool]
    congr 2
    apply tab_congr
    intro y _
    by_cases hy : y = u <;> simp [set2, upd, hy]
  · rw [hoth _ (M.lt.2 x hx) (fun e => hxv (M.inj x v hx hv e)), M.row x hx]
    congr 2
    apply tab_congr
    intro y _
    simp [set2, hxv]
end Go.Proofs.Ytbcgcnmnblfhmaa
