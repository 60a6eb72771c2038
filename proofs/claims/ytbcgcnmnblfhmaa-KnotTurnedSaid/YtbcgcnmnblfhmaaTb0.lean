/- Tables of rows that grow: each row is told by its role. -/
import Derived.Test.YtbcgcnmnblfhmaaKn0
import Derived.Test.YtbcgcnmnblfhmaaDat1
namespace Go.Proofs.Ytbcgcnmnblfhmaa
open Lin Tar

/-- The role of row v of table k, of K tables. -/
def rr (K k v : Nat) : Nat := K + 1 + v * K + k
theorem rr_inj {K k v k' v' : Nat} (hk : k < K) (hk' : k' < K) (h : rr K k v = rr K k' v') : k = k' ∧ v = v' := by
  unfold rr at h
  have h1 : v * K + k = v' * K + k' := by omega
  have h2 : (v * K + k) % K = (v' * K + k') % K := by rw [h1]
  rw [Nat.add_comm (v * K), Nat.add_comm (v' * K), Nat.add_mul_mod_self_right, Nat.add_mul_mod_self_right, Nat.mod_eq_of_lt hk, Nat.mod_eq_of_lt hk'] at h2
  subst h2
  have h3 : v * K = v' * K := by omega
  exact ⟨rfl, Nat.eq_of_mul_eq_mul_right (by omega) h3⟩
theorem rr_gt {K k v : Nat} : K < rr K k v := by unfold rr; omega

structure Tabs (h0 h : AHeap) (K : Nat) (n : Nat → Nat) (oty ty : TypeId) (ids : Nat → Nat) (val : Nat → Nat → Value) (con : Nat → Nat → List Value) (ρ : Nat → Nat) : Prop where
  on : On h0 h
  zero : ∀ i, i < h0.next → ρ i = 0
  lt : ∀ k, k < K → ids k < h.next
  role : ∀ k, k < K → ρ (ids k) = k + 1
  out : ∀ k, k < K → h.obj (ids k) = some (.arr true oty (tab (n k) (val k)))
  row : ∀ k v, k < K → v < n k → Row ρ (rr K k v) ty h (val k v) (con k v)

def upd2 {α : Type} (f : Nat → Nat → α) (k v : Nat) (x : α) : Nat → Nat → α := fun a b => if a = k ∧ b = v then x else f a b
theorem upd2_same {α : Type} (f : Nat → Nat → α) (k v : Nat) (x : α) : upd2 f k v x k v = x := by simp [upd2]
theorem upd2_row {α : Type} (f : Nat → Nat → α) (k v : Nat) (x : α) : upd2 f k v x k = upd (f k) v x := by
  funext b; by_cases h : b = v <;> simp [upd2, upd, h]
theorem upd2_ne {α : Type} (f : Nat → Nat → α) {k k' : Nat} (v : Nat) (x : α) (h : k' ≠ k) : upd2 f k v x k' = f k' := by
  funext b; simp [upd2, h]

/-- One more in a row. -/
theorem Tabs.push {h0 h h' : AHeap} {K : Nat} {n : Nat → Nat} {oty ty : TypeId} {ids : Nat → Nat} {val : Nat → Nat → Value} {con : Nat → Nat → List Value} {ρ : Nat → Nat} (T : Tabs h0 h K n oty ty ids val con ρ) {k v : Nat} (hk : k < K) (hv : v < n k) (x : Value)
    {id m : Nat} (hn : h.next ≤ h'.next) (hid : h.next ≤ id) (hlt : id < h'.next) (hm : m = (con k v).length + 1) (hrow : ∃ t, h'.obj id = some (.arr true ty (con k v ++ (x :: t)))) (hout : h'.obj (ids k) = some (.arr true oty (tab (n k) (upd (val k) v (.slice (some ⟨id, 0, none⟩) m 1)))))
    (hoth : ∀ j, j < h.next → ρ j ≠ rr K k v → ρ j ≠ k + 1 → h'.obj j = h.obj j) :
    Tabs h0 h' K n oty ty ids (upd2 val k v (.slice (some ⟨id, 0, none⟩) m 1)) (upd2 con k v (con k v ++ [x])) (fun i => if i = id then rr K k v else ρ i) := by
  have hρ : ∀ i, i < h.next → (fun i => if i = id then rr K k v else ρ i) i = ρ i := fun i hi => by show (if i = id then _ else ρ i) = _; rw [if_neg (by omega)]
  refine ⟨⟨Nat.le_trans T.on.nxt hn, fun i hi => (hoth i (Nat.lt_of_lt_of_le hi T.on.nxt) (by rw [T.zero i hi]; have := @rr_gt K k v; omega) (by rw [T.zero i hi]; omega)).trans (T.on.obj i hi)⟩, fun i hi => (hρ i (Nat.lt_of_lt_of_le hi T.on.nxt)).trans (T.zero i hi),
    fun a ha => Nat.lt_of_lt_of_le (T.lt a ha) hn, fun a ha => (hρ _ (T.lt a ha)).trans (T.role a ha), fun a ha => ?_, fun a b ha hb => ?_⟩
  · by_cases hak : a = k
    · subst hak; rw [upd2_row]; exact hout
    · rw [upd2_ne _ _ _ hak, hoth _ (T.lt a ha) (by rw [T.role a ha]; have := @rr_gt K k v; omega) (by rw [T.role a ha]; omega)]
      exact T.out a ha
  · by_cases hab : a = k ∧ b = v
    · obtain ⟨rfl, rfl⟩ := hab
      rw [upd2_same, upd2_same]
      obtain ⟨t, ht⟩ := hrow
      exact row_mk t (by simp [hm]) (by simp) hlt (by rw [ht]; simp)
    · have e1 : upd2 val k v (.slice (some ⟨id, 0, none⟩) m 1) a b = val a b := by simp [upd2, hab]
      have e2 : upd2 con k v (con k v ++ [x]) a b = con a b := by simp [upd2, hab]
      rw [e1, e2]
      refine row_keep (T.row a b ha hb) hn hρ (fun i hi hr => hoth i hi (fun e => hab ?_) (by rw [hr]; have := @rr_gt K a b; omega))
      rw [hr] at e
      exact rr_inj ha hk e

theorem Tabs.same {h0 h h' : AHeap} {K : Nat} {n : Nat → Nat} {oty ty : TypeId} {ids : Nat → Nat} {val : Nat → Nat → Value} {con : Nat → Nat → List Value} {ρ : Nat → Nat} (T : Tabs h0 h K n oty ty ids val con ρ) (hn : h.next ≤ h'.next) (ho : h'.obj = h.obj) : Tabs h0 h' K n oty ty ids val con ρ :=
  ⟨⟨Nat.le_trans T.on.nxt hn, fun i hi => by rw [ho]; exact T.on.obj i hi⟩, T.zero, fun k hk => Nat.lt_of_lt_of_le (T.lt k hk) hn, T.role, fun k hk => by rw [ho]; exact T.out k hk, fun k v hk hv => row_keep (T.row k v hk hv) hn (fun _ _ => rfl) (fun i _ _ => by rw [ho])⟩

/-- What is told of a row, for an append. -/
theorem Tabs.get {h0 h : AHeap} {K : Nat} {n : Nat → Nat} {oty ty : TypeId} {ids : Nat → Nat} {val : Nat → Nat → Value} {con : Nat → Nat → List Value} {ρ : Nat → Nat} (T : Tabs h0 h K n oty ty ids val con ρ) {k v : Nat} (hk : k < K) (hv : v < n k) :
    (val k v = .slice none 0 0 ∧ con k v = []) ∨ ∃ id c, val k v = .slice (some ⟨id, 0, none⟩) (con k v).length 1 ∧ ρ id = rr K k v ∧ id ≠ ids k ∧ id < h.next ∧ h.obj id = some (.arr true ty (con k v ++ c)) := by
  rcases row_inv (T.row k v hk hv) with ⟨a, b⟩ | ⟨id, c, a, b, d, e⟩
  · exact .inl ⟨a, b⟩
  · refine .inr ⟨id, c, a, b, fun q => ?_, d, e⟩
    have h1 := T.role k hk
    rw [← q, b] at h1
    have := @rr_gt K k v
    omega

/-- Rows of such are data. -/
theorem Tabs.data {α : Type} {c : Cod α} (hc : c.n = 1) {h0 h : AHeap} {K : Nat} {n : Nat → Nat} {oty ty : TypeId} {ids : Nat → Nat} {val : Nat → Nat → Value} {con : Nat → Nat → List Value} {ρ : Nat → Nat} (T : Tabs h0 h K n oty ty ids val con ρ) {k : Nat} (hk : k < K) {l : List (List α)} (hl : l.length = n k)
    (hx : ∀ (v : Nat) (r : List α), l[v]? = some r → (con k v).length = r.length ∧ ∀ (i : Nat) (x : α), r[i]? = some x → ∃ u, (con k v)[i]? = some u ∧ c.R (· < h.next) h [u] x) : (cSlc (cSlc c)).R (· < h.next) h [.slice (some ⟨ids k, 0, none⟩) (n k) 1] l := by
  rw [← hl]
  refine ⟨_, _, rfl, .inr ⟨ids k, 0, rfl, rfl, fun _ => ⟨T.lt k hk, true, oty, _, T.out k hk, by rw [tab_len]; simp [hl], fun v r hr => ?_⟩⟩⟩
  have hv : v < n k := by rw [← hl]; exact (List.getElem?_eq_some_iff.1 hr).1
  show (cSlc c).R _ h (((tab (n k) (val k)).drop (0 + v * 1)).take 1) r
  rw [Nat.zero_add, Nat.mul_one, take_one (by rw [tab_len]; exact hv)]
  have e : (tab (n k) (val k))[v]'(by rw [tab_len]; exact hv) = val k v := tab_getE _
  rw [e]
  obtain ⟨h1, h2⟩ := hx v r hr
  rcases row_inv (T.row k v hk hv) with ⟨a, b⟩ | ⟨id, t, a, b, d, q⟩
  · rw [a]
    rw [b] at h1
    have : r = [] := List.eq_nil_of_length_eq_zero h1.symm
    subst this
    exact slc_nil
  · rw [a, h1]
    refine ⟨_, _, rfl, .inr ⟨id, 0, rfl, hc.symm, fun _ => ⟨d, true, ty, _, q, by rw [hc]; simp [h1], fun i x hi => ?_⟩⟩⟩
    obtain ⟨u, h3, h4⟩ := h2 i x hi
    have hlt := (List.getElem?_eq_some_iff.1 h3).1
    rw [hc, Nat.zero_add, Nat.mul_one, take_one (by rw [List.length_append]; omega), List.getElem_append_left hlt]
    rw [(List.getElem?_eq_some_iff.1 h3).2]
    exact h4
end Go.Proofs.Ytbcgcnmnblfhmaa
