/- A ring, a row: their knots. No program in sight. -/
import Derived.Test.YtbcgcnmnblfhmaaTar0
namespace Go.Proofs.Ytbcgcnmnblfhmaa.Tar

def ringG (k : Nat) : Nat → List Int := fun v => if v = 0 then [((k - 1 : Nat) : Int)] else [((v - 1 : Nat) : Int)]
def rowG : Nat → List Int := fun v => if v = 0 then [] else [((v - 1 : Nat) : Int)]

theorem ring_down {k : Nat} : ∀ {v u : Nat}, u ≤ v → v < k → Reach k (ringG k) v u := by
  intro v
  induction v with
  | zero => intro u h _; have : u = 0 := by omega
            subst this; exact .refl 0
  | succ v ih =>
    intro u h hk
    by_cases e : u = v + 1
    · subst e; exact .refl _
    · exact .step ⟨by omega, by simp [ringG]⟩ (ih (by omega) (by omega))

theorem ring_all {k v u : Nat} (hv : v < k) (hu : u < k) : Reach k (ringG k) v u :=
  (ring_down (Nat.zero_le v) hv).trans (.step (w := k - 1) ⟨by omega, by simp [ringG]⟩ (ring_down (by omega) (by omega)))

theorem ring_done {k : Nat} {knots : List (List Nat)} {of : Nat → Nat} (hk : 0 < k) (D : Done k (ringG k) knots of) : of (k - 1) = 0 ∧ ∃ l, knots = [l] ∧ l.length = k := by
  have all0 : ∀ x, x < k → of x = of 0 := fun x hx => (D.same hx hk).2 ⟨ring_all hx hk, ring_all hk hx⟩
  have b := D.of_lt hk
  have cov : ∀ i, i < knots.length → i = of 0 := by
    intro i hi
    obtain ⟨x, hx⟩ := List.exists_mem_of_ne_nil _ (D.nonempty _ (List.getElem_mem hi))
    have h1 := D.lt _ (List.getElem_mem hi) x hx
    rw [← all0 x h1]
    exact (D.of_eq i _ x (List.getElem?_eq_getElem hi) hx).symm
  have h0 := cov 0 (by omega)
  have hl : knots.length = 1 := by
    by_cases h : knots.length ≤ 1
    · omega
    · have := cov 1 (by omega); omega
  refine ⟨by rw [all0 _ (by omega)]; exact h0.symm, ?_⟩
  match knots, hl, D.total with
  | [l], _, ht => exact ⟨l, rfl, by simpa using ht⟩

theorem row_down {k : Nat} : ∀ {v u : Nat}, u ≤ v → v < k → Reach k rowG v u := by
  intro v
  induction v with
  | zero => intro u h _; have : u = 0 := by omega
            subst this; exact .refl 0
  | succ v ih =>
    intro u h hk
    by_cases e : u = v + 1
    · subst e; exact .refl _
    · exact .step ⟨by omega, by simp [rowG]⟩ (ih (by omega) (by omega))

theorem row_le {k v u : Nat} (r : Reach k rowG v u) : u ≤ v := by
  induction r with
  | refl => exact Nat.le_refl _
  | step e _ ih =>
    obtain ⟨h1, h2⟩ := e
    unfold rowG at h2
    split at h2
    · simp at h2
    · simp at h2; omega

theorem rising {f : Nat → Nat} {k m : Nat} (hs : ∀ v u, v < u → u < k → f v < f u) (hm : ∀ v, v < k → f v < m) (hmk : m ≤ k) : ∀ v, v < k → f v = v := by
  have lo : ∀ v, v < k → v ≤ f v := by
    intro v
    induction v with
    | zero => intro _; exact Nat.zero_le _
    | succ v ih => intro h; have := ih (by omega); have := hs v (v + 1) (by omega) h; omega
  have hi : ∀ j v, v < k → j = k - 1 - v → f v + j < m := by
    intro j
    induction j with
    | zero => intro v h _; have := hm v h; omega
    | succ j ih => intro v h e; have := ih (v + 1) (by omega) (by omega); have := hs v (v + 1) (by omega) (by omega); omega
  intro v h
  have := lo v h
  have := hi _ v h rfl
  omega

theorem row_done {k : Nat} {knots : List (List Nat)} {of : Nat → Nat} (hk : 0 < k) (D : Done k rowG knots of) : knots.length = k ∧ (∀ v, v < k → of v = v) ∧ ∀ (v : Nat) (l : List Nat), knots[v]? = some l → l.length = 1 := by
  have hs : ∀ v u, v < u → u < k → of v < of u := by
    intro v u h hu
    have h1 := D.reach (row_down (k := k) (Nat.le_of_lt h) hu) hu
    have h2 : of v ≠ of u := fun e => by
      have := row_le ((D.same (by omega) hu).1 e).1
      omega
    omega
  have hof := rising hs (fun v hv => D.of_lt hv) D.len_le
  have hlen : knots.length = k := by
    have := D.of_lt (x := k - 1) (by omega)
    rw [hof _ (by omega)] at this
    have := D.len_le
    omega
  refine ⟨hlen, hof, fun v l hl => ?_⟩
  have hm := List.mem_of_getElem? hl
  have hall : ∀ x ∈ l, x = v := fun x hx => by rw [← hof x (D.lt l hm x hx)]; exact D.of_eq v l x hl hx
  have hn := nodup_of_lt (D.rows l hm)
  have h1 : l.length ≤ [v].length := sub_len hn (fun x hx => by rw [hall x hx]; simp)
  have h2 := List.length_pos_iff.2 (D.nonempty l hm)
  simp at h1
  omega

end Go.Proofs.Ytbcgcnmnblfhmaa.Tar
