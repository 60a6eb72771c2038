/- Relaxed as many times as there are nodes: who is come to. No program in sight. -/
import Derived.Test.YtbcgcnmnblfhmaaKp0
namespace Go.Proofs.Ytbcgcnmnblfhmaa.Tar

/-- A way, by the nodes that it leaves. -/
inductive Walk (N : Nat) (into : Nat → List Int) : Nat → List Nat → Nat → Prop
  | nil (v : Nat) : Walk N into v [] v
  | cons {v w u : Nat} {l : List Nat} (e : Edge N into v w) (t : Walk N into w l u) : Walk N into v (v :: l) u

variable {N : Nat} {into : Nat → List Int}
theorem Walk.suffix {v u x : Nat} {l : List Nat} (w : Walk N into v l u) (hx : x ∈ l) : ∃ m, Walk N into x m u ∧ ∃ a, l = a ++ m := by
  induction w with
  | nil => cases hx
  | @cons v w u l e t ih =>
    rcases List.mem_cons.1 hx with rfl | hx
    · exact ⟨_, .cons e t, [], rfl⟩
    · obtain ⟨m, h1, a, h2⟩ := ih hx
      exact ⟨m, h1, v :: a, by rw [h2]; rfl⟩

theorem Reach.walk {v u : Nat} (r : Reach N into v u) : ∃ l, Walk N into v l u ∧ l.Nodup := by
  induction r with
  | refl v => exact ⟨[], .nil v, List.nodup_nil⟩
  | @step v w u e t ih =>
    obtain ⟨l, h1, h2⟩ := ih
    by_cases hv : v ∈ l
    · obtain ⟨m, h3, a, h4⟩ := h1.suffix hv
      refine ⟨m, h3, ?_⟩
      rw [h4, List.nodup_append] at h2
      exact h2.2.1
    · exact ⟨v :: l, .cons e h1, List.nodup_cons.2 ⟨hv, h2⟩⟩

theorem Walk.lt {v u : Nat} {l : List Nat} (w : Walk N into v l u) (hv : v < N) : ∀ x ∈ l, x < N := by
  induction w with
  | nil => intro x hx; cases hx
  | cons e t ih =>
    intro x hx
    rcases List.mem_cons.1 hx with rfl | hx
    · exact hv
    · exact ih e.1 x hx

theorem Reach.short {v u : Nat} (r : Reach N into v u) (hv : v < N) : ∃ l, Walk N into v l u ∧ l.length ≤ N := by
  obtain ⟨l, h1, h2⟩ := r.walk
  refine ⟨l, h1, ?_⟩
  have := sub_len h2 (b := List.range N) (fun x hx => List.mem_range.2 (h1.lt hv x hx))
  simpa using this

def set2 (R : Nat → Nat → Bool) (v u : Nat) (b : Bool) : Nat → Nat → Bool := fun x y => if x = v ∧ y = u then b else R x y

/-- All that is told is so. -/
def Sound (N : Nat) (into : Nat → List Int) (R : Nat → Nat → Bool) : Prop := ∀ v u, v < N → u < N → R v u = true → Reach N into v u
/-- All ways of so many steps, from some nodes, are told. -/
def Comp (N : Nat) (into : Nat → List Int) (R : Nat → Nat → Bool) (t : Nat) (S : Nat → Prop) : Prop := ∀ v l u, S v → v < N → u < N → Walk N into v l u → l.length ≤ t → R v u = true
/-- .. over the first edges of a node. -/
def Over (N : Nat) (into : Nat → List Int) (R : Nat → Nat → Bool) (t v k : Nat) : Prop := ∀ j w l u, j < k → (into v)[j]? = some ((w : Nat) : Int) → w < N → u < N → Walk N into w l u → l.length ≤ t → R v u = true
/-- One row is in another one, as far as that. -/
def Upto (R : Nat → Nat → Bool) (v w m : Nat) : Prop := ∀ u, u < m → R w u = true → R v u = true

theorem Comp.start {R : Nat → Nat → Bool} (h : ∀ v, v < N → R v v = true) : Comp N into R 0 (fun _ => True) := by
  intro v l u _ hv _ w hl
  cases w with
  | nil => exact h _ hv
  | cons e t => simp at hl
theorem Comp.less {R : Nat → Nat → Bool} {t : Nat} {S : Nat → Prop} (h : Comp N into R (t + 1) S) : Comp N into R t S := fun v l u a b c d e => h v l u a b c d (by omega)

theorem set2_mono {R : Nat → Nat → Bool} {v u : Nat} {b : Bool} (h : R v u = true → b = true) {x y : Nat} (hx : R x y = true) : set2 R v u b x y = true := by
  unfold set2
  split
  · rename_i hc; rw [hc.1, hc.2] at hx; exact h hx
  · exact hx
theorem set2_same (R : Nat → Nat → Bool) (v u : Nat) (b : Bool) : set2 R v u b v u = b := by simp [set2]

/-- A round's node has been looked at. -/
theorem Over.done {R : Nat → Nat → Bool} {t v : Nat} (h : Over N into R t v (into v).length) (h0 : Comp N into R t (fun _ => True)) (hv : v < N) : ∀ l u, u < N → Walk N into v l u → l.length ≤ t + 1 → R v u = true := by
  intro l u hu w hl
  cases w with
  | nil => exact h0 v [] v trivial hv hu (.nil v) (Nat.zero_le _)
  | @cons _ w' _ l' e t' =>
    obtain ⟨h1, h2⟩ := e
    obtain ⟨j, hj, hjx⟩ := List.mem_iff_getElem.1 h2
    exact h j w' l' u hj (by rw [List.getElem?_eq_getElem hj, hjx]) h1 hu t' (by simp at hl; omega)
theorem Sound.set {R : Nat → Nat → Bool} (h : Sound N into R) {v w u : Nat} (e : Edge N into v w) (hv : v < N) (hu : u < N) : Sound N into (set2 R v u (R v u || R w u)) := by
  intro x y hx hy hr
  unfold set2 at hr
  split at hr
  · rename_i hc
    rw [hc.1, hc.2]
    rw [Bool.or_eq_true] at hr
    rcases hr with hr | hr
    · exact h v u hv hu hr
    · exact .step e (h w u e.1 hu hr)
  · exact h x y hx hy hr

/-- What is told in the end. -/
theorem told {R : Nat → Nat → Bool} (h1 : Sound N into R) (h2 : Comp N into R N (fun _ => True)) {v u : Nat} (hv : v < N) (hu : u < N) : R v u = true ↔ Reach N into v u :=
  ⟨h1 v u hv hu, fun r => let ⟨l, a, b⟩ := r.short hv; h2 v l u trivial hv hu a b⟩

/-- What the law asks of knots. -/
theorem Done.law {knots : List (List Nat)} {of : Nat → Nat} (D : Done N into knots of) {R : Nat → Nat → Bool} (h : ∀ v u, v < N → u < N → (R v u = true ↔ Reach N into v u)) {v u : Nat} (hv : v < N) (hu : u < N) :
    ((of v = of u) ↔ (R v u && R u v) = true) ∧ (R v u = true → of u ≤ of v) := by
  refine ⟨?_, fun hr => D.reach ((h v u hv hu).1 hr) hv⟩
  rw [D.same hv hu, Bool.and_eq_true, h v u hv hu, h u v hu hv]
end Go.Proofs.Ytbcgcnmnblfhmaa.Tar
