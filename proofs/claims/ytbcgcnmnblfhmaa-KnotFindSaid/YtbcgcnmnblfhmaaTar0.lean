/- Knots of a graph, found as the code finds them: the search's states, and what holds at each. No program in sight. -/
namespace Go.Proofs.Ytbcgcnmnblfhmaa.Tar

def upd {α : Type} (f : Nat → α) (v : Nat) (x : α) : Nat → α := fun i => if i = v then x else f i
theorem upd_same {α : Type} (f : Nat → α) (v : Nat) (x : α) : upd f v x v = x := by simp [upd]
theorem upd_ne {α : Type} (f : Nat → α) {v i : Nat} (x : α) (h : i ≠ v) : upd f v x i = f i := by simp [upd, h]

/-- A state of the search. -/
structure TS where
  index : Nat → Nat
  low : Nat → Nat
  on : Nat → Bool
  stack : List Nat
  of : Nat → Nat
  n : Nat
  knots : List (List Nat)

/-- v gets something of w. -/
def Edge (N : Nat) (into : Nat → List Int) (v w : Nat) : Prop := w < N ∧ (w : Int) ∈ into v

inductive Reach (N : Nat) (into : Nat → List Int) : Nat → Nat → Prop
  | refl (v : Nat) : Reach N into v v
  | step {v w u : Nat} (h : Edge N into v w) (t : Reach N into w u) : Reach N into v u

section
variable {N : Nat} {into : Nat → List Int}
theorem Reach.trans {a b c : Nat} (h : Reach N into a b) (k : Reach N into b c) : Reach N into a c := by
  induction h with
  | refl => exact k
  | step e _ ih => exact .step e (ih k)
theorem Reach.one {a b : Nat} (h : Edge N into a b) : Reach N into a b := .step h (.refl b)

def nodes (path : List (Nat × Nat)) : List Nat := path.map (·.1)

/-- Told of a state whose search stands at a path (its first node first). -/
structure TInv (N : Nat) (into : Nat → List Int) (path : List (Nat × Nat)) (s : TS) : Prop where
  stk_lt : ∀ x ∈ s.stack, x < N
  knt_lt : ∀ k ∈ s.knots, ∀ x ∈ k, x < N
  vis : ∀ x, x < N → (s.index x ≠ 0 ↔ (x ∈ s.stack ∨ ∃ k ∈ s.knots, x ∈ k))
  on : ∀ x, x < N → (s.on x = true ↔ x ∈ s.stack)
  sorted : s.stack.Pairwise fun a b => s.index a < s.index b
  idx_le : ∀ x, s.index x ≤ s.n
  sub : (nodes path).Sublist s.stack
  next_le : ∀ f ∈ path, f.2 ≤ (into f.1).length
  ahead : ∀ v ∈ nodes path, ∀ x ∈ s.stack, s.index v ≤ s.index x → Reach N into v x
  back : ∀ x ∈ s.stack, ∃ v ∈ nodes path, s.index v ≤ s.index x ∧ Reach N into x v
  shut : ∀ (k : Nat) l x, s.knots[k]? = some l → x ∈ l → ∀ y, Edge N into x y → ∃ j m, j ≤ k ∧ s.knots[j]? = some m ∧ y ∈ m
  black : ∀ x ∈ s.stack, x ∉ nodes path → ∀ y, Edge N into x y → s.index y ≠ 0
  gray : ∀ f ∈ path, ∀ i, i < f.2 → ∀ y : Nat, y < N → (into f.1)[i]? = some (y : Int) → s.index y ≠ 0
  low_le : ∀ x ∈ s.stack, s.low x ≤ s.index x
  low_wit : ∀ x ∈ s.stack, ∃ y ∈ s.stack, s.index y = s.low x ∧ Reach N into x y
  compB : ∀ x ∈ s.stack, x ∉ nodes path → ∀ y ∈ s.stack, Edge N into x y → ∀ v ∈ nodes path, s.index v < s.index x →
    (∀ g ∈ nodes path, s.index g < s.index x → s.index g ≤ s.index v) → s.low v ≤ s.index y
  compG : ∀ f ∈ path, ∀ i, i < f.2 → ∀ y : Nat, y ∈ s.stack → (into f.1)[i]? = some (y : Int) → s.low f.1 ≤ s.index y
  knot : ∀ k ∈ s.knots, ∀ a ∈ k, ∀ b ∈ k, Reach N into a b
  of_eq : ∀ (k : Nat) l x, s.knots[k]? = some l → x ∈ l → s.of x = k
  apart : ∀ k ∈ s.knots, ∀ x ∈ k, x ∉ s.stack
  nonempty : ∀ k ∈ s.knots, k ≠ []
  rows : ∀ k ∈ s.knots, k.Pairwise (· < ·)
  count : s.n = s.stack.length + s.knots.flatten.length

theorem TInv.stk_pos {path : List (Nat × Nat)} {s : TS} (h : TInv N into path s) {x : Nat} (hx : x ∈ s.stack) : s.index x ≠ 0 := (h.vis x (h.stk_lt x hx)).2 (.inl hx)
theorem TInv.mem {path : List (Nat × Nat)} {s : TS} (h : TInv N into path s) {x : Nat} (hx : x ∈ nodes path) : x ∈ s.stack := h.sub.subset hx

theorem idx_inj {l : List Nat} {f : Nat → Nat} (h : l.Pairwise fun a b => f a < f b) {x y : Nat} (hx : x ∈ l) (hy : y ∈ l) (e : f x = f y) : x = y := by
  induction l with
  | nil => simp at hx
  | cons a r ih =>
    rw [List.pairwise_cons] at h
    rcases List.mem_cons.1 hx with rfl | hx' <;> rcases List.mem_cons.1 hy with rfl | hy'
    · rfl
    · have := h.1 y hy'; omega
    · have := h.1 x hx'; omega
    · exact ih h.2 hx' hy'

/-- The last of what rises is the greatest. -/
theorem last_max {l : List Nat} {f : Nat → Nat} {v : Nat} (h : (l ++ [v]).Pairwise fun a b => f a < f b) {x : Nat} (hx : x ∈ l) : f x < f v := by
  rw [List.pairwise_append] at h
  exact h.2.2 x hx v (by simp)

theorem nodes_app (p : List (Nat × Nat)) (f : Nat × Nat) : nodes (p ++ [f]) = nodes p ++ [f.1] := by simp [nodes]

theorem TInv.path_sorted {path : List (Nat × Nat)} {s : TS} (h : TInv N into path s) : (nodes path).Pairwise fun a b => s.index a < s.index b := h.sorted.sublist h.sub

/-! ### One more edge is looked at: of what is no node, of what is done, of what is on the stack. -/

/-- Nothing but the place in the row of edges. -/
theorem TInv.next {p : List (Nat × Nat)} {v i : Nat} {s : TS} (h : TInv N into (p ++ [(v, i)]) s) {z : Int} (hz : (into v)[i]? = some z)
    (hv : ∀ y : Nat, y < N → z = y → s.index y ≠ 0) (hs : ∀ y : Nat, y ∈ s.stack → z = y → s.low v ≤ s.index y) : TInv N into (p ++ [(v, i + 1)]) s := by
  have hn : nodes (p ++ [(v, i + 1)]) = nodes (p ++ [(v, i)]) := by simp [nodes]
  have hlt : i < (into v).length := (List.getElem?_eq_some_iff.1 hz).1
  have fs : ∀ f ∈ p ++ [(v, i + 1)], f ∈ p ++ [(v, i)] ∨ f = (v, i + 1) := by
    intro f hf
    rcases List.mem_append.1 hf with g | g
    · exact .inl (List.mem_append_left _ g)
    · exact .inr (by simpa using g)
  refine { h with sub := by rw [hn]; exact h.sub, next_le := ?_, ahead := by rw [hn]; exact h.ahead, back := by rw [hn]; exact h.back, black := by rw [hn]; exact h.black, gray := ?_, compB := by rw [hn]; exact h.compB, compG := ?_ }
  · intro f hf
    rcases fs f hf with g | rfl
    · exact h.next_le f g
    · exact hlt
  · intro f hf j hj y hy he
    rcases fs f hf with g | rfl
    · exact h.gray f g j hj y hy he
    · by_cases hji : j = i
      · subst hji
        rw [hz] at he
        exact hv y hy (Option.some.inj he)
      · exact h.gray (v, i) (by simp) j (by omega) y hy he
  · intro f hf j hj y hy he
    rcases fs f hf with g | rfl
    · exact h.compG f g j hj y hy he
    · by_cases hji : j = i
      · subst hji
        rw [hz] at he
        exact hs y hy (Option.some.inj he)
      · exact h.compG (v, i) (by simp) j (by omega) y hy he

/-- .. of any frame. -/
theorem TInv.nextAt {p q : List (Nat × Nat)} {v i : Nat} {s : TS} (h : TInv N into (p ++ (v, i) :: q) s) {z : Int} (hz : (into v)[i]? = some z)
    (hv : ∀ y : Nat, y < N → z = y → s.index y ≠ 0) (hs : ∀ y : Nat, y ∈ s.stack → z = y → s.low v ≤ s.index y) : TInv N into (p ++ (v, i + 1) :: q) s := by
  have hn : nodes (p ++ (v, i + 1) :: q) = nodes (p ++ (v, i) :: q) := by simp [nodes]
  have hlt : i < (into v).length := (List.getElem?_eq_some_iff.1 hz).1
  have fs : ∀ f ∈ p ++ (v, i + 1) :: q, f ∈ p ++ (v, i) :: q ∨ f = (v, i + 1) := by
    intro f hf
    rcases List.mem_append.1 hf with g | g
    · exact .inl (List.mem_append_left _ g)
    · rcases List.mem_cons.1 g with g | g
      · exact .inr g
      · exact .inl (List.mem_append_right _ (List.mem_cons_of_mem _ g))
  refine { h with sub := by rw [hn]; exact h.sub, next_le := ?_, ahead := by rw [hn]; exact h.ahead, back := by rw [hn]; exact h.back, black := by rw [hn]; exact h.black, gray := ?_, compB := by rw [hn]; exact h.compB, compG := ?_ }
  · intro f hf
    rcases fs f hf with g | rfl
    · exact h.next_le f g
    · exact hlt
  · intro f hf j hj y hy he
    rcases fs f hf with g | rfl
    · exact h.gray f g j hj y hy he
    · by_cases hji : j = i
      · subst hji
        rw [hz] at he
        exact hv y hy (Option.some.inj he)
      · exact h.gray (v, i) (by simp) j (by omega) y hy he
  · intro f hf j hj y hy he
    rcases fs f hf with g | rfl
    · exact h.compG f g j hj y hy he
    · by_cases hji : j = i
      · subst hji
        rw [hz] at he
        exact hs y hy (Option.some.inj he)
      · exact h.compG (v, i) (by simp) j (by omega) y hy he

/-- What is reached at the top goes down no further. -/
theorem TInv.lower {p : List (Nat × Nat)} {v i w : Nat} {s : TS} (h : TInv N into (p ++ [(v, i)]) s) (hz : (into v)[i]? = some (w : Int)) (hw : w ∈ s.stack) :
    TInv N into (p ++ [(v, i + 1)]) { s with low := upd s.low v (min (s.low v) (s.index w)) } := by
  have hwN := h.stk_lt w hw
  have hE : Edge N into v w := ⟨hwN, List.mem_of_getElem? hz⟩
  have hvs : v ∈ s.stack := h.mem (by simp [nodes])
  have h2 : TInv N into (p ++ [(v, i)]) { s with low := upd s.low v (min (s.low v) (s.index w)) } := by
    refine { h with low_le := ?_, low_wit := ?_, compB := ?_, compG := ?_ }
    · intro x hx
      by_cases hxv : x = v
      · subst hxv
        show upd s.low x _ x ≤ _
        rw [upd_same]
        have := h.low_le x hx
        exact Nat.le_trans (Nat.min_le_left _ _) this
      · show upd s.low v _ x ≤ _
        rw [upd_ne _ _ hxv]; exact h.low_le x hx
    · intro x hx
      by_cases hxv : x = v
      · subst hxv
        show ∃ y ∈ s.stack, s.index y = upd s.low x _ x ∧ _
        rw [upd_same]
        rcases Nat.le_total (s.low x) (s.index w) with g | g
        · rw [Nat.min_eq_left g]; exact h.low_wit x hx
        · rw [Nat.min_eq_right g]; exact ⟨w, hw, rfl, .one hE⟩
      · show ∃ y ∈ s.stack, s.index y = upd s.low v _ x ∧ _
        rw [upd_ne _ _ hxv]; exact h.low_wit x hx
    · intro x hx hxp y hy he u hu hlt hmax
      have := h.compB x hx hxp y hy he u hu hlt hmax
      show upd s.low v _ u ≤ _
      by_cases huv : u = v
      · subst huv; rw [upd_same]; exact Nat.le_trans (Nat.min_le_left _ _) this
      · rw [upd_ne _ _ huv]; exact this
    · intro f hf j hj y hy he
      have := h.compG f hf j hj y hy he
      show upd s.low v _ f.1 ≤ _
      by_cases huv : f.1 = v
      · rw [huv] at this ⊢; rw [upd_same]; exact Nat.le_trans (Nat.min_le_left _ _) this
      · rw [upd_ne _ _ huv]; exact this
  refine h2.next hz (fun y hy e => ?_) (fun y hy e => ?_)
  · have : w = y := by omega
    subst this; exact h.stk_pos hw
  · have : w = y := by omega
    subst this
    show upd s.low v _ v ≤ _
    rw [upd_same]; exact Nat.min_le_right _ _

/-! ### A node is come to. -/

def enterT (s : TS) (v : Nat) : TS := { s with n := s.n + 1, index := upd s.index v (s.n + 1), low := upd s.low v (s.n + 1), on := upd s.on v true, stack := s.stack ++ [v] }

theorem TInv.enter {path : List (Nat × Nat)} {s : TS} (h : TInv N into path s) {w : Nat} (hw : w < N) (h0 : s.index w = 0)
    (hpath : ∀ x ∈ nodes path, Reach N into x w) : TInv N into (path ++ [(w, 0)]) (enterT s w) := by
  have hnot : w ∉ s.stack := fun g => h.stk_pos g h0
  have hnk : ∀ k ∈ s.knots, w ∉ k := fun k hk g => (h.vis w hw).2 (.inr ⟨k, hk, g⟩) h0
  have hi : ∀ x ∈ s.stack, upd s.index w (s.n + 1) x = s.index x := fun x hx => upd_ne _ _ (fun g => hnot (g ▸ hx))
  have hl : ∀ x ∈ s.stack, upd s.low w (s.n + 1) x = s.low x := fun x hx => upd_ne _ _ (fun g => hnot (g ▸ hx))
  have hiw : upd s.index w (s.n + 1) w = s.n + 1 := upd_same _ _ _
  have hmem : ∀ x, x ∈ s.stack ++ [w] ↔ x ∈ s.stack ∨ x = w := fun x => by simp
  have hnm : ∀ x, x ∈ nodes (path ++ [(w, 0)]) ↔ x ∈ nodes path ∨ x = w := fun x => by rw [nodes_app]; simp
  have hwp : w ∉ nodes path := fun g => hnot (h.mem g)
  have ivis : ∀ y, s.index y ≠ 0 → upd s.index w (s.n + 1) y ≠ 0 := by
    intro y hy
    by_cases g : y = w
    · subst g; rw [upd_same]; omega
    · rw [upd_ne _ _ g]; exact hy
  refine ⟨?_, h.knt_lt, ?_, ?_, ?_, ?_, ?_, ?_, ?_, ?_, h.shut, ?_, ?_, ?_, ?_, ?_, ?_, h.knot, h.of_eq, ?_, h.nonempty, h.rows, ?_⟩
  · intro x hx
    rcases (hmem x).1 hx with g | rfl
    · exact h.stk_lt x g
    · exact hw
  · intro x hx
    show upd s.index w _ x ≠ 0 ↔ x ∈ s.stack ++ [w] ∨ ∃ k ∈ s.knots, x ∈ k
    by_cases g : x = w
    · subst g; simp [upd_same]
    · rw [upd_ne _ _ g, h.vis x hx]; simp [g]
  · intro x hx
    show upd s.on w true x = true ↔ x ∈ s.stack ++ [w]
    by_cases g : x = w
    · subst g; simp [upd_same]
    · rw [upd_ne _ _ g, h.on x hx]; simp [g]
  · show (s.stack ++ [w]).Pairwise fun a b => upd s.index w (s.n + 1) a < upd s.index w (s.n + 1) b
    rw [List.pairwise_append]
    refine ⟨h.sorted.imp_of_mem (fun ha hb q => by rw [hi _ ha, hi _ hb]; exact q), by simp, fun a ha b hb => ?_⟩
    have : b = w := by simpa using hb
    subst this
    rw [hi a ha, hiw]
    have := h.idx_le a
    omega
  · intro x
    show upd s.index w _ x ≤ s.n + 1
    by_cases g : x = w
    · subst g; rw [upd_same]; exact Nat.le_refl _
    · rw [upd_ne _ _ g]; have := h.idx_le x; omega
  · show (nodes (path ++ [(w, 0)])).Sublist (s.stack ++ [w])
    rw [nodes_app]
    exact h.sub.append (List.Sublist.refl _)
  · intro f hf
    rcases List.mem_append.1 hf with g | g
    · exact h.next_le f g
    · have : f = (w, 0) := by simpa using g
      subst this; exact Nat.zero_le _
  · intro v hv x hx hle
    change upd s.index w _ v ≤ upd s.index w _ x at hle
    rcases (hnm v).1 hv with g | rfl
    · rcases (hmem x).1 hx with g2 | rfl
      · rw [hi v (h.mem g), hi x g2] at hle
        exact h.ahead v g x g2 hle
      · exact hpath v g
    · rcases (hmem x).1 hx with g2 | rfl
      · rw [hiw, hi x g2] at hle
        have := h.idx_le x
        omega
      · exact .refl _
  · intro x hx
    rcases (hmem x).1 hx with g | rfl
    · obtain ⟨v, hv, h1, h2⟩ := h.back x g
      refine ⟨v, (hnm v).2 (.inl hv), ?_, h2⟩
      show upd s.index w _ v ≤ upd s.index w _ x
      rw [hi v (h.mem hv), hi x g]; exact h1
    · exact ⟨x, (hnm x).2 (.inr rfl), Nat.le_refl _, .refl x⟩
  · intro x hx hxp y he
    have hxw : x ≠ w := fun g => hxp ((hnm x).2 (.inr g))
    have hxs : x ∈ s.stack := ((hmem x).1 hx).resolve_right hxw
    exact ivis y (h.black x hxs (fun g => hxp ((hnm x).2 (.inl g))) y he)
  · intro f hf i hi' y hy he
    rcases List.mem_append.1 hf with g | g
    · exact ivis y (h.gray f g i hi' y hy he)
    · have : f = (w, 0) := by simpa using g
      subst this; simp at hi'
  · intro x hx
    show upd s.low w _ x ≤ upd s.index w _ x
    rcases (hmem x).1 hx with g | rfl
    · rw [hl x g, hi x g]; exact h.low_le x g
    · rw [upd_same, upd_same]; exact Nat.le_refl _
  · intro x hx
    show ∃ y ∈ s.stack ++ [w], upd s.index w _ y = upd s.low w _ x ∧ _
    rcases (hmem x).1 hx with g | rfl
    · obtain ⟨y, hy, h1, h2⟩ := h.low_wit x g
      exact ⟨y, (hmem y).2 (.inl hy), by rw [hi y hy, hl x g]; exact h1, h2⟩
    · exact ⟨x, (hmem x).2 (.inr rfl), by rw [upd_same, upd_same], .refl x⟩
  · intro x hx hxp y hy he v hv hlt hmax
    have hxw : x ≠ w := fun g => hxp ((hnm x).2 (.inr g))
    have hxs : x ∈ s.stack := ((hmem x).1 hx).resolve_right hxw
    have hxp' : x ∉ nodes path := fun g => hxp ((hnm x).2 (.inl g))
    change upd s.index w _ v < upd s.index w _ x at hlt
    rw [hi x hxs] at hlt
    have hvw : v ≠ w := by
      intro g
      rw [g, hiw] at hlt
      have := h.idx_le x
      omega
    have hvp : v ∈ nodes path := ((hnm v).1 hv).resolve_right hvw
    rw [hi v (h.mem hvp)] at hlt
    show upd s.low w _ v ≤ upd s.index w _ y
    rw [hl v (h.mem hvp)]
    rcases (hmem y).1 hy with g | rfl
    · rw [hi y g]
      refine h.compB x hxs hxp' y g he v hvp hlt (fun q hq hql => ?_)
      have := hmax q ((hnm q).2 (.inl hq))
      change upd s.index w _ q < upd s.index w _ x → upd s.index w _ q ≤ upd s.index w _ v at this
      rw [hi q (h.mem hq), hi x hxs, hi v (h.mem hvp)] at this
      exact this hql
    · rw [upd_same]
      have := h.low_le v (h.mem hvp)
      have := h.idx_le v
      omega
  · intro f hf i hi' y hy he
    rcases List.mem_append.1 hf with g | g
    · show upd s.low w _ f.1 ≤ upd s.index w _ y
      have hfs : f.1 ∈ s.stack := h.mem (List.mem_map.2 ⟨f, g, rfl⟩)
      rw [hl _ hfs]
      rcases (hmem y).1 hy with g2 | rfl
      · rw [hi y g2]; exact h.compG f g i hi' y g2 he
      · exact absurd (h.gray f g i hi' y hw he) (by simp [h0])
    · have : f = (w, 0) := by simpa using g
      subst this; simp at hi'
  · intro k hk x hx hxs
    rcases (hmem x).1 hxs with g | rfl
    · exact h.apart k hk x hx g
    · exact hnk k hk hx
  · show s.n + 1 = (s.stack ++ [w]).length + s.knots.flatten.length
    have := h.count
    rw [List.length_append]
    simp only [List.length_singleton]
    omega

/-- .. from the node that the search stands at. -/
theorem TInv.step {p : List (Nat × Nat)} {v i w : Nat} {s : TS} (h : TInv N into (p ++ [(v, i)]) s) (hz : (into v)[i]? = some (w : Int)) (hw : w < N) (h0 : s.index w = 0) :
    TInv N into (p ++ [(v, i + 1)] ++ [(w, 0)]) (enterT s w) := by
  have hvs : v ∈ s.stack := h.mem (by simp [nodes])
  have hps := h.path_sorted
  have hE : Edge N into v w := ⟨hw, List.mem_of_getElem? hz⟩
  have hnw : w ∉ s.stack := fun g => h.stk_pos g h0
  have hvw : v ≠ w := fun e => hnw (e ▸ hvs)
  have hmax : ∀ x ∈ nodes (p ++ [(v, i)]), s.index x ≤ s.index v := by
    intro x hx
    rw [nodes_app] at hx hps
    rcases List.mem_append.1 hx with g | g
    · exact Nat.le_of_lt (last_max hps g)
    · have : x = v := by simpa using g
      subst this; exact Nat.le_refl _
  have h2 := h.enter hw h0 (fun x hx => (h.ahead x hx v hvs (hmax x hx)).trans (.one hE))
  rw [List.append_assoc] at h2 ⊢
  refine TInv.nextAt (q := [(w, 0)]) h2 hz (fun y hy e => ?_) (fun y hy e => ?_)
  · have : w = y := by omega
    subst this
    simp [enterT, upd]
  · have : w = y := by omega
    subst this
    show upd s.low w _ v ≤ upd s.index w _ w
    rw [upd_same, upd_ne _ _ hvw]
    have := h.low_le v hvs
    have := h.idx_le v
    omega

/-! ### How many there are. -/

theorem nodup_of_lt {l : List Nat} (h : l.Pairwise (· < ·)) : l.Nodup := h.imp (fun h => Nat.ne_of_lt h)

theorem TInv.stk_nodup {path : List (Nat × Nat)} {s : TS} (h : TInv N into path s) : s.stack.Nodup :=
  h.sorted.imp (fun {a b} q e => by subst e; omega)

theorem flat_nodup : ∀ {L : List (List Nat)}, (∀ l ∈ L, l.Nodup) → (∀ (i j : Nat) (a b : List Nat) (x : Nat), L[i]? = some a → L[j]? = some b → x ∈ a → x ∈ b → i = j) → L.flatten.Nodup
  | [], _, _ => by simp
  | l :: r, h, d => by
    rw [List.flatten_cons]
    refine List.nodup_append.2 ⟨h l (by simp), flat_nodup (fun a ha => h a (by simp [ha])) (fun i j a b x ha hb hx hy => ?_), fun x hx y hy e => ?_⟩
    · have := d (i + 1) (j + 1) a b x (by simpa using ha) (by simpa using hb) hx hy
      omega
    · subst e
      obtain ⟨m, hm, hxm⟩ := List.mem_flatten.1 hy
      obtain ⟨j, hj⟩ := List.mem_iff_getElem?.1 hm
      have := d 0 (j + 1) l m x (by simp) (by simpa using hj) hx hxm
      omega

theorem TInv.flat_nodup {path : List (Nat × Nat)} {s : TS} (h : TInv N into path s) : s.knots.flatten.Nodup :=
  Tar.flat_nodup (fun l hl => nodup_of_lt (h.rows l hl)) (fun i j a b x ha hb hx hy => by rw [← h.of_eq i a x ha hx, ← h.of_eq j b x hb hy])

theorem sub_len : ∀ {a b : List Nat}, a.Nodup → (∀ x ∈ a, x ∈ b) → a.length ≤ b.length
  | [], _, _, _ => Nat.zero_le _
  | x :: a, b, hn, h => by
    have hx := h x (by simp)
    have := sub_len (a := a) (b := b.erase x) (List.nodup_cons.1 hn).2 (fun y hy => by
      have hne : y ≠ x := fun e => (List.nodup_cons.1 hn).1 (e ▸ hy)
      exact (List.mem_erase_of_ne hne).2 (h y (by simp [hy])))
    rw [List.length_erase_of_mem hx] at this
    have := List.length_pos_of_mem hx
    simp only [List.length_cons]
    omega

theorem nodup_le : ∀ {n : Nat} {l : List Nat}, l.Nodup → (∀ x ∈ l, x < n) → l.length ≤ n
  | 0, [], _, _ => Nat.le_refl _
  | 0, x :: _, _, h => absurd (h x (by simp)) (Nat.not_lt_zero _)
  | n + 1, l, hn, h => by
    have hle : l.length ≤ (l.erase n).length + 1 := by rw [List.length_erase]; split <;> omega
    have := nodup_le (n := n) (l := l.erase n) (hn.erase n) (fun x hx => by
      have h1 := List.Nodup.mem_erase_iff hn |>.1 hx
      have := h x h1.2
      omega)
    omega

theorem TInv.all_nodup {path : List (Nat × Nat)} {s : TS} (h : TInv N into path s) : (s.stack ++ s.knots.flatten).Nodup :=
  List.nodup_append.2 ⟨h.stk_nodup, h.flat_nodup, fun x hx y hy e => by
    subst e
    obtain ⟨m, hm, hxm⟩ := List.mem_flatten.1 hy
    exact h.apart m hm x hxm hx⟩

theorem TInv.n_le {path : List (Nat × Nat)} {s : TS} (h : TInv N into path s) : s.n ≤ N := by
  have := nodup_le (n := N) h.all_nodup (fun x hx => by
    rcases List.mem_append.1 hx with g | g
    · exact h.stk_lt x g
    · obtain ⟨m, hm, hxm⟩ := List.mem_flatten.1 g
      exact h.knt_lt m hm x hxm)
  rw [List.length_append] at this
  rw [h.count]; exact this

theorem TInv.stk_le {path : List (Nat × Nat)} {s : TS} (h : TInv N into path s) : s.stack.length ≤ N := by
  have := h.n_le; have := h.count; omega

theorem TInv.path_le {path : List (Nat × Nat)} {s : TS} (h : TInv N into path s) : path.length ≤ s.stack.length := by
  have := h.sub.length_le
  simpa [nodes] using this

theorem flat_len_le : ∀ {L : List (List Nat)}, (∀ l ∈ L, l ≠ []) → L.length ≤ L.flatten.length
  | [], _ => Nat.le_refl _
  | l :: r, h => by
    have := flat_len_le (L := r) (fun a ha => h a (by simp [ha]))
    have := List.length_pos_iff.2 (h l (by simp))
    simp only [List.length_cons, List.flatten_cons, List.length_append]
    omega

theorem TInv.knots_le {path : List (Nat × Nat)} {s : TS} (h : TInv N into path s) : s.knots.length ≤ N := by
  have := h.n_le; have := h.count; have := flat_len_le h.nonempty; omega

/-! ### A node is left that came back to another one. -/

theorem TInv.top_max {p : List (Nat × Nat)} {v i : Nat} {s : TS} (h : TInv N into (p ++ [(v, i)]) s) {x : Nat} (hx : x ∈ nodes p) : s.index x < s.index v := by
  have := h.path_sorted
  rw [nodes_app] at this
  exact last_max this hx

theorem TInv.pop {p : List (Nat × Nat)} {u j v i : Nat} {s : TS} (h : TInv N into ((p ++ [(u, j)]) ++ [(v, i)]) s) (hi : i = (into v).length)
    (hlow : s.low v ≠ s.index v) : TInv N into (p ++ [(u, j)]) { s with low := upd s.low u (min (s.low u) (s.low v)) } := by
  have hvs : v ∈ s.stack := h.mem (by simp [nodes])
  have hup : u ∈ nodes (p ++ [(u, j)]) := by simp [nodes]
  have hus : u ∈ s.stack := h.mem (by simp [nodes])
  have huv : s.index u < s.index v := h.top_max hup
  have hlv : s.low v < s.index v := by have := h.low_le v hvs; omega
  have hn : ∀ x, x ∈ nodes ((p ++ [(u, j)]) ++ [(v, i)]) ↔ x ∈ nodes (p ++ [(u, j)]) ∨ x = v := fun x => by rw [nodes_app]; simp
  have hle : ∀ x, upd s.low u (min (s.low u) (s.low v)) x ≤ s.low x := by
    intro x
    by_cases g : x = u
    · subst g; rw [upd_same]; exact Nat.min_le_left _ _
    · rw [upd_ne _ _ g]; exact Nat.le_refl _
  have humax : ∀ x ∈ nodes (p ++ [(u, j)]), s.index x ≤ s.index u := by
    intro x hx
    have h2 := h.path_sorted
    rw [nodes_app] at h2
    have h3 := (List.pairwise_append.1 h2).1
    rw [nodes_app] at h3 hx
    rcases List.mem_append.1 hx with g | g
    · exact Nat.le_of_lt (last_max h3 g)
    · have : x = u := by simpa using g
      subst this; exact Nat.le_refl _
  refine { h with sub := ?_, next_le := ?_, ahead := ?_, back := ?_, black := ?_, gray := ?_, low_le := ?_, low_wit := ?_, compB := ?_, compG := ?_ }
  · have := h.sub
    rw [nodes_app] at this
    exact (List.sublist_append_left _ _).trans this
  · exact fun f hf => h.next_le f (List.mem_append_left _ hf)
  · exact fun x hx => h.ahead x ((hn x).2 (.inl hx))
  · intro x hx
    obtain ⟨w, hw, h1, h2⟩ := h.back x hx
    rcases (hn w).1 hw with g | rfl
    · exact ⟨w, g, h1, h2⟩
    · obtain ⟨y, hy, h3, h4⟩ := h.low_wit w hvs
      obtain ⟨z, hz, h5, h6⟩ := h.back y hy
      have hzw : z ≠ w := by intro e; subst e; omega
      exact ⟨z, ((hn z).1 hz).resolve_right hzw, by show s.index z ≤ s.index x; omega, h2.trans (h4.trans h6)⟩
  · intro x hx hxp y he
    by_cases g : x = v
    · subst g
      obtain ⟨k, hk⟩ := List.mem_iff_getElem?.1 he.2
      exact h.gray (x, i) (by simp) k (by rw [hi]; exact (List.getElem?_eq_some_iff.1 hk).1) y he.1 hk
    · exact h.black x hx (fun q => ((hn x).1 q).elim hxp g) y he
  · exact fun f hf => h.gray f (List.mem_append_left _ hf)
  · exact fun x hx => Nat.le_trans (hle x) (h.low_le x hx)
  · intro x hx
    by_cases g : x = u
    · subst g
      show ∃ y ∈ s.stack, s.index y = upd s.low x _ x ∧ _
      rw [upd_same]
      rcases Nat.le_total (s.low x) (s.low v) with g | g
      · rw [Nat.min_eq_left g]; exact h.low_wit x hx
      · rw [Nat.min_eq_right g]
        obtain ⟨y, hy, h3, h4⟩ := h.low_wit v hvs
        exact ⟨y, hy, h3, (h.ahead x ((hn x).2 (.inl hup)) v hvs (Nat.le_of_lt huv)).trans h4⟩
    · show ∃ y ∈ s.stack, s.index y = upd s.low u _ x ∧ _
      rw [upd_ne _ _ g]; exact h.low_wit x hx
  · intro x hx hxp y hy he w hw hlt hmax
    show upd s.low u _ w ≤ s.index y
    change s.index w < s.index x at hlt
    by_cases g : x = v
    · subst g
      have hwu : w = u := idx_inj h.sorted (h.mem ((hn w).2 (.inl hw))) hus (Nat.le_antisymm (humax w hw) (hmax u hup huv))
      subst hwu
      rw [upd_same]
      obtain ⟨k, hk⟩ := List.mem_iff_getElem?.1 he.2
      have := h.compG (x, i) (by simp) k (by rw [hi]; exact (List.getElem?_eq_some_iff.1 hk).1) y hy hk
      exact Nat.le_trans (Nat.min_le_right _ _) this
    · have hxp' : x ∉ nodes ((p ++ [(u, j)]) ++ [(v, i)]) := fun q => ((hn x).1 q).elim hxp g
      rcases Nat.lt_or_ge (s.index v) (s.index x) with q | q
      · have hwu : w = u := idx_inj h.sorted (h.mem ((hn w).2 (.inl hw))) hus (Nat.le_antisymm (humax w hw) (hmax u hup (by show s.index u < s.index x; omega)))
        subst hwu
        rw [upd_same]
        have := h.compB x hx hxp' y hy he v ((hn v).2 (.inr rfl)) q (fun z hz _ => by
          rcases (hn z).1 hz with q | rfl
          · exact Nat.le_of_lt (h.top_max q)
          · exact Nat.le_refl _)
        exact Nat.le_trans (Nat.min_le_right _ _) this
      · have := h.compB x hx hxp' y hy he w ((hn w).2 (.inl hw)) hlt (fun z hz hzl => by
          rcases (hn z).1 hz with q2 | rfl
          · exact hmax z q2 hzl
          · omega)
        exact Nat.le_trans (hle w) this
  · intro f hf k hk y hy he
    exact Nat.le_trans (hle f.1) (h.compG f (List.mem_append_left _ hf) k hk y hy he)

/-! ### A node is left that begins a knot. -/

def leaveT (s : TS) (a b l : List Nat) (v : Nat) : TS :=
  { s with on := fun i => if i ∈ v :: b then false else s.on i, of := fun i => if i ∈ v :: b then s.knots.length else s.of i, stack := a, knots := s.knots ++ [l] }

theorem TInv.leave {p : List (Nat × Nat)} {v i : Nat} {s : TS} (h : TInv N into (p ++ [(v, i)]) s) (hi : i = (into v).length)
    (hlow : s.low v = s.index v) {a b l : List Nat} (hs : s.stack = a ++ v :: b) (hl : l.Perm (v :: b)) (hr : l.Pairwise (· < ·)) : TInv N into p (leaveT s a b l v) := by
  have hvs : v ∈ s.stack := h.mem (by simp [nodes])
  have hn : ∀ x, x ∈ nodes (p ++ [(v, i)]) ↔ x ∈ nodes p ∨ x = v := fun x => by rw [nodes_app]; simp
  have hvp : v ∈ nodes (p ++ [(v, i)]) := (hn v).2 (.inr rfl)
  have hso := h.sorted
  rw [hs, List.pairwise_append] at hso
  have ha : ∀ x ∈ a, s.index x < s.index v := fun x hx => hso.2.2 x hx v (by simp)
  have hb : ∀ x ∈ v :: b, s.index v ≤ s.index x := by
    intro x hx
    rcases List.mem_cons.1 hx with rfl | g
    · exact Nat.le_refl _
    · exact Nat.le_of_lt ((List.pairwise_cons.1 hso.2.1).1 x g)
  have has : ∀ x ∈ a, x ∈ s.stack := fun x hx => by rw [hs]; exact List.mem_append_left _ hx
  have hbs : ∀ x ∈ v :: b, x ∈ s.stack := fun x hx => by rw [hs]; exact List.mem_append_right _ hx
  have hab : ∀ x, x ∈ s.stack ↔ x ∈ a ∨ x ∈ v :: b := fun x => by rw [hs, List.mem_append]
  have hanb : ∀ x ∈ a, x ∉ v :: b := fun x hx g => by have := ha x hx; have := hb x g; omega
  have hml : ∀ x, x ∈ l ↔ x ∈ v :: b := fun x => hl.mem_iff
  have vmax : ∀ z ∈ nodes (p ++ [(v, i)]), s.index z ≤ s.index v := by
    intro z hz
    rcases (hn z).1 hz with q | rfl
    · exact Nat.le_of_lt (h.top_max q)
    · exact Nat.le_refl _
  have hva : ∀ x ∈ v :: b, Reach N into v x := fun x hx => h.ahead v hvp x (hbs x hx) (hb x hx)
  have hvb : ∀ x ∈ v :: b, Reach N into x v := by
    intro x hx
    obtain ⟨w, hw, _, h2⟩ := h.back x (hbs x hx)
    exact h2.trans (h.ahead w hw v hvs (vmax w hw))
  have hkn : ∀ (k : Nat) m, (s.knots ++ [l])[k]? = some m → (k < s.knots.length ∧ s.knots[k]? = some m) ∨ (k = s.knots.length ∧ m = l) := by
    intro k m hk
    rcases Nat.lt_trichotomy k s.knots.length with q | q | q
    · rw [List.getElem?_append_left q] at hk; exact .inl ⟨q, hk⟩
    · subst q; simp at hk; exact .inr ⟨rfl, hk.symm⟩
    · rw [List.getElem?_eq_none (by simp; omega)] at hk; cases hk
  have hlast : (s.knots ++ [l])[s.knots.length]? = some l := by simp
  have hmk : ∀ k, k ∈ s.knots ++ [l] ↔ k ∈ s.knots ∨ k = l := fun k => by simp
  refine ⟨?_, ?_, ?_, ?_, hso.1, h.idx_le, ?_, ?_, ?_, ?_, ?_, ?_, ?_, ?_, ?_, ?_, ?_, ?_, ?_, ?_, ?_, ?_, ?_⟩
  · exact fun x hx => h.stk_lt x (has x hx)
  · intro k hk x hx
    rcases (hmk k).1 hk with g | rfl
    · exact h.knt_lt k g x hx
    · exact h.stk_lt x (hbs x ((hml x).1 hx))
  · intro x hx
    show s.index x ≠ 0 ↔ x ∈ a ∨ ∃ k ∈ s.knots ++ [l], x ∈ k
    rw [h.vis x hx, hab x]
    constructor
    · rintro ((g | g) | ⟨k, hk, g⟩)
      · exact .inl g
      · exact .inr ⟨l, by simp, (hml x).2 g⟩
      · exact .inr ⟨k, by simp [hk], g⟩
    · rintro (g | ⟨k, hk, g⟩)
      · exact .inl (.inl g)
      · rcases (hmk k).1 hk with q | rfl
        · exact .inr ⟨k, q, g⟩
        · exact .inl (.inr ((hml x).1 g))
  · intro x hx
    show (if x ∈ v :: b then false else s.on x) = true ↔ x ∈ a
    by_cases g : x ∈ v :: b
    · rw [if_pos g]
      exact ⟨fun q => (by cases q), fun q => absurd g (hanb x q)⟩
    · rw [if_neg g, h.on x hx, hab x]; simp [g]
  · have h1 := h.sub
    rw [nodes_app, hs] at h1
    have h2 := h1.filter (fun x => decide (s.index x < s.index v))
    rw [List.filter_append, List.filter_append] at h2
    have e1 : (nodes p).filter (fun x => decide (s.index x < s.index v)) = nodes p :=
      List.filter_eq_self.2 (fun x hx => by simpa using h.top_max hx)
    have e2 : a.filter (fun x => decide (s.index x < s.index v)) = a := List.filter_eq_self.2 (fun x hx => by simpa using ha x hx)
    have e3 : (v :: b).filter (fun x => decide (s.index x < s.index v)) = [] := List.filter_eq_nil_iff.2 (fun x hx => by have := hb x hx; simp; omega)
    have e4 : [v].filter (fun x => decide (s.index x < s.index v)) = [] := by simp
    rw [e1, e2, e3, e4, List.append_nil, List.append_nil] at h2
    exact h2
  · exact fun f hf => h.next_le f (List.mem_append_left _ hf)
  · exact fun x hx y hy => h.ahead x ((hn x).2 (.inl hx)) y (has y hy)
  · intro x hx
    obtain ⟨w, hw, h1, h2⟩ := h.back x (has x hx)
    have hwv : w ≠ v := by
      intro e; subst e
      have := ha x hx
      omega
    exact ⟨w, ((hn w).1 hw).resolve_right hwv, h1, h2⟩
  · intro k m x hk hx y he
    rcases hkn k m hk with ⟨g1, g2⟩ | ⟨g1, g2⟩
    · obtain ⟨j, m', hj, hm, hy⟩ := h.shut k m x g2 hx y he
      refine ⟨j, m', hj, ?_, hy⟩
      show (s.knots ++ [l])[j]? = some m'
      rw [List.getElem?_append_left (by omega)]; exact hm
    · subst g1; subst g2
      have hxb := (hml x).1 hx
      have hy0 : s.index y ≠ 0 := by
        by_cases g : x = v
        · subst g
          obtain ⟨k, hk⟩ := List.mem_iff_getElem?.1 he.2
          exact h.gray (x, i) (by simp) k (by rw [hi]; exact (List.getElem?_eq_some_iff.1 hk).1) y he.1 hk
        · refine h.black x (hbs x hxb) (fun q => ?_) y he
          rcases (hn x).1 q with q | q
          · have := h.top_max q; have := hb x hxb; omega
          · exact g q
      rcases (h.vis y he.1).1 hy0 with q | ⟨k, hk, q⟩
      · have hyv : s.index v ≤ s.index y := by
          rw [← hlow]
          by_cases g : x = v
          · subst g
            obtain ⟨k, hk⟩ := List.mem_iff_getElem?.1 he.2
            exact h.compG (x, i) (by simp) k (by rw [hi]; exact (List.getElem?_eq_some_iff.1 hk).1) y q hk
          · have hxv : s.index v < s.index x := by
              have h1 := hb x hxb
              have h2 : s.index x ≠ s.index v := fun e => g (idx_inj h.sorted (hbs x hxb) hvs e)
              omega
            refine h.compB x (hbs x hxb) (fun q => ?_) y q he v hvp hxv (fun z hz _ => vmax z hz)
            have := vmax x q
            omega
        refine ⟨s.knots.length, m, Nat.le_refl _, hlast, (hml y).2 ?_⟩
        rcases (hab y).1 q with g | g
        · have := ha y g; omega
        · exact g
      · obtain ⟨j, hj⟩ := List.mem_iff_getElem?.1 hk
        have hjl := (List.getElem?_eq_some_iff.1 hj).1
        refine ⟨j, k, Nat.le_of_lt hjl, ?_, q⟩
        show (s.knots ++ [m])[j]? = some k
        rw [List.getElem?_append_left hjl]; exact hj
  · intro x hx hxp y he
    refine h.black x (has x hx) (fun q => ?_) y he
    rcases (hn x).1 q with q | rfl
    · exact hxp q
    · exact absurd (ha x hx) (Nat.lt_irrefl _)
  · exact fun f hf => h.gray f (List.mem_append_left _ hf)
  · exact fun x hx => h.low_le x (has x hx)
  · intro x hx
    obtain ⟨y, hy, h1, h2⟩ := h.low_wit x (has x hx)
    refine ⟨y, ?_, h1, h2⟩
    rcases (hab y).1 hy with g | g
    · exact g
    · have := hb y g; have := ha x hx; have := h.low_le x (has x hx); omega
  · intro x hx hxp y hy he w hw hlt hmax
    refine h.compB x (has x hx) (fun q => ?_) y (has y hy) he w ((hn w).2 (.inl hw)) hlt (fun z hz hzl => ?_)
    · rcases (hn x).1 q with q | rfl
      · exact hxp q
      · exact absurd (ha x hx) (Nat.lt_irrefl _)
    · rcases (hn z).1 hz with q | rfl
      · exact hmax z q hzl
      · have := ha x hx; omega
  · exact fun f hf k hk y hy he => h.compG f (List.mem_append_left _ hf) k hk y (has y hy) he
  · intro k hk x hx y hy
    rcases (hmk k).1 hk with g | rfl
    · exact h.knot k g x hx y hy
    · exact (hvb x ((hml x).1 hx)).trans (hva y ((hml y).1 hy))
  · intro k m x hk hx
    show (if x ∈ v :: b then s.knots.length else s.of x) = k
    rcases hkn k m hk with ⟨g1, g2⟩ | ⟨g1, g2⟩
    · rw [if_neg (fun q => h.apart m (List.mem_of_getElem? g2) x hx (hbs x q))]
      exact h.of_eq k m x g2 hx
    · subst g2
      rw [if_pos ((hml x).1 hx)]; exact g1.symm
  · intro k hk x hx hxa
    rcases (hmk k).1 hk with g | rfl
    · exact h.apart k g x hx (has x hxa)
    · exact hanb x hxa ((hml x).1 hx)
  · intro k hk e
    rcases (hmk k).1 hk with g | rfl
    · exact h.nonempty k g e
    · have := (hml v).2 (by simp)
      rw [e] at this; cases this
  · intro k hk
    rcases (hmk k).1 hk with g | rfl
    · exact h.rows k g
    · exact hr
  · show s.n = a.length + (s.knots ++ [l]).flatten.length
    have h1 := h.count
    rw [hs] at h1
    have h2 := hl.length_eq
    simp only [List.length_append, List.length_cons, List.flatten_append, List.flatten_cons, List.flatten_nil, List.append_nil] at h1 h2 ⊢
    omega

/-! ### No node is open any more. -/

theorem TInv.empty {s : TS} (h : TInv N into [] s) : s.stack = [] := by
  cases e : s.stack with
  | nil => rfl
  | cons x r =>
    obtain ⟨v, hv, _⟩ := h.back x (by rw [e]; simp)
    simp [nodes] at hv

def start : TS := { index := fun _ => 0, low := fun _ => 0, on := fun _ => false, stack := [], of := fun _ => 0, n := 0, knots := [] }

theorem TInv.start : TInv N into [] start := by
  constructor <;> simp [Tar.start, nodes]

/-! ### At the end. -/

structure Done (N : Nat) (into : Nat → List Int) (knots : List (List Nat)) (of : Nat → Nat) : Prop where
  lt : ∀ k ∈ knots, ∀ x ∈ k, x < N
  all : ∀ x, x < N → ∃ k ∈ knots, x ∈ k
  of_eq : ∀ (k : Nat) l x, knots[k]? = some l → x ∈ l → of x = k
  rows : ∀ k ∈ knots, k.Pairwise (· < ·)
  nonempty : ∀ k ∈ knots, k ≠ []
  knot : ∀ k ∈ knots, ∀ a ∈ k, ∀ b ∈ k, Reach N into a b
  shut : ∀ (k : Nat) l x, knots[k]? = some l → x ∈ l → ∀ y, Edge N into x y → ∃ j m, j ≤ k ∧ knots[j]? = some m ∧ y ∈ m
  total : knots.flatten.length = N

theorem TInv.done {s : TS} (h : TInv N into [] s) (hv : ∀ x, x < N → s.index x ≠ 0) : Done N into s.knots s.of := by
  have he := h.empty
  have hall : ∀ x, x < N → ∃ k ∈ s.knots, x ∈ k := fun x hx => by
    rcases (h.vis x hx).1 (hv x hx) with g | g
    · rw [he] at g; cases g
    · exact g
  refine ⟨h.knt_lt, hall, h.of_eq, h.rows, h.nonempty, h.knot, h.shut, ?_⟩
  apply Nat.le_antisymm
  · have := h.n_le; have := h.count; omega
  · have h1 : (List.range N).length ≤ s.knots.flatten.length := by
      refine sub_len List.nodup_range (fun x hx => ?_)
      obtain ⟨k, hk, hxk⟩ := hall x (List.mem_range.1 hx)
      exact List.mem_flatten.2 ⟨k, hk, hxk⟩
    simpa using h1

section
variable {knots : List (List Nat)} {of : Nat → Nat}
theorem Done.at (h : Done N into knots of) {x : Nat} (hx : x < N) : ∃ l, knots[of x]? = some l ∧ x ∈ l := by
  obtain ⟨k, hk, hxk⟩ := h.all x hx
  obtain ⟨j, hj⟩ := List.mem_iff_getElem?.1 hk
  exact ⟨k, by rw [h.of_eq j k x hj hxk]; exact hj, hxk⟩

theorem Done.edge (h : Done N into knots of) {x y : Nat} (hx : x < N) (e : Edge N into x y) : of y ≤ of x := by
  obtain ⟨l, hl, hxl⟩ := h.at hx
  obtain ⟨j, m, hj, hm, hy⟩ := h.shut (of x) l x hl hxl y e
  rw [h.of_eq j m y hm hy]; exact hj

theorem Done.reach (h : Done N into knots of) {x y : Nat} (r : Reach N into x y) (hx : x < N) : of y ≤ of x := by
  induction r with
  | refl => exact Nat.le_refl _
  | step e _ ih => exact Nat.le_trans (ih e.1) (h.edge hx e)

theorem Done.same (h : Done N into knots of) {x y : Nat} (hx : x < N) (hy : y < N) : of x = of y ↔ Reach N into x y ∧ Reach N into y x := by
  constructor
  · intro e
    obtain ⟨l, hl, hxl⟩ := h.at hx
    obtain ⟨m, hm, hym⟩ := h.at hy
    rw [e, hm] at hl
    cases hl
    have hk := List.mem_of_getElem? hm
    exact ⟨h.knot _ hk _ hxl _ hym, h.knot _ hk _ hym _ hxl⟩
  · rintro ⟨a, b⟩
    exact Nat.le_antisymm (h.reach b hy) (h.reach a hx)
theorem Done.of_lt (h : Done N into knots of) {x : Nat} (hx : x < N) : of x < knots.length := by
  obtain ⟨l, hl, _⟩ := h.at hx
  exact (List.getElem?_eq_some_iff.1 hl).1
theorem Done.len_le (h : Done N into knots of) : knots.length ≤ N := by
  have := flat_len_le h.nonempty
  rw [h.total] at this; exact this
end

end
end Go.Proofs.Ytbcgcnmnblfhmaa.Tar
