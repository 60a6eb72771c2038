/- The laws of knot: what all of them need; the document's example. -/
import Derived.Test.YtbcgcnmnblfhmaaKn7
import Derived.Test.YtbcgcnmnblfhmaaSo1
import Derived.Test.YtbcgcnmnblfhmaaK8
namespace Go.Proofs.Ytbcgcnmnblfhmaa
open Lin Tar
set_option maxRecDepth 10000
set_option linter.unusedSimpArgs false

/-- A row of ints, read, of memory of a kind. -/
def IntsAt (S : Nat → Prop) (h : AHeap) (rv : Value) (l : List Int) : Prop := ∃ p q, rv = .slice p l.length q ∧ (∀ i x, l[i]? = some x → ∃ r o own ty c, p = some ⟨r, o, none⟩ ∧ q = 1 ∧ S r ∧ r < h.next ∧ h.obj r = some (.arr own ty c) ∧ c[o + i]? = some (.int .i64 x)) ∧
  ((p = none ∧ q = 0) ∨ ∃ r o, p = some ⟨r, o, none⟩ ∧ q = 1)

theorem graph_of {S : Nat → Prop} {h : AHeap} {N : Nat} {into : Nat → List Int} {g off : Nat} {own : Bool} {ty : TypeId} {c : List Value} (hg : g < h.next) (ho : h.obj g = some (.arr own ty c))
    (hr : ∀ v, v < N → ∃ rv, c[off + v]? = some rv ∧ IntsAt S h rv (into v)) : Graph (fun _ => 0) h N into (.slice (some ⟨g, off, none⟩) N 1) := by
  refine ⟨⟨_, _, rfl⟩, fun v hv => ?_⟩
  obtain ⟨rv, h1, p, q, rfl, h2⟩ := hr v hv
  refine ⟨g, off, own, ty, c, p, q, rfl, rfl, hg, ho, h1, fun i x hx => ?_, h2.2⟩
  obtain ⟨r, o, own', ty', c', a1, a2, _, a3, a4, a5⟩ := h2.1 i x hx
  exact ⟨r, o, own', ty', c', a1, a2, rfl, a3, a4, a5⟩
theorem graph_none (h : AHeap) (into : Nat → List Int) : Graph (fun _ => 0) h 0 into (.slice none 0 0) := ⟨⟨_, _, rfl⟩, fun v hv => absurd hv (Nat.not_lt_zero v)⟩

theorem ints_keep {S : Nat → Prop} {h h' : AHeap} {rv : Value} {l : List Int} (I : IntsAt S h rv l) (hn : h.next ≤ h'.next) (ho : ∀ i, i < h.next → S i → h.obj i ≠ none → h'.obj i = h.obj i) : IntsAt S h' rv l := by
  obtain ⟨p, q, e, h2⟩ := I
  refine ⟨p, q, e, fun i x hx => ?_, h2.2⟩
  obtain ⟨r, o, own', ty', c', a1, a2, s1, a3, a4, a5⟩ := h2.1 i x hx
  exact ⟨r, o, own', ty', c', a1, a2, s1, by omega, (ho r a3 s1 (by rw [a4]; simp)).trans a4, a5⟩
theorem ints_nil (S : Nat → Prop) (h : AHeap) : IntsAt S h (.slice none 0 0) [] := ⟨_, _, rfl, fun i x hx => by simp at hx, .inl ⟨rfl, rfl⟩⟩
theorem ints_own {S : Nat → Prop} {h : AHeap} {r n : Nat} {own : Bool} {ty : TypeId} {l : List Int} {c : List Value} (hn : n = l.length) (hs : S r) (hl : r < h.next) (ho : h.obj r = some (.arr own ty (l.map (Value.int .i64) ++ c))) : IntsAt S h (.slice (some ⟨r, 0, none⟩) n 1) l := by
  subst hn
  refine ⟨_, _, rfl, fun i x hx => ⟨r, 0, own, ty, _, rfl, rfl, hs, hl, ho, ?_⟩, .inr ⟨r, 0, rfl, rfl⟩⟩
  rw [Nat.zero_add, List.getElem?_append_left (by simpa using (List.getElem?_eq_some_iff.1 hx).1)]
  simp [hx]

/-- What the document's example has. -/
def exG : Nat → List Int := fun v => if v = 0 then [1] else if v = 1 then [0] else [1]

theorem ex_done {knots : List (List Nat)} {of : Nat → Nat} (D : Done 3 exG knots of) : knots = [[0, 1], [2]] ∧ of 2 = 1 := by
  have e01 : Tar.Reach 3 exG 0 1 := .one ⟨by omega, by simp [exG]⟩
  have e10 : Tar.Reach 3 exG 1 0 := .one ⟨by omega, by simp [exG]⟩
  have e21 : Tar.Reach 3 exG 2 1 := .one ⟨by omega, by simp [exG]⟩
  have n02 : ¬ Tar.Reach 3 exG 0 2 := by
    have key : ∀ a b, Tar.Reach 3 exG a b → a < 2 → b < 2 := by
      intro a b r
      induction r with
      | refl => exact id
      | step e _ ih =>
        intro h
        refine ih ?_
        obtain ⟨h1, h2⟩ := e
        unfold exG at h2
        split at h2
        · simp at h2; omega
        · split at h2
          · simp at h2; omega
          · simp at h2; omega
    intro r
    have := key 0 2 r (by omega)
    omega
  have a1 : of 0 = of 1 := (D.same (by omega) (by omega)).2 ⟨e01, e10⟩
  have a2 : of 0 ≠ of 2 := fun e => n02 ((D.same (by omega) (by omega)).1 e).1
  have a3 : of 1 ≤ of 2 := D.reach e21 (by omega)
  have b0 := D.of_lt (x := 0) (by omega)
  have b2 := D.of_lt (x := 2) (by omega)
  have cov : ∀ k, k < knots.length → k = of 0 ∨ k = of 2 := by
    intro k hk
    obtain ⟨x, hx⟩ := List.exists_mem_of_ne_nil _ (D.nonempty _ (List.getElem_mem hk))
    have h1 := D.lt _ (List.getElem_mem hk) x hx
    have h2 := D.of_eq k _ x (List.getElem?_eq_getElem hk) hx
    have : x = 0 ∨ x = 1 ∨ x = 2 := by omega
    rcases this with rfl | rfl | rfl <;> omega
  have hl : knots.length = 2 := by
    have c0 := cov 0 (by omega)
    by_cases h : knots.length ≤ 2
    · omega
    · have c1 := cov 1 (by omega)
      have c2 := cov 2 (by omega)
      omega
  have o0 : of 0 = 0 := by have := cov 0 (by omega); omega
  have o2 : of 2 = 1 := by omega
  have mem0 : ∀ x, x ∈ knots[0]'(by omega) ↔ x = 0 ∨ x = 1 := by
    intro x
    constructor
    · intro hx
      have h1 := D.lt _ (List.getElem_mem _) x hx
      have h2 := D.of_eq 0 _ x (List.getElem?_eq_getElem (by omega)) hx
      have : x = 0 ∨ x = 1 ∨ x = 2 := by omega
      rcases this with rfl | rfl | rfl <;> omega
    · intro hx
      have hx3 : x < 3 := by omega
      obtain ⟨l, h1, h2⟩ := D.at hx3
      have : of x = 0 := by rcases hx with rfl | rfl <;> omega
      rw [this, List.getElem?_eq_getElem (by omega)] at h1
      cases h1; exact h2
  have mem1 : ∀ x, x ∈ knots[1]'(by omega) ↔ x = 2 := by
    intro x
    constructor
    · intro hx
      have h1 := D.lt _ (List.getElem_mem _) x hx
      have h2 := D.of_eq 1 _ x (List.getElem?_eq_getElem (by omega)) hx
      have : x = 0 ∨ x = 1 ∨ x = 2 := by omega
      rcases this with rfl | rfl | rfl <;> omega
    · rintro rfl
      obtain ⟨l, h1, h2⟩ := D.at (x := 2) (by omega)
      rw [o2, List.getElem?_eq_getElem (by omega)] at h1
      cases h1; exact h2
  have s0 := D.rows _ (List.getElem_mem (show 0 < knots.length by omega))
  have s1 := D.rows _ (List.getElem_mem (show 1 < knots.length by omega))
  refine ⟨?_, o2⟩
  have r0 : knots[0]'(by omega) = [0, 1] := List.Perm.eq_of_pairwise (le := (· < ·)) (fun a b _ _ h1 h2 => by omega) s0 (by simp) ((List.perm_ext_iff_of_nodup (nodup_of_lt s0) (by simp)).2 (fun x => by rw [mem0]; simp))
  have r1 : knots[1]'(by omega) = [2] := List.Perm.eq_of_pairwise (le := (· < ·)) (fun a b _ _ h1 h2 => by omega) s1 (by simp) ((List.perm_ext_iff_of_nodup (nodup_of_lt s1) (by simp)).2 (fun x => by rw [mem1]; simp))
  match knots, hl, r0, r1 with
  | [a, b], _, r0, r1 => simp at r0 r1; rw [r0, r1]

theorem awake_spec {h : AHeap} {Q : Value → AHeap → Prop} (hq : ∀ h', h.next ≤ h'.next → (∀ i, i < h.next → h'.obj i = h.obj i) → Q (.bool true) h') : ACallW Try.prog 8 [] h Q := by
  refine enter8 ?_
  unfold c8
  (refine sw_seq ?_; refine sw_reg mixed ?_; simp [Nat.add_assoc, iv, tab_len, tab_getE, tab_set, Nat.add_one_le_iff, p8_0, params, *])
  refine sw_seq (sw_reg mixed ?_)
  simp [p8_1, Nat.add_assoc]
  intro z1 z2 z3 z4
  refine run_callI 9 [.slice (some ⟨h.next + 4, 0, none⟩) 3 1] (by simp) ?_
  refine find_spec sortC (into := exG) (N := 3) (graph_of (S := fun _ => True) (by simp) (by simp; exact ⟨rfl, rfl, rfl⟩) (fun v hv => ?_)) (by omega) (fun v hv => ?_) ?_
  · have hv3 : v = 0 ∨ v = 1 ∨ v = 2 := by omega
    rcases hv3 with rfl | rfl | rfl
    · exact ⟨_, rfl, ints_own (S := fun _ => True) (l := [1]) (c := []) rfl trivial (by simp) (by simp; exact ⟨rfl, rfl⟩)⟩
    · exact ⟨_, rfl, ints_own (S := fun _ => True) (l := [0]) (c := []) rfl trivial (by simp) (by simp; exact ⟨rfl, rfl⟩)⟩
    · exact ⟨_, rfl, ints_own (S := fun _ => True) (l := [1]) (c := []) rfl trivial (by simp) (by simp; exact ⟨rfl, rfl⟩)⟩
  · unfold exG
    split
    · decide
    · split <;> decide
  · intro h2 ρ kv oid rows of n1 fr hρ R each ro lo oo D
    obtain ⟨e1, e2⟩ := ex_done D
    obtain ⟨⟨r0, l0⟩, ⟨r1, l1⟩, rfl⟩ : ∃ a b, rows = [a, b] := by
      have hl : rows.length = 2 := by have := congrArg List.length e1; simpa using this
      match rows, hl with
      | [a, b], _ => exact ⟨a, b, rfl⟩
    simp at e1
    obtain ⟨rfl, rfl⟩ := e1
    rcases row_inv R with ⟨_, e⟩ | ⟨kid, kc, rfl, kr, kl, ko⟩
    · simp at e
    have q1 := (each (r0, [0, 1]) (by simp)).2
    simp [nats, iv] at q1
    simp [sl] at ko
    simp
    simp at n1
    have g2 : h.next ≤ h2.next := by omega
    have g3 : ∀ i, i < h.next → h2.obj i = h.obj i := by
      intro i hi
      rw [fr i (by simp; omega)]
      have fi := ne_fresh hi
      simp [fi]
    clear n1 fr each R D hρ
    (refine sw_seq ?_; refine sw_reg mixed ?_; simp [Nat.add_assoc, iv, tab_len, tab_getE, tab_set, Nat.add_one_le_iff, p8_2, *])
    refine sw_ret ?_
    simp
    exact hq _ (by simp; omega) g3

end Go.Proofs.Ytbcgcnmnblfhmaa
