/- Rows of whole numbers: read, built; numbers by a remainder. -/
import Derived.Test.YtbcgcnmnblfhmaaRl2
import Derived.Test.YtbcgcnmnblfhmaaKp0
import Derived.Test.YtbcgcnmnblfhmaaDat1
namespace Go.Proofs.Ytbcgcnmnblfhmaa
open Lin Tar
set_option maxRecDepth 10000
set_option linter.unusedSimpArgs false

/-- A row of ints that is read, whole. -/
theorem row_ints {S : Nat → Prop} {h : AHeap} {v : Value} {l : List Int} (D : (cSlc cZ).R S h [v] l) : (v = .slice none 0 0 ∧ l = []) ∨ (l = [] ∧ ∃ r o, v = .slice (some ⟨r, o, none⟩) 0 1) ∨
    0 < l.length ∧ ∃ r o own ty k, v = .slice (some ⟨r, o, none⟩) l.length 1 ∧ S r ∧ h.obj r = some (.arr own ty k) ∧ o + l.length ≤ k.length ∧ (k.drop o).take l.length = l.map (Value.int .i64) ∧ ∀ i x, l[i]? = some x → k[o + i]? = some (.int .i64 x) := by
  rcases slc_cases D with ⟨rfl, rfl⟩ | ⟨rfl, r, o, rfl⟩ | ⟨hl, _⟩
  · exact .inl ⟨rfl, rfl⟩
  · exact .inr (.inl ⟨rfl, r, o, rfl⟩)
  · obtain ⟨r, o, own, ty, k, rfl, h2, h3, h4, h5⟩ := slc_open1 rfl D hl
    have h6 : ∀ i x, l[i]? = some x → k[o + i]? = some (.int .i64 x) := by
      intro i x hx
      obtain ⟨u, h6, h7⟩ := h5 i x hx
      have h8 : u = .int .i64 x := by simpa [cZ] using h7
      rw [h6, h8]
    refine .inr (.inr ⟨hl, r, o, own, ty, k, rfl, h2, h3, h4, ?_, h6⟩)
    apply List.ext_getElem?
    intro i
    rw [List.getElem?_take, List.getElem?_map]
    by_cases hi : i < l.length
    · rw [if_pos hi, List.getElem?_drop, h6 i l[i] (by simp [hi]), List.getElem?_eq_getElem hi]; rfl
    · rw [if_neg hi, List.getElem?_eq_none (by omega)]; rfl

theorem ints_mk {S : Nat → Prop} {h : AHeap} {r m : Nat} {l : List Int} {own : Bool} {ty : TypeId} (t : List Value) (hs : S r) (ho : h.obj r = some (.arr own ty (l.map (Value.int .i64) ++ t))) (hm : m = l.length) :
    (cSlc cZ).R S h [.slice (some ⟨r, 0, none⟩) m 1] l := by
  subst hm
  refine ⟨_, _, rfl, .inr ⟨r, 0, rfl, rfl, fun _ => ⟨hs, own, ty, _, ho, by simp, fun i x hx => ?_⟩⟩⟩
  have hi := (List.getElem?_eq_some_iff.1 hx).1
  show ((l.map (Value.int .i64) ++ t).drop (0 + i * 1)).take 1 = _
  rw [Nat.zero_add, Nat.mul_one, take_one (by simp; omega), List.getElem_append_left (by simpa using hi), List.getElem_map]
  rw [(List.getElem?_eq_some_iff.1 hx).2]


/-- int(uint(w) % uint(n)). -/
def modn (n : Nat) (w : Int) : Nat := ((IntKind.u64.wrap w).tmod n).toNat
theorem u64_in {n : Int} (h : 0 ≤ n ∧ n < 18446744073709551616) : IntKind.u64.wrap n = n := by
  have e : IntKind.u64.wrap n = n % 18446744073709551616 := by
    unfold IntKind.wrap
    simp [IntKind.bits, IntKind.signed]
  rw [e]; omega
theorem u64_pos (w : Int) : 0 ≤ IntKind.u64.wrap w ∧ IntKind.u64.wrap w < 18446744073709551616 := by
  have e : IntKind.u64.wrap w = w % 18446744073709551616 := by
    unfold IntKind.wrap
    simp [IntKind.bits, IntKind.signed]
  rw [e]; omega
theorem modn_lt {n : Nat} (hn : 0 < n) (w : Int) : modn n w < n := by
  unfold modn
  have h1 := Int.tmod_nonneg (n : Int) (u64_pos w).1
  have h2 := Int.tmod_lt_of_pos (IntKind.u64.wrap w) (show (0 : Int) < n by omega)
  omega
theorem modn_eq {n : Nat} (hn : 0 < n) (h : n < 1000000) (w : Int) : IntKind.i64.wrap ((IntKind.u64.wrap w).tmod n) = (modn n w : Nat) := by
  have h1 := Int.tmod_nonneg (n : Int) (u64_pos w).1
  have h2 := Int.tmod_lt_of_pos (IntKind.u64.wrap w) (show (0 : Int) < n by omega)
  have h3 : ((modn n w : Nat) : Int) = (IntKind.u64.wrap w).tmod n := by unfold modn; omega
  rw [h3, wrap_in (by omega)]
end Go.Proofs.Ytbcgcnmnblfhmaa
