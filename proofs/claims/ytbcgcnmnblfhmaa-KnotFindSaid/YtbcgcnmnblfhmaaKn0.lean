/- What the knots' search has in memory: the rows, and how they are looked at. -/
import Derived.Test.YtbcgcnmnblfhmaaLin16
import Derived.Test.YtbcgcnmnblfhmaaTar0
import Derived.IntWalk
import Derived.Test.YtbcgcnmnblfhmaaKT
namespace Go.Proofs.Ytbcgcnmnblfhmaa
open Lin Tar

/-- The first N of a row. -/
def tab (N : Nat) (f : Nat → Value) : List Value := (List.range N).map f
theorem tab_len (N : Nat) (f : Nat → Value) : (tab N f).length = N := by simp [tab]
theorem tab_get {N : Nat} {f : Nat → Value} {v : Nat} (h : v < N) : (tab N f)[v]? = some (f v) := by simp [tab, h]
theorem tab_getE {N : Nat} {f : Nat → Value} {v : Nat} (h : v < (tab N f).length) : (tab N f)[v] = f v := by simp [tab]
theorem tab_set (N : Nat) (f : Nat → Value) (v : Nat) (x : Value) : (tab N f).set v x = tab N (upd f v x) := by
  apply List.ext_getElem?
  intro i
  rw [List.getElem?_set]
  by_cases hi : v = i
  · subst hi
    by_cases hl : v < N
    · simp [tab, hl, upd]
    · simp [tab, hl]
  · simp only [hi, if_false]
    by_cases hl : i < N
    · simp [tab, hl, upd, Ne.symm hi]
    · simp [tab, hl]
theorem tab_congr {N : Nat} {f g : Nat → Value} (h : ∀ i, i < N → f i = g i) : tab N f = tab N g := by
  apply List.map_congr_left
  intro i hi
  exact h i (List.mem_range.1 hi)

def iv (n : Nat) : Value := .int .i64 n
def nats (l : List Nat) : List Value := l.map iv
theorem nats_len (l : List Nat) : (nats l).length = l.length := by simp [nats]
theorem nats_app (a b : List Nat) : nats (a ++ b) = nats a ++ nats b := by simp [nats]

theorem upd_iv (f : Nat → Nat) (v n : Nat) : upd (fun i => iv (f i)) v (iv n) = fun i => iv (upd f v n i) := by
  funext i
  by_cases h : i = v <;> simp [upd, h]
theorem upd_bool (f : Nat → Bool) (v : Nat) (b : Bool) : upd (fun i => Value.bool (f i)) v (.bool b) = fun i => .bool (upd f v b i) := by
  funext i
  by_cases h : i = v <;> simp [upd, h]

theorem wrap_in {n : Int} (h : -9223372036854775808 ≤ n ∧ n ≤ 9223372036854775807) : IntKind.i64.wrap n = n := by rw [IntKind.wrap_i64]; omega

/-- A row in memory that begins with what is told, or none. -/
inductive Row (ρ : Nat → Nat) (r : Nat) (ty : TypeId) (h : AHeap) : Value → List Value → Prop
  | none : Row ρ r ty h (.slice none 0 0) []
  | some {id : Nat} {l : List Value} (c : List Value) (hr : ρ id = r) (lt : id < h.next) (ho : h.obj id = some (.arr true ty (l ++ c))) : Row ρ r ty h (.slice (some ⟨id, 0, none⟩) l.length 1) l

def sl (id n : Nat) : Value := .slice (some ⟨id, 0, none⟩) n 1

/-- A search's memory. -/
structure Rep (ρ : Nat → Nat) (h : AHeap) (N : Nat) (inv : Value) (t ix lw on_ of_ : Nat) (sv kv : Value) (rows : List (Nat × List Nat)) (s : TS) : Prop where
  cells : h.obj t = some (.arr true 37 [inv, .slice (some ⟨ix, 0, none⟩) N 1, .slice (some ⟨lw, 0, none⟩) N 1, .slice (some ⟨on_, 0, none⟩) N 1, sv, .slice (some ⟨of_, 0, none⟩) N 1, iv s.n, kv])
  oix : h.obj ix = some (.arr true 3 (tab N fun i => iv (s.index i)))
  olw : h.obj lw = some (.arr true 3 (tab N fun i => iv (s.low i)))
  oon : h.obj on_ = some (.arr true 4 (tab N fun i => .bool (s.on i)))
  oof : h.obj of_ = some (.arr true 3 (tab N fun i => iv (s.of i)))
  stk : Row ρ 6 3 h sv (nats s.stack)
  knt : Row ρ 7 24 h kv (rows.map fun r => sl r.1 r.2.length)
  knots : s.knots = rows.map (·.2)
  each : ∀ r ∈ rows, ρ r.1 = 8 ∧ r.1 < h.next ∧ h.obj r.1 = some (.arr true 3 (nats r.2))
  rt : ρ t = 1
  rix : ρ ix = 2
  rlw : ρ lw = 3
  ron : ρ on_ = 4
  rof : ρ of_ = 5
  lt : t < h.next
  lix : ix < h.next
  llw : lw < h.next
  lon : on_ < h.next
  lof : of_ < h.next

/-- What a step of the search leaves as it was. -/
structure Keep (ρ : Nat → Nat) (h : AHeap) (ρ' : Nat → Nat) (h' : AHeap) : Prop where
  nxt : h.next ≤ h'.next
  role : ∀ i, i < h.next → ρ' i = ρ i
  obj : ∀ i, i < h.next → (ρ i = 0 ∨ 9 ≤ ρ i) → h'.obj i = h.obj i

theorem Rep.same {ρ : Nat → Nat} {h h1 : AHeap} {N : Nat} {inv : Value} {t ix lw on_ of_ : Nat} {sv kv : Value} {rows : List (Nat × List Nat)} {s : TS}
    (R : Rep ρ h N inv t ix lw on_ of_ sv kv rows s) (ho : h1.obj = h.obj) (hn : h.next ≤ h1.next) : Rep ρ h1 N inv t ix lw on_ of_ sv kv rows s := by
  have g := fun i hi => Nat.lt_of_lt_of_le (m := h.next) (n := i) hi hn
  have rk : ∀ {r ty x l}, Row ρ r ty h x l → Row ρ r ty h1 x l := by
    intro r ty x l R
    cases R with
    | none => exact .none
    | some c hr lt hob => exact .some c hr (g _ lt) (by rw [ho]; exact hob)
  exact ⟨by rw [ho]; exact R.cells, by rw [ho]; exact R.oix, by rw [ho]; exact R.olw, by rw [ho]; exact R.oon, by rw [ho]; exact R.oof, rk R.stk, rk R.knt, R.knots,
    fun r hr => ⟨(R.each r hr).1, g _ (R.each r hr).2.1, by rw [ho]; exact (R.each r hr).2.2⟩, R.rt, R.rix, R.rlw, R.ron, R.rof, g _ R.lt, g _ R.lix, g _ R.llw, g _ R.lon, g _ R.lof⟩

theorem Keep.refl (ρ : Nat → Nat) (h : AHeap) : Keep ρ h ρ h := ⟨Nat.le_refl _, fun _ _ => rfl, fun _ _ _ => rfl⟩
theorem Keep.same {ρ : Nat → Nat} {h h1 : AHeap} (ho : h1.obj = h.obj) (hn : h.next ≤ h1.next) : Keep ρ h ρ h1 := ⟨hn, fun _ _ => rfl, fun _ _ _ => by rw [ho]⟩
theorem Keep.trans {ρ ρ1 ρ2 : Nat → Nat} {h h1 h2 : AHeap} (a : Keep ρ h ρ1 h1) (b : Keep ρ1 h1 ρ2 h2) : Keep ρ h ρ2 h2 :=
  ⟨Nat.le_trans a.nxt b.nxt, fun i hi => (b.role i (Nat.lt_of_lt_of_le hi a.nxt)).trans (a.role i hi), fun i hi hr => (b.obj i (Nat.lt_of_lt_of_le hi a.nxt) (by rw [a.role i hi]; exact hr)).trans (a.obj i hi hr)⟩

theorem role_ne {ρ : Nat → Nat} {a b : Nat} (h : ρ a ≠ ρ b) : (a = b) = False := by
  simp; intro e; exact h (by rw [e])

theorem upd_n (f : Nat → Nat) (v n : Nat) : upd (fun i => Value.int .i64 (f i)) v (.int .i64 n) = fun i => iv (upd f v n i) := upd_iv f v n
theorem upd_n1 (f : Nat → Nat) (v n : Nat) : upd (fun i => Value.int .i64 (f i)) v (.int .i64 ((n : Int) + 1)) = fun i => iv (upd f v (n + 1) i) := by
  rw [← upd_n]; rfl
theorem row_mk {ρ : Nat → Nat} {r : Nat} {ty : TypeId} {h : AHeap} {id n : Nat} {l : List Value} (c : List Value) (hn : n = l.length) (hr : ρ id = r) (lt : id < h.next) (ho : h.obj id = some (.arr true ty (l ++ c))) :
    Row ρ r ty h (.slice (some ⟨id, 0, none⟩) n 1) l := by
  subst hn; exact .some c hr lt ho
theorem row_keep {ρ ρ' : Nat → Nat} {r : Nat} {ty : TypeId} {h h' : AHeap} {x : Value} {l : List Value} (R : Row ρ r ty h x l) (hn : h.next ≤ h'.next) (hρ : ∀ i, i < h.next → ρ' i = ρ i)
    (fr : ∀ i, i < h.next → ρ i = r → h'.obj i = h.obj i) : Row ρ' r ty h' x l := by
  cases R with
  | none => exact .none
  | some c hr lt ho => exact .some c ((hρ _ lt).trans hr) (Nat.lt_of_lt_of_le lt hn) ((fr _ lt hr).trans ho)

theorem row_keepL {ρ ρ' : Nat → Nat} {r : Nat} {ty : TypeId} {h h' : AHeap} {x : Value} {l : List Value} (R : Row ρ r ty h x l) (hn : h.next ≤ h'.next) (hρ : ∀ i, i < h.next → h.obj i ≠ none → ρ' i = ρ i)
    (fr : ∀ i, i < h.next → h.obj i ≠ none → ρ i = r → h'.obj i = h.obj i) : Row ρ' r ty h' x l := by
  cases R with
  | none => exact .none
  | some c hr lt ho => exact .some c ((hρ _ lt (by rw [ho]; simp)).trans hr) (Nat.lt_of_lt_of_le lt hn) ((fr _ lt (by rw [ho]; simp) hr).trans ho)

theorem row_inv {ρ : Nat → Nat} {r : Nat} {ty : TypeId} {h : AHeap} {x : Value} {l : List Value} (R : Row ρ r ty h x l) :
    (x = .slice none 0 0 ∧ l = []) ∨ ∃ id c, x = .slice (some ⟨id, 0, none⟩) l.length 1 ∧ ρ id = r ∧ id < h.next ∧ h.obj id = some (.arr true ty (l ++ c)) := by
  cases R with
  | none => exact .inl ⟨rfl, rfl⟩
  | some c hr lt ho => exact .inr ⟨_, c, rfl, hr, lt, ho⟩
theorem nats_get {l : List Nat} {k x : Nat} (h : l[k]? = some x) (c : List Value) : (nats l ++ c)[k]? = some (.int .i64 x) := by
  rw [List.getElem?_append_left (by rw [nats_len]; exact (List.getElem?_eq_some_iff.1 h).1)]
  simp [nats, h, iv]

theorem row_slice {ρ : Nat → Nat} {r : Nat} {ty : TypeId} {h : AHeap} {x : Value} {l : List Value} (R : Row ρ r ty h x l) : ∃ p q, x = .slice p l.length q := by
  rcases row_inv R with ⟨rfl, rfl⟩ | ⟨id, c, rfl, _⟩
  · exact ⟨_, _, rfl⟩
  · exact ⟨_, _, rfl⟩

/-- What is in a list is taken to one thing. -/
def offN {α : Type} (l : List Nat) (x : α) (f : Nat → α) : Nat → α := fun j => if j ∈ l then x else f j
theorem offN_nil {α : Type} (x : α) (f : Nat → α) : offN [] x f = f := by funext j; simp [offN]
theorem upd_off {α : Type} {l : List Nat} {i w : Nat} (h : l[i]? = some w) (x : α) (f : Nat → α) : upd (offN (l.take i) x f) w x = offN (l.take (i + 1)) x f := by
  funext j
  rw [List.take_add_one, h]
  simp only [upd, offN, Option.toList_some, List.mem_append, List.mem_singleton]
  by_cases h1 : j = w <;> by_cases h2 : j ∈ l.take i <;> simp [h1, h2]

/-- Not for simp. -/
structure Hid (p : Prop) : Prop where
  out : p


end Go.Proofs.Ytbcgcnmnblfhmaa
