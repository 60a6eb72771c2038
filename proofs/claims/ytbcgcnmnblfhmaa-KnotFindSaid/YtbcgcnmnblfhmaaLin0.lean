/- An abstract heap and its relation to the model's world: the values, the objects, and what a world must hold to be described by them. -/
import Derived.Tactics
import Derived.Laws.CopyRow
import Derived.Laws.Append
import Derived.Laws.AppendOwn
import Derived.Orders
import Derived.Scope
namespace Go.Proofs.Ytbcgcnmnblfhmaa.Lin

/-- Where an abstract object lies: its block, the first cell, how many cells there are from there on. -/
structure Emb where
  blk : Nat
  base : Nat
  avail : Nat

inductive AObj where
  | arr (own : Bool) (ty : TypeId) (c : List Value)
  | map (own : Bool) (es : List (Value × Value))

def AObj.owned : AObj → Bool
  | .arr own _ _ => own
  | .map own _ => own

structure AHeap where
  next : Nat
  obj : Nat → Option AObj

def AHeap.put (h : AHeap) (i : Nat) (o : AObj) : AHeap := { next := h.next, obj := fun j => if j = i then some o else h.obj j }
def AHeap.del (h : AHeap) (i : Nat) : AHeap := { next := h.next, obj := fun j => if j = i then none else h.obj j }
def AHeap.bump (h : AHeap) (n : Nat) : AHeap := { next := h.next + n, obj := h.obj }

theorem AHeap.put_next (h : AHeap) (i : Nat) (o : AObj) : (h.put i o).next = h.next := (rfl)
theorem AHeap.del_next (h : AHeap) (i : Nat) : (h.del i).next = h.next := (rfl)
theorem AHeap.bump_next (h : AHeap) (n : Nat) : (h.bump n).next = h.next + n := (rfl)
theorem AHeap.put_obj (h : AHeap) (i j : Nat) (o : AObj) : (h.put i o).obj j = if j = i then some o else h.obj j := (rfl)
theorem AHeap.del_obj (h : AHeap) (i j : Nat) : (h.del i).obj j = if j = i then none else h.obj j := (rfl)
theorem AHeap.bump_obj (h : AHeap) (n j : Nat) : (h.bump n).obj j = h.obj j := (rfl)
theorem AHeap.put_same (h : AHeap) (i : Nat) (o : AObj) : (h.put i o).obj i = some o := by simp [AHeap.put]
theorem AHeap.put_ne (h : AHeap) {i j : Nat} (o : AObj) (n : j ≠ i) : (h.put i o).obj j = h.obj j := by simp [AHeap.put, n]
theorem AHeap.del_ne (h : AHeap) {i j : Nat} (n : j ≠ i) : (h.del i).obj j = h.obj j := by simp [AHeap.del, n]
theorem AHeap.put_comm (h : AHeap) {i j : Nat} (o p : AObj) (n : i ≠ j) : (h.put i o).put j p = (h.put j p).put i o := by
  simp only [AHeap.put]
  congr 1
  funext k
  by_cases h1 : k = i <;> by_cases h2 : k = j <;> simp_all

/-- Nothing lies beyond the last number. -/
def WF (h : AHeap) : Prop := ∀ i, h.next ≤ i → h.obj i = none

/-- An abstract value, and the value that it stands for. A slice's third number is how many cells an element has. -/
inductive VR (φ : Nat → Option Emb) : Value → Value → Prop
  | bool (b : Bool) : VR φ (.bool b) (.bool b)
  | int (k : IntKind) (n : Int) : VR φ (.int k n) (.int k n)
  | float (k : FloatKind) (b : Nat) : VR φ (.float k b) (.float k b)
  | complex (k : FloatKind) (a b : Nat) : VR φ (.complex k a b) (.complex k a b)
  | string (s : ByteArray) : VR φ (.string s) (.string s)
  | ptrNil : VR φ (.pointer none) (.pointer none)
  | ptr {i off : Nat} {e : Emb} (h : φ i = some e) : VR φ (.pointer (some ⟨i, off, none⟩)) (.pointer (some ⟨e.blk, e.base + off, none⟩))
  | sliceNil : VR φ (.slice none 0 0) (.slice none 0 0)
  | slice {i off len esz cap : Nat} {e : Emb} (h : φ i = some e) (hl : len ≤ cap) (hc : off + cap * esz ≤ e.avail) :
      VR φ (.slice (some ⟨i, off, none⟩) len esz) (.slice (some ⟨e.blk, e.base + off, none⟩) len cap)
  | sliceZero {i off esz : Nat} {a : Addr} : VR φ (.slice (some ⟨i, off, none⟩) 0 esz) (.slice (some a) 0 0)
  | mapNil : VR φ (.map none) (.map none)
  | map {i : Nat} {e : Emb} (h : φ i = some e) : VR φ (.map (some i)) (.map (some e.blk))
  | chanNil : VR φ (.chan none) (.chan none)
  | func {fn : Fn} {f f' c c' : Array Value} (h1 : f.size = f'.size) (h2 : ∀ (i : Nat) v v', f[i]? = some v → f'[i]? = some v' → VR φ v v')
      (h3 : c.size = c'.size) (h4 : ∀ (i : Nat) v v', c[i]? = some v → c'[i]? = some v' → VR φ v v') : VR φ (.func fn f c) (.func fn f' c')
  | nilFunc : VR φ .nilFunc .nilFunc
  | nilIface : VR φ .nilIface .nilIface
  | iface {t : TypeId} {v v' : Value} (h : VR φ v v') : VR φ (.iface t v) (.iface t v')
  | agg {c c' : Array Value} (h1 : c.size = c'.size) (h2 : ∀ (i : Nat) v v', c[i]? = some v → c'[i]? = some v' → VR φ v v') : VR φ (.agg c) (.agg c')
  | tuple {c c' : Array Value} (h1 : c.size = c'.size) (h2 : ∀ (i : Nat) v v', c[i]? = some v → c'[i]? = some v' → VR φ v v') : VR φ (.tuple c) (.tuple c')

/-- .. of lists. -/
def VRs (φ : Nat → Option Emb) (l l' : List Value) : Prop := l.length = l'.length ∧ ∀ (i : Nat) v v', l[i]? = some v → l'[i]? = some v' → VR φ v v'

def Le (φ φ' : Nat → Option Emb) : Prop := ∀ i e, φ i = some e → φ' i = some e

theorem Le.refl (φ : Nat → Option Emb) : Le φ φ := fun _ _ h => h
theorem Le.trans {a b c : Nat → Option Emb} (h : Le a b) (k : Le b c) : Le a c := fun i e g => k i e (h i e g)

theorem VR.mono {φ φ' : Nat → Option Emb} (hl : Le φ φ') {v v' : Value} (h : VR φ v v') : VR φ' v v' := by
  induction h with
  | bool b => exact .bool b
  | int k n => exact .int k n
  | float k b => exact .float k b
  | complex k a b => exact .complex k a b
  | string s => exact .string s
  | ptrNil => exact .ptrNil
  | ptr h => exact .ptr (hl _ _ h)
  | sliceNil => exact .sliceNil
  | slice h h1 h2 => exact .slice (hl _ _ h) h1 h2
  | sliceZero => exact .sliceZero
  | mapNil => exact .mapNil
  | map h => exact .map (hl _ _ h)
  | chanNil => exact .chanNil
  | func h1 _ h3 _ ih2 ih4 => exact .func h1 ih2 h3 ih4
  | nilFunc => exact .nilFunc
  | nilIface => exact .nilIface
  | iface _ ih => exact .iface ih
  | agg h1 _ ih => exact .agg h1 ih
  | tuple h1 _ ih => exact .tuple h1 ih

theorem VRs.mono {φ φ' : Nat → Option Emb} (hl : Le φ φ') {l l' : List Value} (h : VRs φ l l') : VRs φ' l l' :=
  ⟨h.1, fun i v v' a b => (h.2 i v v' a b).mono hl⟩

theorem VRs.nil {φ : Nat → Option Emb} : VRs φ [] [] := ⟨rfl, by simp⟩
theorem VRs.cons {φ : Nat → Option Emb} {v v' : Value} {l l' : List Value} (h : VR φ v v') (t : VRs φ l l') : VRs φ (v :: l) (v' :: l') := by
  refine ⟨by simp [t.1], ?_⟩
  intro i x x' hx hx'
  cases i with
  | zero => simp at hx hx'; subst hx; subst hx'; exact h
  | succ i => exact t.2 i x x' (by simpa using hx) (by simpa using hx')
theorem VRs.append {φ : Nat → Option Emb} {a a' b b' : List Value} (h : VRs φ a a') (k : VRs φ b b') : VRs φ (a ++ b) (a' ++ b') := by
  refine ⟨by simp [h.1, k.1], ?_⟩
  intro i x x' hx hx'
  have e := h.1
  by_cases hi : i < a.length
  · rw [List.getElem?_append_left hi] at hx
    rw [List.getElem?_append_left (by omega)] at hx'
    exact h.2 i x x' hx hx'
  · rw [List.getElem?_append_right (by omega)] at hx
    rw [List.getElem?_append_right (by omega), ← e] at hx'
    exact k.2 _ x x' hx hx'
theorem VRs.get {φ : Nat → Option Emb} {l l' : List Value} (h : VRs φ l l') {i : Nat} {v : Value} (hv : l[i]? = some v) : ∃ v', l'[i]? = some v' ∧ VR φ v v' := by
  have hi := (List.getElem?_eq_some_iff.1 hv).1
  have hi' : i < l'.length := by rw [← h.1]; exact hi
  exact ⟨l'[i], by simp [hi'], h.2 i v _ hv (by simp [hi'])⟩
theorem VRs.take {φ : Nat → Option Emb} {l l' : List Value} (h : VRs φ l l') (n : Nat) : VRs φ (l.take n) (l'.take n) := by
  refine ⟨by simp [h.1], fun i v v' a b => ?_⟩
  rw [List.getElem?_take] at a b
  split at a
  · simp_all; exact h.2 i v v' a b
  · cases a
theorem VRs.drop {φ : Nat → Option Emb} {l l' : List Value} (h : VRs φ l l') (n : Nat) : VRs φ (l.drop n) (l'.drop n) := by
  refine ⟨by simp [h.1], fun i v v' a b => ?_⟩
  rw [List.getElem?_drop] at a b
  exact h.2 _ v v' a b
theorem VRs.set {φ : Nat → Option Emb} {l l' : List Value} (h : VRs φ l l') (n : Nat) {v v' : Value} (hv : VR φ v v') : VRs φ (l.set n v) (l'.set n v') := by
  refine ⟨by simp [h.1], fun i x x' a b => ?_⟩
  rw [List.getElem?_set] at a b
  have e := h.1
  split at a
  · rename_i hn
    subst hn
    split at a
    · rename_i hlt
      simp [show n < l'.length by omega] at b
      simp at a
      subst a; subst b; exact hv
    · cases a
  · rename_i hn
    simp [hn] at b
    exact h.2 i x x' a b

theorem VR.one {φ : Nat → Option Emb} {v v' : Value} (h : VR φ v v') : v'.oneCell' = v.oneCell' := by cases h <;> rfl

theorem VR.cells {φ : Nat → Option Emb} {v v' : Value} (h : VR φ v v') : VRs φ v.cells.toList v'.cells.toList := by
  cases h with
  | agg h1 h2 => exact ⟨by simpa [Value.cells] using h1, by simpa [Value.cells] using h2⟩
  | _ =>
    simp only [Value.cells]
    refine VRs.cons ?_ VRs.nil
    constructor <;> assumption

/-- A value without addresses. -/
def plainN : Nat → Value → Bool
  | 0, _ => false
  | n + 1, v => match v with
    | .bool _ | .int _ _ | .float _ _ | .complex _ _ _ | .string _ | .pointer none | .slice none 0 0 | .map none | .chan none | .nilFunc | .nilIface => true
    | .func _ f c => f.toList.all (plainN n) && c.toList.all (plainN n)
    | .iface _ v => plainN n v
    | .agg c => c.toList.all (plainN n)
    | .tuple c => c.toList.all (plainN n)
    | _ => false

theorem arr_all {n : Nat} {c : Array Value} (h : c.toList.all (plainN n) = true) {i : Nat} {v : Value} (hv : c[i]? = some v) : plainN n v = true := by
  rw [List.all_eq_true] at h
  exact h v (by rw [Array.mem_toList_iff]; exact Array.mem_of_getElem? hv)

theorem VR.of_plain {φ : Nat → Option Emb} : ∀ {n : Nat} {v : Value}, plainN n v = true → VR φ v v := by
  intro n
  induction n with
  | zero => intro v h; simp [plainN] at h
  | succ n ih =>
    intro v h
    cases v with
    | bool b => exact .bool b
    | int k m => exact .int k m
    | float k b => exact .float k b
    | complex k a b => exact .complex k a b
    | string s => exact .string s
    | pointer a => cases a with
      | none => exact .ptrNil
      | some a => simp [plainN] at h
    | slice a l c =>
      cases a with
      | some a => simp [plainN] at h
      | none =>
        cases l with
        | succ l => simp [plainN] at h
        | zero => cases c with
          | succ c => simp [plainN] at h
          | zero => exact .sliceNil
    | map r => cases r with
      | none => exact .mapNil
      | some r => simp [plainN] at h
    | chan r => cases r with
      | none => exact .chanNil
      | some r => simp [plainN] at h
    | func fn f c =>
      simp only [plainN, Bool.and_eq_true] at h
      exact .func rfl (fun i v v' a b => by rw [a] at b; cases b; exact ih (arr_all h.1 a)) rfl (fun i v v' a b => by rw [a] at b; cases b; exact ih (arr_all h.2 a))
    | nilFunc => exact .nilFunc
    | iface t v => exact .iface (ih (by simpa [plainN] using h))
    | nilIface => exact .nilIface
    | agg c =>
      simp only [plainN] at h
      exact .agg rfl (fun i v v' a b => by rw [a] at b; cases b; exact ih (arr_all h a))
    | tuple c =>
      simp only [plainN] at h
      exact .tuple rfl (fun i v v' a b => by rw [a] at b; cases b; exact ih (arr_all h a))

/-- What a list of map entries stands for. -/
def MR (φ : Nat → Option Emb) (es : List (Value × Value)) (es' : List MapEntry) : Prop :=
  es.length = es'.length ∧ ∀ (i : Nat) p p', es[i]? = some p → es'[i]? = some p' → p.1 = p'.key ∧ plainN 4 p.1 = true ∧ VR φ p.2 p'.val

/-- A world holds an object. -/
def OR (B0 : Nat → Prop) (φ : Nat → Option Emb) (w : World) (e : Emb) : AObj → Prop
  | .arr own ty c => ∃ cur ty' fr, w.heap[e.blk]? = some (.cells cur ty' fr) ∧
      (∀ (k : Nat) v, c[k]? = some v → ∃ v', cur[e.base + k]? = some v' ∧ VR φ v v') ∧
      (∀ v ∈ c, v.oneCell' = true) ∧
      (own = true → ¬ B0 e.blk ∧ fr = (0, 0) ∧ ty' = ty ∧ e.base + e.avail = cur.size) ∧ (own = false → B0 e.blk)
  | .map own es => ((own = true → ¬ B0 e.blk) ∧ (own = false → B0 e.blk)) ∧ ∃ es' clock, w.heap[e.blk]? = some (.map es' clock) ∧ MR φ es es'.toList

def Owns (φ : Nat → Option Emb) (h : AHeap) (i b : Nat) : Prop := ∃ e o, h.obj i = some o ∧ o.owned = true ∧ φ i = some e ∧ e.blk = b

/-- A world is described by an abstract heap. -/
structure HR (B0 : Nat → Prop) (φ : Nat → Option Emb) (h : AHeap) (w : World) : Prop where
  size : ∀ b, B0 b → b < w.heap.size
  fresh : ∀ i, h.next ≤ i → φ i = none ∧ h.obj i = none
  obj : ∀ i o, h.obj i = some o → ∃ e, φ i = some e ∧ OR B0 φ w e o
  sep : ∀ i j b, Owns φ h i b → Owns φ h j b → i = j

/-- Free, or only read: it stays. -/
def still : Option AObj → Bool
  | none => true
  | some (.arr false _ _) => true
  | some (.map false _) => true
  | _ => false

/-- What a step may have done to the world, and what it leaves: of what has a number below N nothing new is placed. -/
structure Post (B0 : Nat → Prop) (N : Nat) (φ : Nat → Option Emb) (h : AHeap) (w : World) (φ' : Nat → Option Emb) (h' : AHeap) (w' : World) : Prop where
  hr : HR B0 φ' h' w'
  le : Le φ φ'
  ext : ∀ i, i < N → φ' i = φ i
  nxt : h.next ≤ h'.next
  old : ∀ i, i < N → h.obj i = none → h'.obj i = none
  size : w.heap.size ≤ w'.heap.size
  frame : ∀ b, b < w.heap.size → (∀ i, ¬ Owns φ h i b) → w'.heap[b]? = w.heap[b]?
  inside : ∀ i b, Owns φ' h' i b → (∃ j, Owns φ h j b) ∨ w.heap.size ≤ b
  os : w'.os = w.os
  tape : w'.tape = w.tape
  output : w'.output = w.output

theorem Post.refl {B0 : Nat → Prop} {N : Nat} {φ : Nat → Option Emb} {h : AHeap} {w : World} (hh : HR B0 φ h w) : Post B0 N φ h w φ h w :=
  ⟨hh, Le.refl _, fun _ _ => rfl, Nat.le_refl _, fun _ _ e => e, Nat.le_refl _, fun _ _ _ => rfl, fun i _ o => .inl ⟨i, o⟩, rfl, rfl, rfl⟩

theorem Post.trans {B0 : Nat → Prop} {N : Nat} {φ φ1 φ2 : Nat → Option Emb} {h h1 h2 : AHeap} {w w1 w2 : World}
    (p : Post B0 N φ h w φ1 h1 w1) (q : Post B0 N φ1 h1 w1 φ2 h2 w2) : Post B0 N φ h w φ2 h2 w2 where
  hr := q.hr
  le := p.le.trans q.le
  ext := fun i hi => (q.ext i hi).trans (p.ext i hi)
  nxt := Nat.le_trans p.nxt q.nxt
  old := fun i hi e => q.old i hi (p.old i hi e)
  size := Nat.le_trans p.size q.size
  frame := by
    intro b hb hn
    rw [q.frame b (Nat.lt_of_lt_of_le hb p.size), p.frame b hb hn]
    intro i ho
    rcases p.inside i b ho with ⟨j, hj⟩ | hge
    · exact hn j hj
    · omega
  inside := by
    intro i b ho
    rcases q.inside i b ho with ⟨j, hj⟩ | hge
    · exact p.inside j b hj
    · exact .inr (Nat.le_trans p.size hge)
  os := q.os.trans p.os
  tape := q.tape.trans p.tape
  output := q.output.trans p.output

theorem Post.weak {B0 : Nat → Prop} {N N' : Nat} {φ φ' : Nat → Option Emb} {h h' : AHeap} {w w' : World} (p : Post B0 N φ h w φ' h' w') (hn : N' ≤ N) : Post B0 N' φ h w φ' h' w' :=
  ⟨p.hr, p.le, fun i hi => p.ext i (Nat.lt_of_lt_of_le hi hn), p.nxt, fun i hi => p.old i (Nat.lt_of_lt_of_le hi hn), p.size, p.frame, p.inside, p.os, p.tape, p.output⟩

theorem owned_ge {B0 : Nat → Prop} {φ : Nat → Option Emb} {h : AHeap} {w : World} (hh : HR B0 φ h w) {i b : Nat} (ho : Owns φ h i b) : ¬ B0 b ∧ b < w.heap.size := by
  obtain ⟨e, o, ho, hown, he, rfl⟩ := ho
  obtain ⟨e', he', hor⟩ := hh.obj i o ho
  rw [he] at he'; cases he'
  cases o with
  | arr own ty c =>
    simp only [AObj.owned] at hown
    obtain ⟨cur, _, _, hc, _, _, h4, _⟩ := hor
    exact ⟨(h4 hown).1, (Array.getElem?_eq_some_iff.1 hc).1⟩
  | map own es =>
    obtain ⟨h1, _, _, hc, _⟩ := hor
    exact ⟨h1.1 hown, (Array.getElem?_eq_some_iff.1 hc).1⟩

theorem HR.new {B0 : Nat → Prop} {φ : Nat → Option Emb} {h : AHeap} {w : World} (hh : HR B0 φ h w) : ¬ B0 w.heap.size := fun g => Nat.lt_irrefl _ (hh.size _ g)

/-- Below the bound of what came in nothing has turned. -/
theorem Post.below {B0 : Nat → Prop} {N : Nat} {φ φ' : Nat → Option Emb} {h h' : AHeap} {w w' : World} (hh : HR B0 φ h w) (p : Post B0 N φ h w φ' h' w') :
    ∀ b, B0 b → w'.heap[b]? = w.heap[b]? := by
  intro b hb
  refine p.frame b (hh.size b hb) ?_
  intro i ho
  exact (owned_ge hh ho).1 hb

theorem OR.keep {B0 : Nat → Prop} {φ φ' : Nat → Option Emb} {w w' : World} {e : Emb} {o : AObj} (hl : Le φ φ') (hw : w'.heap[e.blk]? = w.heap[e.blk]?) (h : OR B0 φ w e o) : OR B0 φ' w' e o := by
  cases o with
  | arr own ty c =>
    obtain ⟨cur, ty', fr, h1, h2, h3, h4, h5⟩ := h
    exact ⟨cur, ty', fr, hw.trans h1, fun k v hv => let ⟨v', a, b⟩ := h2 k v hv; ⟨v', a, b.mono hl⟩, h3, h4, h5⟩
  | map own es =>
    obtain ⟨h0, es', clock, h1, h2, h3⟩ := h
    exact ⟨h0, es', clock, hw.trans h1, h2, fun i p p' a b => let ⟨x, y, z⟩ := h3 i p p' a b; ⟨x, y, z.mono hl⟩⟩

theorem OR.blk_lt {B0 : Nat → Prop} {φ : Nat → Option Emb} {w : World} {e : Emb} {o : AObj} (h : OR B0 φ w e o) : e.blk < w.heap.size := by
  cases o with
  | arr own ty c => obtain ⟨cur, ty', fr, h1, _⟩ := h; exact (Array.getElem?_eq_some_iff.1 h1).1
  | map own es => obtain ⟨h0, es', clock, h1, _⟩ := h; exact (Array.getElem?_eq_some_iff.1 h1).1

end Go.Proofs.Ytbcgcnmnblfhmaa.Lin
