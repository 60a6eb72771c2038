/- The operations that touch no memory, on abstract values, and that the model does likewise. -/
import Derived.Test.YtbcgcnmnblfhmaaLin0
namespace Go.Proofs.Ytbcgcnmnblfhmaa.Lin

abbrev FEnv := Nat → Option Value
def FEnv.put (e : FEnv) (d : Option Tmp) (v : Value) : FEnv := match d with
  | none => e
  | some d => fun t => if t = d then some v else e t

def evO (e : FEnv) : Operand → Option Value
  | .tmp t => e t
  | .const v => if plainN 6 v then some v else none
  | .func f => some (.func (.func f) #[] #[])
  | .global _ => none

/-- Slots that hold what the abstract ones stand for. -/
structure ER (φ : Nat → Option Emb) (e : FEnv) (tmps : Array Value) (n : Nat) : Prop where
  size : n ≤ tmps.size
  get : ∀ t v, e t = some v → ∃ v', tmps[t]? = some v' ∧ VR φ v v'

theorem ER.eval {φ : Nat → Option Emb} {e : FEnv} {a : Act} {n : Nat} (h : ER φ e a.tmps n) {x : Operand} {v : Value} (hv : evO e x = some v) : VR φ v (a.eval x) := by
  cases x with
  | tmp t =>
    obtain ⟨v', h1, h2⟩ := h.get t v hv
    simpa [Act.eval, Array.getD_eq_getD_getElem?, h1] using h2
  | const c =>
    simp only [evO] at hv
    split at hv
    · rename_i hp
      cases hv
      exact VR.of_plain hp
    · cases hv
  | func f =>
    simp only [evO, Option.some.injEq] at hv
    subst hv
    exact .func rfl (by simp) rfl (by simp)
  | global g => simp [evO] at hv

theorem ER.put {φ : Nat → Option Emb} {e : FEnv} {a : Act} {n : Nat} (h : ER φ e a.tmps n) {d : Option Tmp} (hd : ∀ t, d = some t → t < n) {v v' : Value} (hv : VR φ v v') :
    ER φ (e.put d v) (a.put d v').tmps n := by
  cases d with
  | none => exact h
  | some d =>
    refine ⟨by simpa [Act.put] using h.size, ?_⟩
    intro t u hu
    simp only [FEnv.put] at hu
    have hdn := hd d rfl
    have hs := h.size
    split at hu
    · rename_i ht
      subst ht
      cases hu
      have hlt : t < a.tmps.size := Nat.lt_of_lt_of_le hdn hs
      exact ⟨v', by simp [Act.put, hlt], hv⟩
    · rename_i ht
      obtain ⟨u', h1, h2⟩ := h.get t u hu
      exact ⟨u', by simp [Act.put, Array.getElem?_setIfInBounds_ne (Ne.symm ht), h1], h2⟩

theorem ER.mono {φ φ' : Nat → Option Emb} {e : FEnv} {tmps : Array Value} {n : Nat} (hl : Le φ φ') (h : ER φ e tmps n) : ER φ' e tmps n :=
  ⟨h.size, fun t v hv => let ⟨v', a, b⟩ := h.get t v hv; ⟨v', a, b.mono hl⟩⟩

theorem ER.sub {φ : Nat → Option Emb} {e e' : FEnv} {tmps : Array Value} {n : Nat} (hs : ∀ t v, e' t = some v → e t = some v) (h : ER φ e tmps n) : ER φ e' tmps n :=
  ⟨h.size, fun t v hv => h.get t v (hs t v hv)⟩

section
variable {P : Program}
theorem rTypeInfo {t : TypeId} {i : TypeInfo} (h : P.info? t = some i) (w : World) : (typeInfo t).run P w = .ok i w := by simp [typeInfo, h]
theorem rSizeOf {t : TypeId} {i : TypeInfo} (h : P.info? t = some i) (w : World) : (sizeOf t).run P w = .ok i.size w := by simp [sizeOf, rTypeInfo h]
theorem rZero {t : TypeId} {i : TypeInfo} {z : Value} (h : P.info? t = some i) (hz : i.zero = some z) (w : World) : (zeroValue t).run P w = .ok z w := by simp [zeroValue, rTypeInfo h, hz]
end

/-- How many cells a value of a type has. -/
def szOf (P : Program) (t : TypeId) : Option Nat := (P.info? t).map (·.size)
theorem rSz {P : Program} {t : TypeId} {n : Nat} (h : szOf P t = some n) (w : World) : (sizeOf t).run P w = .ok n w := by
  unfold szOf at h
  cases hi : P.info? t with
  | none => simp [hi] at h
  | some i => simp [hi] at h; subst h; exact rSizeOf hi w

def aggT (P : Program) (t : TypeId) : Option Bool := (P.underlying t).map fun d => match d with | .struct _ | .array _ _ => true | _ => false
theorem rAgg {P : Program} {t : TypeId} {b : Bool} (h : aggT P t = some b) (w : World) : (isAgg t).run P w = .ok b w := by
  unfold aggT at h
  cases hi : P.underlying t with
  | none => simp [hi] at h
  | some d =>
    simp [hi] at h; subst h
    unfold isAgg
    simp only [Sem.run_bind, run_underlying hi, Result.andThen_ok]
    cases d <;> rfl

/-- A part of an aggregate's cells. -/
def aPart (P : Program) (t : TypeId) (cs : Array Value) (off : Nat) : Option Value :=
  match aggT P t, szOf P t with
  | some true, some n => some (.agg (cs.extract off (off + n)))
  | some false, _ => cs[off]?
  | _, _ => none

theorem aPart_sound {P : Program} {φ : Nat → Option Emb} {t : TypeId} {cs cs' : Array Value} {off : Nat} {v : Value} (h : aPart P t cs off = some v)
    (h1 : cs.size = cs'.size) (h2 : ∀ (i : Nat) v v', cs[i]? = some v → cs'[i]? = some v' → VR φ v v') (w : World) :
    ∃ v', (part t cs' off).run P w = .ok v' w ∧ VR φ v v' := by
  unfold aPart at h
  unfold part
  split at h
  · rename_i n ha hs
    cases h
    refine ⟨.agg (cs'.extract off (off + n)), by simp only [Sem.run_bind, rAgg ha, Result.andThen_ok, if_true, rSz hs, Sem.run_pure], .agg (by simp [h1]) ?_⟩
    intro i v v' a b
    rw [Array.getElem?_extract] at a b
    split at a
    · split at b
      · exact h2 _ v v' a b
      · cases b
    · cases a
  · rename_i hn ha
    have hlt : off < cs.size := (Array.getElem?_eq_some_iff.1 h).1
    have hlt' : off < cs'.size := by omega
    refine ⟨cs'[off], ?_, h2 off v _ h (by simp [hlt'])⟩
    simp only [Sem.run_bind, rAgg ha, Result.andThen_ok, Bool.false_eq_true, if_false]
    simp [hlt']
  · cases h

def strOp (op : BinOp) (x y : ByteArray) : Option Value :=
  match op with
  | .add => if ((x.size + y.size : Nat) : Int) > IntKind.i64.max then none else some (.string (x ++ y))
  | .eql => some (.bool (x.toList == y.toList))
  | .neq => some (.bool !(x.toList == y.toList))
  | .lss => some (.bool (Op.bytesLess x.toList y.toList))
  | .leq => some (.bool (Op.bytesLess x.toList y.toList || x.toList == y.toList))
  | .gtr => some (.bool !(Op.bytesLess x.toList y.toList || x.toList == y.toList))
  | .geq => some (.bool !(Op.bytesLess x.toList y.toList))
  | _ => none

def intOp (op : BinOp) (k : IntKind) (a b : Int) : Option Value :=
  match op with
  | .add => some (.int k (k.wrap (a + b)))
  | .sub => some (.int k (k.wrap (a - b)))
  | .mul => some (.int k (k.wrap (a * b)))
  | .quo => if b = 0 then none else some (.int k (k.wrap (a.tdiv b)))
  | .rem => if b = 0 then none else some (.int k (a.tmod b))
  | .and => some (.int k (k.wrap (BitVec.ofInt k.bits a &&& BitVec.ofInt k.bits b).toNat))
  | .or => some (.int k (k.wrap (BitVec.ofInt k.bits a ||| BitVec.ofInt k.bits b).toNat))
  | .xor => some (.int k (k.wrap (BitVec.ofInt k.bits a ^^^ BitVec.ofInt k.bits b).toNat))
  | .andNot => some (.int k (k.wrap (BitVec.ofInt k.bits a &&& ~~~ BitVec.ofInt k.bits b).toNat))
  | .eql => some (.bool (a == b))
  | .neq => some (.bool (a != b))
  | .lss => some (.bool (a < b))
  | .leq => some (.bool (a ≤ b))
  | .gtr => some (.bool (a > b))
  | .geq => some (.bool (a ≥ b))
  | .shl | .shr => none

def shiftOp (op : BinOp) (k : IntKind) (a b : Int) : Option Value :=
  if b < 0 then none else match op with
  | .shl => some (.int k (k.wrap (a * 2 ^ (min b.toNat k.bits))))
  | .shr => some (.int k (a.fdiv (2 ^ (min b.toNat k.bits))))
  | _ => none

/-- Equality where one side is nil, and of bools. -/
def nilEq (d : TypeDesc) (x y : Value) : Option Bool :=
  match d, x, y with
  | .bool, .bool a, .bool b => some (a == b)
  | .pointer _, .pointer none, .pointer b => some b.isNone
  | .pointer _, .pointer (some _), .pointer none => some false
  | .slice _, .slice none _ _, .slice b _ _ => some b.isNone
  | .slice _, .slice (some _) _ _, .slice none _ _ => some false
  | .map _ _, .map none, .map b => some b.isNone
  | .map _ _, .map (some _), .map none => some false
  | .func _ _ _, .nilFunc, .nilFunc => some true
  | .func _ _ _, .nilFunc, .func _ _ _ => some false
  | .func _ _ _, .func _ _ _, .nilFunc => some false
  | .interface _, .nilIface, .iface _ _ => some false
  | .interface _, .iface _ _, .nilIface => some false
  | _, _, _ => none

def aBin (P : Program) (op : BinOp) (t : TypeId) (x y : Value) : Option Value :=
  match x, y with
  | .int k a, .int k' b =>
    if op = .shl ∨ op = .shr then shiftOp op k a b else if k = k' then intOp op k a b else none
  | .string a, .string b => strOp op a b
  | x, y =>
    match op, P.underlying t with
    | .eql, some d => (nilEq d x y).map .bool
    | .neq, some d => (nilEq d x y).map fun b => .bool !b
    | _, _ => none

def aSliceIx (len : Nat) (lo hi : Option Value) : Option (Nat × Nat) :=
  let h : Option Nat := match hi with
    | none => some len
    | some (.int _ n) => if 0 ≤ n ∧ n ≤ len then some n.toNat else none
    | _ => none
  h.bind fun h => match lo with
    | none => some (0, h)
    | some (.int _ n) => if 0 ≤ n ∧ n ≤ h then some (n.toNat, h) else none
    | _ => none

def optV (e : FEnv) : Option Operand → Option (Option Value)
  | none => some none
  | some x => (evO e x).map some

/-- An array of operands, each of which has a value. -/
def evAll (e : FEnv) (l : List Operand) : Option (List Value) :=
  match l with
  | [] => some []
  | x :: r => match evO e x, evAll e r with
    | some v, some vs => some (v :: vs)
    | _, _ => none

def evParts (e : FEnv) (l : List (Nat × Operand)) : Option (List (Nat × Value)) :=
  match l with
  | [] => some []
  | (i, x) :: r => match evO e x, evParts e r with
    | some v, some vs => some ((i, v) :: vs)
    | _, _ => none

/-- What an operation comes to that touches no memory. -/
def aPure (P : Program) (op : Op) (e : FEnv) : Option Value :=
  match op with
  | .move x => evO e x
  | .assign x => evO e x
  | .pick c a b => match evO e c with
    | some (.bool true) => evO e a
    | some (.bool false) => evO e b
    | _ => none
  | .nilCheck x => match evO e x with
    | some (.pointer (some a)) => some (.pointer (some a))
    | some (.func (.func f) a c) => some (.func (.func f) a c)
    | _ => none
  | .binOp op t x y _ => match evO e x, evO e y with
    | some a, some b => aBin P op t a b
    | _, _ => none
  | .unOp op _ x => match op, evO e x with
    | .not, some (.bool b) => some (.bool !b)
    | .neg, some (.int k n) => some (.int k (k.wrap (0 - n)))
    | _, _ => none
  | .convert src dst x => match P.underlying src, P.underlying dst, evO e x with
    | some _, some (.int k), some (.int _ n) => some (.int k (k.wrap n))
    | some _, some .string, some (.string s) => some (.string s)
    | _, _, _ => none
  | .slice t x lo hi none => match P.underlying t, evO e x, optV e lo, optV e hi with
    | some (.slice el), some (.slice none 0 0), some l, some h => (match aSliceIx 0 l h, szOf P el with
      | some _, some _ => some (.slice none 0 0)
      | _, _ => none)
    | some (.slice el), some (.slice (some ⟨i, off, none⟩) len esz), some l, some h => (match aSliceIx len l h, szOf P el with
      | some (l, h), some n => if n = esz then some (.slice (some ⟨i, off + l * esz, none⟩) (h - l) esz) else none
      | _, _ => none)
    | some .string, some (.string s), some l, some h => (match aSliceIx s.size l h with
      | some (l, h) => some (.string (s.extract l h))
      | none => none)
    | _, _, _, _ => none
  | .fieldAddr t x f => match P.underlying t, evO e x with
    | some (.struct fs), some (.pointer (some ⟨i, off, none⟩)) => (match fs[f]? with
      | some fd => (match szOf P fd.type with
        | some (_ + 1) => some (.pointer (some ⟨i, off + fd.offset, none⟩))
        | _ => none)
      | none => none)
    | _, _ => none
  | .field t x f => match P.underlying t, evO e x with
    | some (.struct fs), some (.agg cs) => (match fs[f]? with
      | some fd => aPart P fd.type cs fd.offset
      | none => none)
    | _, _ => none
  | .indexAddr t x ix => match P.underlying t, evO e x, evO e ix with
    | some (.slice el), some (.slice (some ⟨i, off, none⟩) len _), some (.int _ n) =>
      if 0 ≤ n ∧ n < len then (match szOf P el with
        | some m => some (.pointer (some ⟨i, off + n.toNat * m, none⟩))
        | none => none) else none
    | some (.array len el), some (.pointer (some ⟨i, off, none⟩)), some (.int _ n) =>
      if 0 ≤ n ∧ n < len then (match szOf P el with
        | some m => some (.pointer (some ⟨i, off + n.toNat * m, none⟩))
        | none => none) else none
    | _, _, _ => none
  | .index t x ix => match P.underlying t, evO e x, evO e ix with
    | some .string, some (.string s), some (.int _ n) => if 0 ≤ n then (match s[n.toNat]? with
      | some b => some (.int .u8 b.toNat)
      | none => none) else none
    | some (.array len el), some (.agg cs), some (.int _ n) => if 0 ≤ n ∧ n < len then (match szOf P el with
      | some m => aPart P el cs (n.toNat * m)
      | none => none) else none
    | _, _, _ => none
  | .extract x i => match evO e x with
    | some (.tuple vs) => vs[i]?
    | _ => none
  | .makeFunc fn first cap => match evAll e first.toList, evAll e cap.toList with
    | some a, some b => some (.func fn a.toArray b.toArray)
    | _, _ => none
  | .makeInterface t x => match P.underlying t, evO e x with
    | some (.interface _), _ => none
    | some _, some v => some (.iface t v)
    | _, _ => none
  | .build t parts => match P.info? t, P.underlying t, evParts e parts.toList with
    | some i, some (.struct fs), some ps => (match i.zero, (fs.toList.map fun f => szOf P f.type).all Option.isSome with
      | some z, true => if plainN 6 z then (match Instr.fill (fun k => (fs[k]?).map fun f => (f.offset, (szOf P f.type).getD 0)) z.cells ps with
        | some cs => some (.agg cs)
        | none => none) else none
      | _, _ => none)
    | _, _, _ => none
  | .call c => match c.callee, c.args.toList with
    | .builtin .len, [x] => (match (c.argTypes[0]?).bind P.underlying, evO e x with
      | some .string, some (.string s) => some (.int .i64 s.size)
      | some (.slice _), some (.slice _ n _) => some (.int .i64 n)
      | _, _ => none)
    | .builtin .min, [x, y] => (match evO e x, evO e y with
      | some (.int k a), some (.int _ b) => some (.int k (if b < a then b else a))
      | _, _ => none)
    | .builtin .max, [x, y] => (match evO e x, evO e y with
      | some (.int k a), some (.int _ b) => some (.int k (if b > a then b else a))
      | _, _ => none)
    | _, _ => none
  | _ => none

end Go.Proofs.Ytbcgcnmnblfhmaa.Lin
