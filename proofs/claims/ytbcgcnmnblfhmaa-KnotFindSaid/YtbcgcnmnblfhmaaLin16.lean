/- How a walk goes on: one rule an operation, for simp. -/
import Derived.Test.YtbcgcnmnblfhmaaLin15
namespace Go.Proofs.Ytbcgcnmnblfhmaa.Lin
variable {P : Program}

/-- With the value that there is. -/
def W1 (x : Option Value) (K : Value → Prop) : Prop := ∃ v, x = some v ∧ K v
@[congr] theorem W1_congr {x x' : Option Value} {K : Value → Prop} (h : x = x') : W1 x K = W1 x' K := by rw [h]
theorem W1_some (v : Value) (K : Value → Prop) : W1 (some v) K = K v := by simp [W1]

/-- With the value, and the heap, that there are. -/
def W2 (x : Option (Value × AHeap)) (K : Value → AHeap → Prop) : Prop := ∃ v h, x = some (v, h) ∧ K v h
@[congr] theorem W2_congr {x x' : Option (Value × AHeap)} {K : Value → AHeap → Prop} (h : x = x') : W2 x K = W2 x' K := by rw [h]
theorem W2_some (v : Value) (h : AHeap) (K : Value → AHeap → Prop) : W2 (some (v, h)) K = K v h := by
  unfold W2
  apply propext
  constructor
  · rintro ⟨v', h', e, k⟩; cases e; exact k
  · exact fun k => ⟨v, h, rfl, k⟩

/-- With the new object that there is. -/
def W3 (x : Option (AObj × (Nat → Value))) (id : Nat) (h : AHeap) (K : Value → AHeap → Prop) : Prop := ∃ ob mk, x = some (ob, mk) ∧ (h.obj id = none → K (mk id) (h.put id ob))
@[congr] theorem W3_congr {x x' : Option (AObj × (Nat → Value))} {id : Nat} {h : AHeap} {K : Value → AHeap → Prop} (e : x = x') : W3 x id h K = W3 x' id h K := by rw [e]
theorem W3_some {ob : AObj} {mk : Nat → Value} {id : Nat} {h : AHeap} {K : Value → AHeap → Prop} (k : h.obj id = none → K (mk id) (h.put id ob)) : W3 (some (ob, mk)) id h K := ⟨ob, mk, rfl, k⟩

theorem W3_eq (ob : AObj) (mk : Nat → Value) (id : Nat) (h : AHeap) (K : Value → AHeap → Prop) : W3 (some (ob, mk)) id h K = (h.obj id = none → K (mk id) (h.put id ob)) := by
  unfold W3
  apply propext
  constructor
  · rintro ⟨ob', mk', e, k⟩; cases e; exact k
  · exact fun k => ⟨ob, mk, rfl, k⟩

/-- By a test's outcome. -/
def WB (x : Option Bool) (K1 K0 : Prop) : Prop := (x = some true ∧ K1) ∨ (x = some false ∧ K0)
@[congr] theorem WB_congr {x x' : Option Bool} {K1 K0 : Prop} (h : x = x') : WB x K1 K0 = WB x' K1 K0 := by rw [h]
theorem WB_true (K1 K0 : Prop) : WB (some true) K1 K0 = K1 := by simp [WB]
theorem WB_false (K1 K0 : Prop) : WB (some false) K1 K0 = K0 := by simp [WB]
theorem WB_some (b : Bool) (K1 K0 : Prop) : WB (some b) K1 K0 = if b = true then K1 else K0 := by cases b <;> simp [WB]

section
variable {base i : Nat} {d : Option Tmp} {op : Op} {g : Tmp × Bool} {pend : List SOp} {r : Path} {K : FEnv → AHeap → Prop} {e : FEnv} {h : AHeap}

theorem run_nil : runP P base [] K e h = K e h := (rfl)

theorem run_pure (hc : clsOf P op = .P) : runP P base ((⟨i, d, op, none⟩, []) :: r) K e h = W1 (aPure P op e) (fun v => runP P base r K (e.put d v) h) := by
  show stepP _ _ _ _ _ _ _ = _
  simp only [stepP, wantedS, opP, hc, W1, List.not_mem_nil, false_implies, implies_true, true_and]

theorem run_read (hc : clsOf P op = .R) : runP P base ((⟨i, d, op, none⟩, []) :: r) K e h = W1 (aRead P op e h) (fun v => runP P base r K (e.put d v) h) := by
  show stepP _ _ _ _ _ _ _ = _
  simp only [stepP, wantedS, opP, hc, W1, List.not_mem_nil, false_implies, implies_true, true_and]

theorem run_alloc (hc : clsOf P op = .A) : runP P base ((⟨i, d, op, none⟩, []) :: r) K e h = W3 (aAlloc P op e) (base + i) h (fun v h' => runP P base r K (e.put d v) h') := by
  show stepP _ _ _ _ _ _ _ = _
  simp only [stepP, wantedS, opP, hc, W3, List.not_mem_nil, false_implies, implies_true, true_and]

theorem run_eff (hc : clsOf P op = .E) (hn : callOf op e = none) : runP P base ((⟨i, d, op, none⟩, pend) :: r) K e h =
    W2 (aEff P op e (base + i) h) (fun v h' => (∀ q ∈ pend, reread P q (e.put d v) h') ∧ runP P base r K (e.put d v) h') := by
  show stepP _ _ _ _ _ _ _ = _
  simp only [stepP, wantedS, opP, hc, W2, hn]

theorem run_call {f : FuncId} {args : List Value} (hc : clsOf P op = .E) (hn : callOf op e = some (f, args)) : runP P base ((⟨i, d, op, none⟩, pend) :: r) K e h =
    ACallW P f args h (fun v h' => (∀ q ∈ pend, reread P q (e.put d v) h') ∧ runP P base r K (e.put d v) h') := by
  show stepP _ _ _ _ _ _ _ = _
  simp only [stepP, wantedS, opP, hc, hn]

/-- A guarded operation. -/
theorem run_guard : runP P base ((⟨i, d, op, some g⟩, pend) :: r) K e h =
    WB (wantedS (some g) e) (runP P base ((⟨i, d, op, none⟩, pend) :: r) K e h) (runP P base r K (e.put d undef) h) := by
  show stepP _ _ _ _ _ _ _ = _
  unfold stepP WB
  cases hw : wantedS (some g) e with
  | none => simp
  | some b =>
    cases b with
    | true =>
      apply propext
      simp only [Option.some.injEq, Bool.true_eq_false, false_and, or_false, true_and]
      rfl
    | false =>
      apply propext
      simp only [Option.some.injEq, Bool.false_eq_true, false_and, false_or, true_and]
end

section
variable {base i : Nat} {d : Option Tmp} {op : Op} {g : Tmp × Bool} {pend : List SOp} {r : Path} {K : FEnv → AHeap → Prop} {e : FEnv} {h : AHeap}
theorem run_guard1 (hw : wantedS (some g) e = some true) : runP P base ((⟨i, d, op, some g⟩, pend) :: r) K e h = runP P base ((⟨i, d, op, none⟩, pend) :: r) K e h := by
  rw [run_guard, hw, WB_true]
theorem run_guard0 (hw : wantedS (some g) e = some false) : runP P base ((⟨i, d, op, some g⟩, pend) :: r) K e h = runP P base r K (e.put d undef) h := by
  rw [run_guard, hw, WB_false]
end

theorem put_look (e : FEnv) (d t : Tmp) (v : Value) : (FEnv.put e (some d) v) t = if t = d then some v else e t := (rfl)
theorem put_none (e : FEnv) (v : Value) : FEnv.put e none v = e := (rfl)
theorem evO_tmp (e : FEnv) (t : Tmp) : evO e (.tmp t) = e t := (rfl)
theorem evO_int (e : FEnv) (k : IntKind) (n : Int) : evO e (.const (.int k n)) = some (.int k n) := (rfl)
theorem evO_bool (e : FEnv) (b : Bool) : evO e (.const (.bool b)) = some (.bool b) := (rfl)
theorem evO_string (e : FEnv) (s : ByteArray) : evO e (.const (.string s)) = some (.string s) := (rfl)
theorem evO_slice (e : FEnv) : evO e (.const (.slice none 0 0)) = some (.slice none 0 0) := (rfl)
theorem evO_ptr (e : FEnv) : evO e (.const (.pointer none)) = some (.pointer none) := (rfl)
theorem evO_func (e : FEnv) (f : FuncId) : evO e (.func f) = some (.func (.func f) #[] #[]) := (rfl)
theorem envF_cons (t s : Tmp) (v : Value) (r : Env) : envF ((s, v) :: r) t = if t = s then some v else envF r t := by
  unfold envF
  rw [List.lookup_cons]
  by_cases h : t = s
  · subst h; simp
  · have : (t == s) = false := by simpa using h
    rw [this, if_neg h]
theorem envF_nil (t : Tmp) : envF [] t = none := (rfl)

/-- A list of slots has what another one has. -/
def Covers (env env' : Env) : Prop := ∀ p ∈ env', envF env p.1 = some p.2

theorem Covers.sub {env env' : Env} (h : Covers env env') : ∀ t v, envF env' t = some v → envF env t = some v := by
  intro t v hv
  induction env' with
  | nil => simp [envF_nil] at hv
  | cons p r ih =>
    obtain ⟨s, u⟩ := p
    rw [envF_cons] at hv
    split at hv
    · rename_i hs
      subst hs
      cases hv
      exact h (t, v) (by simp)
    · exact ih (fun q hq => h q (by simp [hq])) hv

theorem sw_covers {n : Nat} {s : SCode} {env env' : Env} {h : AHeap} {Q : Exit → Env → AHeap → Prop} (hc : Covers env env') (a : SW P n s env' h Q) : SW P n s env h Q := a.sub hc.sub

/-- A loop, by what its slots and its heap are at each round's begin: told by a ghost. -/
theorem sw_loopG {n : Nat} {α : Type} {a : SCode} {env : Env} {h : AHeap} {Q : Exit → Env → AHeap → Prop} (E : α → Env) (H : α → AHeap → Prop) (μ : α → Nat) (x0 : α) (h0 : Covers env (E x0)) (h1 : H x0 h)
    (round : ∀ x h, H x h → SW P n a (E x) h (thenX (fun e h' => ∃ x', Covers e (E x') ∧ H x' h' ∧ μ x' < μ x) Q)) : SW P n (.loop a) env h Q :=
  sw_loopG0 E H μ x0 h0.sub h1 (fun x h hI => (round x h hI).mono (fun ex e h' q => by cases ex <;> first | (obtain ⟨x', a, b, c⟩ := q; exact ⟨x', a.sub, b, c⟩) | exact q))

section
variable (P : Program) (e : FEnv) (h : AHeap)
@[simp] theorem cls_move (x : Operand) : clsOf P (.move x) = .P := (rfl)
@[simp] theorem cls_assign (x : Operand) : clsOf P (.assign x) = .P := (rfl)
@[simp] theorem cls_pick (c x y : Operand) : clsOf P (.pick c x y) = .P := (rfl)
@[simp] theorem cls_nilCheck (x : Operand) : clsOf P (.nilCheck x) = .P := (rfl)
@[simp] theorem cls_binOp (o : BinOp) (t u : TypeId) (x y : Operand) : clsOf P (.binOp o t x y u) = .P := (rfl)
@[simp] theorem cls_unOp (o : UnOp) (t : TypeId) (x : Operand) : clsOf P (.unOp o t x) = .P := (rfl)
@[simp] theorem cls_convert (s t : TypeId) (x : Operand) : clsOf P (.convert s t x) = .P := (rfl)
@[simp] theorem cls_slice (t : TypeId) (x : Operand) (a b c : Option Operand) : clsOf P (.slice t x a b c) = .P := (rfl)
@[simp] theorem cls_fieldAddr (t : TypeId) (x : Operand) (f : Nat) : clsOf P (.fieldAddr t x f) = .P := (rfl)
@[simp] theorem cls_field (t : TypeId) (x : Operand) (f : Nat) : clsOf P (.field t x f) = .P := (rfl)
@[simp] theorem cls_indexAddr (t : TypeId) (x i : Operand) : clsOf P (.indexAddr t x i) = .P := (rfl)
@[simp] theorem cls_index (t : TypeId) (x i : Operand) : clsOf P (.index t x i) = .P := (rfl)
@[simp] theorem cls_extract (x : Operand) (i : Nat) : clsOf P (.extract x i) = .P := (rfl)
@[simp] theorem cls_makeFunc (f : Fn) (a b : Array Operand) : clsOf P (.makeFunc f a b) = .P := (rfl)
@[simp] theorem cls_makeInterface (t : TypeId) (x : Operand) : clsOf P (.makeInterface t x) = .P := (rfl)
@[simp] theorem cls_build (t : TypeId) (p : Array (Nat × Operand)) : clsOf P (.build t p) = .P := (rfl)
@[simp] theorem cls_load (t : TypeId) (x : Operand) : clsOf P (.load t x) = .R := (rfl)
@[simp] theorem cls_lookup (t : TypeId) (x k : Operand) (b : Bool) : clsOf P (.lookup t x k b) = .R := (rfl)
@[simp] theorem cls_alloc (t : TypeId) : clsOf P (.alloc t) = .A := (rfl)
@[simp] theorem cls_box (t : TypeId) (x : Operand) : clsOf P (.box t x) = .A := (rfl)
@[simp] theorem cls_buildSlice (t : TypeId) (n : Nat) (p : Array (Nat × Operand)) : clsOf P (.buildSlice t n p) = .A := (rfl)
@[simp] theorem cls_makeSlice (t : TypeId) (x y : Operand) : clsOf P (.makeSlice t x y) = .A := (rfl)
@[simp] theorem cls_makeMap (t : TypeId) (x : Option Operand) : clsOf P (.makeMap t x) = .A := (rfl)
@[simp] theorem cls_store (t : TypeId) (x y : Operand) : clsOf P (.store t x y) = .E := (rfl)
@[simp] theorem cls_mapUpdate (t : TypeId) (x y z : Operand) : clsOf P (.mapUpdate t x y z) = .E := (rfl)
@[simp] theorem cls_insert (t : TypeId) (x y z : Operand) : clsOf P (.insert t x y z) = .E := (rfl)
@[simp] theorem cls_append (a : Array Operand) (t : Array TypeId) : clsOf P (.call { callee := .builtin .append, args := a, argTypes := t }) = .E := (rfl)
@[simp] theorem cls_copy (a : Array Operand) (t : Array TypeId) : clsOf P (.call { callee := .builtin .copy, args := a, argTypes := t }) = .E := (rfl)
@[simp] theorem cls_min (a : Array Operand) (t : Array TypeId) : clsOf P (.call { callee := .builtin .min, args := a, argTypes := t }) = .P := (rfl)
@[simp] theorem cls_max (a : Array Operand) (t : Array TypeId) : clsOf P (.call { callee := .builtin .max, args := a, argTypes := t }) = .P := (rfl)
@[simp] theorem cls_value (f : Operand) (a : Array Operand) (t : Array TypeId) : clsOf P (.call { callee := .value f, args := a, argTypes := t }) = .E := (rfl)
theorem cls_len {t : TypeId} {a : Array Operand} {d : TypeDesc} (hu : P.underlying t = some d) (hd : (match d with | .map _ _ => false | _ => true) = true) : clsOf P (.call { callee := .builtin .len, args := a, argTypes := #[t] }) = .P := by
  simp only [clsOf, List.getElem?_toArray, List.getElem?_cons_zero, Option.bind_some, hu]
  cases d <;> first | rfl | (simp at hd)
@[simp] theorem call_store (t : TypeId) (x y : Operand) : callOf (.store t x y) e = none := (rfl)
@[simp] theorem call_mapUpdate (t : TypeId) (x y z : Operand) : callOf (.mapUpdate t x y z) e = none := (rfl)
@[simp] theorem call_insert (t : TypeId) (x y z : Operand) : callOf (.insert t x y z) e = none := (rfl)
@[simp] theorem call_builtin (b : Builtin) (a : Array Operand) (t : Array TypeId) : callOf (.call { callee := .builtin b, args := a, argTypes := t }) e = none := (rfl)

theorem pu_move (x : Operand) : aPure P (.move x) e = evO e x := (rfl)
theorem pu_assign (x : Operand) : aPure P (.assign x) e = evO e x := (rfl)
theorem pu_pick (c x y : Operand) : aPure P (.pick c x y) e = (match evO e c with
    | some (.bool b) => if b = true then evO e x else evO e y
    | _ => none) := by
  simp only [aPure]
  split <;> first | rfl | (split <;> simp_all)
theorem pu_nilCheck (x : Operand) : aPure P (.nilCheck x) e = (match evO e x with
    | some (.pointer (some a)) => some (.pointer (some a))
    | some (.func (.func f) a c) => some (.func (.func f) a c)
    | _ => none) := (rfl)
theorem pu_bin (o : BinOp) (t u : TypeId) (x y : Operand) : aPure P (.binOp o t x y u) e = (match evO e x, evO e y with
    | some a, some b => aBin P o t a b
    | _, _ => none) := (rfl)
theorem bin_int (o : BinOp) (t : TypeId) (k k' : IntKind) (a b : Int) : aBin P o t (.int k a) (.int k' b) = if o = .shl ∨ o = .shr then shiftOp o k a b else if k = k' then intOp o k a b else none := (rfl)
theorem bin_string (o : BinOp) (t : TypeId) (a b : ByteArray) : aBin P o t (.string a) (.string b) = strOp o a b := (rfl)
theorem bin_bool (t : TypeId) (a b : Bool) (ht : P.underlying t = some .bool) : aBin P .eql t (.bool a) (.bool b) = some (.bool (a == b)) := by simp only [aBin, ht, nilEq, Option.map_some]
theorem bin_bool' (t : TypeId) (a b : Bool) (ht : P.underlying t = some .bool) : aBin P .neq t (.bool a) (.bool b) = some (.bool !(a == b)) := by simp only [aBin, ht, nilEq, Option.map_some]
theorem io_add (k : IntKind) (a b : Int) : intOp .add k a b = some (.int k (k.wrap (a + b))) := (rfl)
theorem io_sub (k : IntKind) (a b : Int) : intOp .sub k a b = some (.int k (k.wrap (a - b))) := (rfl)
theorem io_mul (k : IntKind) (a b : Int) : intOp .mul k a b = some (.int k (k.wrap (a * b))) := (rfl)
theorem io_quo (k : IntKind) (a b : Int) : intOp .quo k a b = if b = 0 then none else some (.int k (k.wrap (a.tdiv b))) := (rfl)
theorem io_rem (k : IntKind) (a b : Int) : intOp .rem k a b = if b = 0 then none else some (.int k (a.tmod b)) := (rfl)
theorem io_eql (k : IntKind) (a b : Int) : intOp .eql k a b = some (.bool (a == b)) := (rfl)
theorem io_neq (k : IntKind) (a b : Int) : intOp .neq k a b = some (.bool (a != b)) := (rfl)
theorem io_lss (k : IntKind) (a b : Int) : intOp .lss k a b = some (.bool (decide (a < b))) := (rfl)
theorem io_leq (k : IntKind) (a b : Int) : intOp .leq k a b = some (.bool (decide (a ≤ b))) := (rfl)
theorem io_gtr (k : IntKind) (a b : Int) : intOp .gtr k a b = some (.bool (decide (a > b))) := (rfl)
theorem io_geq (k : IntKind) (a b : Int) : intOp .geq k a b = some (.bool (decide (a ≥ b))) := (rfl)
theorem pu_not (t : TypeId) (x : Operand) : aPure P (.unOp .not t x) e = (match evO e x with
    | some (.bool b) => some (.bool !b)
    | _ => none) := by
  simp only [aPure]
  generalize evO e x = q
  cases q with
  | none => rfl
  | some v => cases v <;> rfl
theorem pu_convert (s t : TypeId) (x : Operand) : aPure P (.convert s t x) e = (match P.underlying s, P.underlying t, evO e x with
    | some _, some (.int k), some (.int _ n) => some (.int k (k.wrap n))
    | some _, some .string, some (.string s) => some (.string s)
    | _, _, _ => none) := (rfl)
theorem pu_fieldAddr (t : TypeId) (x : Operand) (f : Nat) : aPure P (.fieldAddr t x f) e = (match P.underlying t, evO e x with
    | some (.struct fs), some (.pointer (some ⟨i, off, none⟩)) => (match fs[f]? with
      | some fd => (match szOf P fd.type with
        | some (_ + 1) => some (.pointer (some ⟨i, off + fd.offset, none⟩))
        | _ => none)
      | none => none)
    | _, _ => none) := (rfl)
theorem pu_field (t : TypeId) (x : Operand) (f : Nat) : aPure P (.field t x f) e = (match P.underlying t, evO e x with
    | some (.struct fs), some (.agg cs) => (match fs[f]? with
      | some fd => aPart P fd.type cs fd.offset
      | none => none)
    | _, _ => none) := (rfl)
theorem pu_indexAddr (t : TypeId) (x ix : Operand) : aPure P (.indexAddr t x ix) e = (match P.underlying t, evO e x, evO e ix with
    | some (.slice el), some (.slice (some ⟨i, off, none⟩) len _), some (.int _ n) =>
      if 0 ≤ n ∧ n < len then (match szOf P el with
        | some m => some (.pointer (some ⟨i, off + n.toNat * m, none⟩))
        | none => none) else none
    | some (.array len el), some (.pointer (some ⟨i, off, none⟩)), some (.int _ n) =>
      if 0 ≤ n ∧ n < len then (match szOf P el with
        | some m => some (.pointer (some ⟨i, off + n.toNat * m, none⟩))
        | none => none) else none
    | _, _, _ => none) := (rfl)
theorem pu_len (x : Operand) (t : TypeId) : aPure P (.call { callee := .builtin .len, args := #[x], argTypes := #[t] }) e = (match P.underlying t, evO e x with
      | some .string, some (.string s) => some (.int .i64 s.size)
      | some (.slice _), some (.slice _ n _) => some (.int .i64 n)
      | _, _ => none) := (rfl)
theorem pu_min (x y : Operand) (t : Array TypeId) : aPure P (.call { callee := .builtin .min, args := #[x, y], argTypes := t }) e = (match evO e x, evO e y with
      | some (.int k a), some (.int _ b) => some (.int k (if b < a then b else a))
      | _, _ => none) := (rfl)
theorem pu_max (x y : Operand) (t : Array TypeId) : aPure P (.call { callee := .builtin .max, args := #[x, y], argTypes := t }) e = (match evO e x, evO e y with
      | some (.int k a), some (.int _ b) => some (.int k (if b > a then b else a))
      | _, _ => none) := (rfl)
theorem pu_extract (x : Operand) (i : Nat) : aPure P (.extract x i) e = (match evO e x with
    | some (.tuple vs) => vs[i]?
    | _ => none) := (rfl)
theorem pu_slice (t : TypeId) (x : Operand) (lo hi : Option Operand) : aPure P (.slice t x lo hi none) e = (match P.underlying t, evO e x, optV e lo, optV e hi with
    | some (.slice el), some (.slice none 0 0), some l, some h => (match aSliceIx 0 l h, szOf P el with
      | some _, some _ => some (.slice none 0 0)
      | _, _ => none)
    | some (.slice el), some (.slice (some ⟨i, off, none⟩) len esz), some l, some h => (match aSliceIx len l h, szOf P el with
      | some (l, h), some n => if n = esz then some (.slice (some ⟨i, off + l * esz, none⟩) (h - l) esz) else none
      | _, _ => none)
    | some .string, some (.string s), some l, some h => (match aSliceIx s.size l h with
      | some (l, h) => some (.string (s.extract l h))
      | none => none)
    | _, _, _, _ => none) := (rfl)
theorem rd_load (t : TypeId) (x : Operand) : aRead P (.load t x) e h = (match evO e x with
    | some (.pointer (some ⟨i, off, none⟩)) => (match h.obj i with
      | some (.arr _ _ c) => aLoad P t c off
      | _ => none)
    | _ => none) := (rfl)
theorem ld_eq (t : TypeId) (c : List Value) (off : Nat) : aLoad P t c off = (match aggT P t with
  | some true => (match szOf P t with
    | some n => if off + n ≤ c.length then some (.agg ((c.drop off).take n).toArray) else none
    | none => none)
  | some false => c[off]?
  | none => none) := (rfl)
theorem ef_store (t : TypeId) (x y : Operand) (id : Nat) : aEff P (.store t x y) e id h = (match evO e x, evO e y with
    | some (.pointer (some ⟨i, off, none⟩)), some v => (match h.obj i with
      | some (.arr true ty c) => if szOf P t = some v.cells.size ∧ 0 < v.cells.size ∧ off + v.cells.size ≤ c.length ∧ oneAll v.cells.toList = true then
          some (undef, h.put i (.arr true ty (setCells c off v.cells.toList))) else none
      | _ => none)
    | _, _ => none) := (rfl)
theorem ef_append (x y : Operand) (t u : TypeId) (id : Nat) : aEff P (.call { callee := .builtin .append, args := #[x, y], argTypes := #[t, u] }) e id h = (match P.underlying t, P.underlying u, evO e x, evO e y with
      | some (.slice el), some d, some s, some z => (match P.info? el with
        | some i => (match i.zero with
          | some zv => if srcOk d && decide (0 < i.size) && decide (0 < i.bytes) && zv.cells.size == i.size then
              (match aSrc h i.size z with
              | some (news, m) => if (decide (m = 0)) then (match s with
                  | .slice none 0 0 => some (s, h)
                  | .slice (some ⟨_, _, none⟩) _ _ => some (s, h)
                  | _ => none)
                else (match s with
                  | .slice none 0 0 => if m * i.bytes ≤ 140737488355328 then
                      some (.slice (some ⟨id, 0, none⟩) m i.size, h.put id (.arr true el news)) else none
                  | .slice (some ⟨j, off, none⟩) len esz => (match h.obj j with
                    | some (.arr true ty c) => if esz = i.size ∧ ty = el ∧ off + len * i.size ≤ c.length ∧ (len + m) * i.bytes ≤ 140737488355328 then
                        some (.slice (some ⟨id, 0, none⟩) (len + m) i.size, (h.del j).put id (.arr true el ((c.drop off).take (len * i.size) ++ news))) else none
                    | _ => none)
                  | _ => none)
              | none => none) else none
          | none => none)
        | none => none)
      | _, _, _, _ => none) := (rfl)
theorem pu_build (t : TypeId) (parts : Array (Nat × Operand)) : aPure P (.build t parts) e = (match P.info? t, P.underlying t, evParts e parts.toList with
    | some i, some (.struct fs), some ps => (match i.zero, (fs.toList.map fun f => szOf P f.type).all Option.isSome with
      | some z, true => if plainN 6 z then (match Instr.fill (fun k => (fs[k]?).map fun f => (f.offset, (szOf P f.type).getD 0)) z.cells ps with
        | some cs => some (.agg cs)
        | none => none) else none
      | _, _ => none)
    | _, _, _ => none) := (rfl)
theorem parts_nil : evParts e [] = some [] := (rfl)
theorem parts_cons (i : Nat) (x : Operand) (r : List (Nat × Operand)) : evParts e ((i, x) :: r) = (match evO e x, evParts e r with
    | some v, some vs => some ((i, v) :: vs)
    | _, _ => none) := (rfl)
theorem all_nil : evAll e [] = some [] := (rfl)
theorem all_cons (x : Operand) (r : List Operand) : evAll e (x :: r) = (match evO e x, evAll e r with
    | some v, some vs => some (v :: vs)
    | _, _ => none) := (rfl)
theorem al_box (t : TypeId) (x : Operand) : aAlloc P (.box t x) e = (match evO e x with
    | some v => if oneAll v.cells.toList then some (.arr true t v.cells.toList, fun id => .pointer (some ⟨id, 0, none⟩)) else none
    | none => none) := (rfl)
theorem al_makeSlice (t : TypeId) (l c : Operand) : aAlloc P (.makeSlice t l c) e = (match P.underlying t, evO e l, evO e c with
    | some (.slice el), some (.int _ l), some (.int _ c) => (match P.info? el with
      | some i => (match i.zero with
        | some z => if plainN 6 z && oneAll z.cells.toList && i.size == z.cells.size && decide (0 < i.size) && decide (0 ≤ l) && decide (l ≤ c) && decide ((i.bytes : Int) * c ≤ 281474976710656) && decide (c ≤ 9223372036854775807) then
            some (.arr true el (List.replicate c.toNat z.cells.toList).flatten, fun id => .slice (some ⟨id, 0, none⟩) l.toNat i.size) else none
        | none => none)
      | none => none)
    | _, _, _ => none) := (rfl)
/-- The parts of a row, in their order. -/
def ixOk : Nat → List (Nat × Operand) → Bool
  | _, [] => true
  | k, (i, _) :: r => (i == k) && ixOk (k + 1) r
theorem ixOk_nil (k : Nat) : ixOk k [] = true := (rfl)
theorem ixOk_cons (k i : Nat) (x : Operand) (r : List (Nat × Operand)) : ixOk k ((i, x) :: r) = ((i == k) && ixOk (k + 1) r) := (rfl)

theorem fold_set (off : Nat) : ∀ (l : List Value) (k : Nat) (cs : Array Value), ((l.zipIdx k).foldl (fun (cs : Array Value) (p : Value × Nat) => cs.setIfInBounds (off + p.2) p.1) cs).toList = setCells cs.toList (off + k) l
  | [], _, _ => rfl
  | v :: r, k, cs => by
    rw [List.zipIdx_cons, List.foldl_cons, fold_set off r (k + 1)]
    show setCells (cs.setIfInBounds (off + k) v).toList _ r = setCells (cs.toList.set (off + k) v) (off + k + 1) r
    rw [Array.toList_setIfInBounds]; rfl

theorem setCells_app : ∀ (l a b c : List Value), b.length = l.length → setCells (a ++ (b ++ c)) a.length l = a ++ (l ++ c)
  | [], a, b, c, h => by
    have : b = [] := List.length_eq_zero_iff.1 h
    subst this; rfl
  | v :: l, a, [], c, h => by cases h
  | v :: l, a, x :: b, c, h => by
    have := setCells_app l (a ++ [v]) b c (by simpa using h)
    show setCells ((a ++ (x :: b ++ c)).set a.length v) (a.length + 1) l = _
    rw [List.length_append] at this
    simpa using this

theorem fill_row {m : Nat} {vs : List Value} : ∀ {k : Nat} {done zs : List Value} {cells : Array Value}, cells.toList = done ++ zs → done.length = k * m → zs.length = vs.length * m →
    (∀ v ∈ vs, v.cells.size = m) → Instr.fill (fun k => some (k * m, m)) cells ((List.range' k vs.length).zip vs) = some (done ++ vs.flatMap (·.cells.toList)).toArray := by
  induction vs with
  | nil =>
    intro k done zs cells hc hd hz hv
    have : zs = [] := List.length_eq_zero_iff.1 (by simpa using hz)
    subst this
    simp only [List.length_nil, List.range'_zero, List.zip_nil_left, Instr.fill, List.flatMap_nil, List.append_nil] at hc ⊢
    rw [← hc]
  | cons v vs ih =>
    intro k done zs cells hc hd hz hv
    have hvm := hv v (by simp)
    have hzl : zs = zs.take m ++ zs.drop m := (List.take_append_drop m zs).symm
    have hz1 : m ≤ zs.length := by rw [hz, List.length_cons, Nat.succ_mul]; omega
    have hcs : cells.size = done.length + zs.length := by rw [← Array.length_toList, hc, List.length_append]
    simp only [List.length_cons, List.range'_succ, List.zip_cons_cons, Instr.fill]
    rw [if_neg (by rw [hvm, hcs, hd]; simp; omega)]
    have e1 : (Array.foldl (fun (cs : Array Value) (x : Value × Nat) => cs.setIfInBounds (k * m + x.2) x.1) cells v.cells.zipIdx).toList = (done ++ v.cells.toList) ++ zs.drop m := by
      rw [← Array.foldl_toList, Array.toList_zipIdx, fold_set, hc]
      conv => lhs; rw [hzl]
      rw [← hd, Nat.add_zero, setCells_app _ _ _ _ (by rw [List.length_take, Nat.min_eq_left hz1, Array.length_toList, hvm]), List.append_assoc]
    refine (ih (k := k + 1) e1 (by rw [List.length_append, hd, Array.length_toList, hvm, Nat.succ_mul]) (by rw [List.length_drop, hz, List.length_cons, Nat.succ_mul]; omega) (fun v hv' => hv v (by simp [hv']))).trans ?_
    simp

theorem parts_row {e : FEnv} : ∀ {k : Nat} {xs : List (Nat × Operand)}, ixOk k xs = true → evParts e xs = (evAll e (xs.map (·.2))).map (fun vs => (List.range' k vs.length).zip vs)
  | _, [], _ => rfl
  | k, (i, x) :: r, h => by
    simp only [ixOk_cons, Bool.and_eq_true, beq_iff_eq] at h
    obtain ⟨rfl, h2⟩ := h
    rw [parts_cons, List.map_cons, all_cons, parts_row h2]
    cases evO e x with
    | none => rfl
    | some v => cases evAll e (r.map (·.2)) <;> simp [List.range'_succ]

theorem all_len {e : FEnv} : ∀ {xs : List Operand} {vs : List Value}, evAll e xs = some vs → vs.length = xs.length
  | [], vs, h => by cases h; rfl
  | x :: r, vs, h => by
    rw [all_cons] at h
    split at h
    · rename_i h1 h2
      cases h
      simp [all_len h2]
    · cases h

/-- A row of which each part is named. -/
theorem al_lit {P : Program} {e : FEnv} {t el : TypeId} {len : Nat} {parts : Array (Nat × Operand)} {i : TypeInfo} {z : Value} (ht : P.underlying t = some (.slice el)) (hi : P.info? el = some i) (hz : i.zero = some z) (hp : plainN 6 z = true)
    (hs : i.size = z.cells.size) (h0 : 0 < i.size) (hlen : len * i.size ≤ 2 ^ 24) (hx : ixOk 0 parts.toList = true) (hn : parts.size = len) :
    aAlloc P (.buildSlice t len parts) e = (match evAll e (parts.toList.map (·.2)) with
      | some vs => if vs.all (fun v => v.cells.size == i.size) && oneAll (vs.flatMap (·.cells.toList)) then some (.arr true el (vs.flatMap (·.cells.toList)), fun id => .slice (some ⟨id, 0, none⟩) len i.size) else none
      | none => none) := by
  simp only [aAlloc, ht, parts_row hx]
  cases hv : evAll e (parts.toList.map (·.2)) with
  | none => rfl
  | some vs =>
    have hl : vs.length = len := by rw [all_len hv, List.length_map, Array.length_toList, hn]
    have hc : (plainN 6 z && i.size == z.cells.size && decide (0 < i.size) && decide (len * i.size ≤ 2 ^ 24)) = true := by
      rw [hp, ← hs]; simp [h0, hlen]
    simp only [Option.map_some, hi, hz, hc, if_true]
    by_cases hall : ∀ v ∈ vs, v.cells.size = i.size
    · have h1 : vs.all (fun v => v.cells.size == i.size) = true := List.all_eq_true.2 (fun v hv => by simpa using hall v hv)
      rw [fill_row (k := 0) (vs := vs) (done := []) (zs := (madeCells z.cells (len * i.size)).toList) (cells := madeCells z.cells (len * i.size)) (by simp) (by simp) (by
        rw [hs, madeCells_flat, hl]; simp [List.length_flatten, ← hs, List.sum_replicate_nat]) hall]
      simp [h1]
    · have h1 : vs.all (fun v => v.cells.size == i.size) = false := by
        rw [← Bool.not_eq_true, List.all_eq_true]
        intro h; exact hall (fun v hv => by simpa using h v hv)
      rw [h1]
      have key : ∀ (vs : List Value) (k : Nat) (cells : Array Value), ¬ (∀ v ∈ vs, v.cells.size = i.size) → Instr.fill (fun k => some (k * i.size, i.size)) cells ((List.range' k vs.length).zip vs) = none := by
        intro vs
        induction vs with
        | nil => intro k cells h; exact absurd (by simp) h
        | cons v r ih =>
          intro k cells h
          simp only [List.length_cons, List.range'_succ, List.zip_cons_cons, Instr.fill]
          by_cases hb : v.cells.size ≠ i.size ∨ k * i.size + v.cells.size > cells.size
          · rw [if_pos (by simpa using hb)]
          · rw [if_neg (by simpa using hb)]
            refine ih _ _ (fun q => h (fun u hu => ?_))
            rcases List.mem_cons.1 hu with rfl | hu
            · exact Classical.byContradiction fun q => hb (.inl q)
            · exact q u hu
      rw [key vs 0 _ hall]
      simp

/-- A slice of one element that has one cell. -/
theorem al_one {t el : TypeId} {x : Operand} {i : TypeInfo} {z : Value} (ht : P.underlying t = some (.slice el)) (hi : P.info? el = some i) (hz : i.zero = some z) (hp : plainN 6 z = true) (hs : i.size = 1) (hzc : z.cells = #[z]) :
    aAlloc P (.buildSlice t 1 #[(0, x)]) e = (match evO e x with
      | some v => if v.cells.size = 1 ∧ oneAll v.cells.toList = true then some (.arr true el v.cells.toList, fun id => .slice (some ⟨id, 0, none⟩) 1 1) else none
      | none => none) := by
  cases hx : evO e x with
  | none => simp only [aAlloc, ht, evParts, hx]
  | some v =>
    have hm : madeCells #[z] 1 = #[z] := by simp [madeCells, Array.range_succ, Array.range_zero']
    simp only [aAlloc, ht, evParts, hx, hi, hz, hp, hs, hzc, List.size_toArray, List.length_cons, List.length_nil, Instr.fill, Nat.one_mul, hm]
    by_cases hv : v.cells.size = 1
    · have hv' : ∃ u, v.cells = #[u] := by
        generalize v.cells = q at hv
        match q, hv with
        | ⟨[u]⟩, _ => exact ⟨u, rfl⟩
      obtain ⟨u, hu⟩ := hv'
      rw [hu]
      by_cases ho : oneAll [u] = true <;> simp [ho]
    · simp [hv]
end

theorem thenX_normal (k : Env → AHeap → Prop) (Q : Exit → Env → AHeap → Prop) (e : Env) (h : AHeap) : thenX k Q .normal e h = k e h := (rfl)
theorem thenX_exit (k : Env → AHeap → Prop) (Q : Exit → Env → AHeap → Prop) (i : Nat) (e : Env) (h : AHeap) : thenX k Q (.exit i) e h = Q (.exit i) e h := (rfl)
theorem thenX_ret (k : Env → AHeap → Prop) (Q : Exit → Env → AHeap → Prop) (e : Env) (h : AHeap) : thenX k Q .ret e h = Q .ret e h := (rfl)
theorem blockX_normal (id : Nat) (Q : Exit → Env → AHeap → Prop) (e : Env) (h : AHeap) : blockX id Q .normal e h = Q .normal e h := (rfl)
theorem blockX_ret (id : Nat) (Q : Exit → Env → AHeap → Prop) (e : Env) (h : AHeap) : blockX id Q .ret e h = Q .ret e h := (rfl)
theorem blockX_exit (id i : Nat) (Q : Exit → Env → AHeap → Prop) (e : Env) (h : AHeap) : blockX id Q (.exit i) e h = if i = id then Q .normal e h else Q (.exit i) e h := (rfl)
theorem scopeX_normal (Q : Exit → Env → AHeap → Prop) (e : Env) (h : AHeap) : scopeX Q .normal e h = Q .normal e h := (rfl)
theorem scopeX_ret (Q : Exit → Env → AHeap → Prop) (e : Env) (h : AHeap) : scopeX Q .ret e h = Q .ret e h := (rfl)
theorem scopeX_exit (Q : Exit → Env → AHeap → Prop) (i : Nat) (e : Env) (h : AHeap) : scopeX Q (.exit i) e h = Q (.exit i) e h := (rfl)
theorem retQ_normal (P : Program) (res : List ResultVar) (Q : Value → AHeap → Prop) (e : Env) (h : AHeap) : retQ P res Q .normal e h = ∃ vs, resOf P e h res = some vs ∧ Q (resV vs) h := (rfl)
theorem retQ_ret (P : Program) (res : List ResultVar) (Q : Value → AHeap → Prop) (e : Env) (h : AHeap) : retQ P res Q .ret e h = ∃ vs, resOf P e h res = some vs ∧ Q (resV vs) h := (rfl)
theorem canon_nil (e : FEnv) : canon [] e = [] := (rfl)
theorem canon_cons (t : Tmp) (r : List Tmp) (e : FEnv) : canon (t :: r) e = (match e t with
    | some v => (t, v) :: canon r e
    | none => canon r e) := by
  unfold canon
  rw [List.filterMap_cons]
  cases e t <;> rfl

theorem canon_put (t : Tmp) (r : List Tmp) (e : FEnv) (d : Option Tmp) (v : Value) : canon (t :: r) (e.put d v) = (match (e.put d v) t with
    | some v' => (t, v') :: canon r (e.put d v)
    | none => canon r (e.put d v)) := canon_cons t r _
theorem canon_env (t : Tmp) (r : List Tmp) (l : Env) : canon (t :: r) (envF l) = (match envF l t with
    | some v' => (t, v') :: canon r (envF l)
    | none => canon r (envF l)) := canon_cons t r _
/-- A call's step. -/
theorem run_callI {base i : Nat} {d : Option Tmp} {g : Operand} {as : Array Operand} {ts : Array TypeId} {r : Path} {K : FEnv → AHeap → Prop} {e : FEnv} {h : AHeap} (f : FuncId) (args : List Value)
    (hn : callOf (.call { callee := .value g, args := as, argTypes := ts }) e = some (f, args)) (k : ACallW P f args h (fun v h' => runP P base r K (e.put d v) h')) :
    runP P base ((⟨i, d, .call { callee := .value g, args := as, argTypes := ts }, none⟩, []) :: r) K e h := by
  rw [run_call (cls_value P g as ts) hn]
  simpa using k
/-- A call leaves numbers free that were given out for this region. -/
theorem acall_old {f : FuncId} {args : List Value} {h : AHeap} {Q : Value → AHeap → Prop} (k : ACallW P f args h (fun v h' => (∀ i, i < h.next → h.obj i = none → h'.obj i = none) → Q v h')) : ACallW P f args h Q :=
  fun hw => let ⟨v, h', d, q⟩ := k hw; ⟨v, h', d, q (fun i hi hn => (d.old i hi (by rw [hn]; rfl)).trans hn)⟩
theorem sw_wf {n : Nat} {s : SCode} {env : Env} {h : AHeap} {Q : Exit → Env → AHeap → Prop} (k : WF h → SW P n s env h Q) : SW P n s env h Q :=
  fun L C c hc hw => k hw L C c hc hw

/-- .. of a function that is named. -/
theorem call_func (f : FuncId) (as : Array Operand) (ts : Array TypeId) (e : FEnv) : callOf (.call { callee := .value (.func f), args := as, argTypes := ts }) e = (match evAll e as.toList with
    | some vs => some (f, vs)
    | none => none) := by
  simp only [callOf, evO_func]
  cases evAll e as.toList <;> simp

theorem dropT_nil (t : Tmp) : dropT t [] = [] := (rfl)
theorem dropT_cons (t s : Tmp) (v : Value) (r : Env) : dropT t ((s, v) :: r) = if s = t then dropT t r else (s, v) :: dropT t r := by
  unfold dropT
  rw [List.filter_cons]
  by_cases h : s = t
  · subst h; simp
  · have : (s != t) = true := by simpa using h
    simp [this, h]

attribute [simp] run_guard1 run_guard0 ixOk_nil ixOk_cons call_func dropT_nil dropT_cons pu_build parts_nil parts_cons all_nil all_cons Instr.fill run_nil run_pure run_read run_alloc run_eff W1_some W2_some W3_eq WB_true WB_false WB_some wantedS put_look put_none evO_tmp evO_int evO_bool evO_string evO_slice evO_ptr evO_func envF_cons envF_nil
  pu_move pu_assign pu_pick pu_nilCheck pu_bin bin_int bin_string io_add io_sub io_mul io_quo io_rem io_eql io_neq io_lss io_leq io_gtr io_geq pu_not pu_convert pu_fieldAddr pu_field pu_indexAddr pu_len pu_min pu_max pu_extract pu_slice rd_load ld_eq
  ef_store ef_append al_box al_makeSlice Value.cells Value.oneCell' oneAll setCells aSrc srcOk optV aSliceIx thenX_normal thenX_exit thenX_ret blockX_normal blockX_ret blockX_exit scopeX_normal scopeX_ret scopeX_exit retQ_normal retQ_ret
  canon_nil canon_put canon_env AHeap.put_obj AHeap.del_obj AHeap.bump_obj AHeap.put_next AHeap.del_next AHeap.bump_next resOf resV plainN

/-- Numbers that were given out are none that are free. -/
theorem ne_fresh {t n : Nat} (h : t < n) : (∀ k, (t = n + k) = False) ∧ (t = n) = False ∧ (∀ k, (n + k = t) = False) ∧ (n = t) = False :=
  ⟨fun k => by simp; omega, by simp; omega, fun k => by simp; omega, by simp; omega⟩

end Go.Proofs.Ytbcgcnmnblfhmaa.Lin
