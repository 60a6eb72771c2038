/- One order of a region's operations stands for all that its edges allow. -/
import Derived.Test.YtbcgcnmnblfhmaaLin12
namespace Go.Proofs.Ytbcgcnmnblfhmaa.Lin
variable {P : Program} {ops : Array Oper} {base : Nat}

def sopAt (ops : Array Oper) (i : Nat) : Option SOp :=
  match ops[i]? with
  | none => none
  | some o => match o.guard with
    | none => some ⟨i, o.dst, o.op, none⟩
    | some (j, want) => match (ops[j]?).bind (·.dst) with
      | some t => some ⟨i, o.dst, o.op, some (t, want)⟩
      | none => none

theorem sopAt_spec {i : Nat} {s : SOp} (h : sopAt ops i = some s) : ∃ o, ops[i]? = some o ∧ s.ix = i ∧ s.dst = o.dst ∧ s.op = o.op ∧ i < ops.size ∧
    ∀ e (a : Act) φ n b, ER φ e a.tmps n → wantedS s.gd e = some b → Region.wanted o (yielded ops a.tmps) = b := by
  unfold sopAt at h
  split at h
  · cases h
  · rename_i o ho
    have hi := (Array.getElem?_eq_some_iff.1 ho).1
    refine ⟨o, ho, ?_⟩
    split at h
    · rename_i hg
      cases h
      refine ⟨rfl, rfl, rfl, hi, fun e a φ n b _ hw => ?_⟩
      simp only [wantedS, Option.some.injEq] at hw
      subst hw
      simp [Region.wanted, hg]
    · rename_i j want hg
      split at h
      · rename_i t ht
        cases h
        refine ⟨rfl, rfl, rfl, hi, fun e a φ n b he hw => ?_⟩
        simp only [wantedS] at hw
        split at hw
        · rename_i b0 hb
          cases hw
          obtain ⟨v', g1, g2⟩ := he.get t _ hb
          cases g2
          simp only [Region.wanted, hg, yielded, ht, Option.bind_some, g1]
          cases b0 <;> cases want <;> rfl
        · cases hw
      · cases h

/-- Who must have come before whom. -/
def bef (ops : Array Oper) (j k : Nat) : Bool := ((Region.before ops).getD j 0).testBit k

def maskOf (F : Nat → Nat) (l : List Edge) : Nat := l.foldl (fun s e => if Region.binds .any e then s ||| 2 ^ e.on ||| F e.on else s) 0

theorem mask_spec {F : Nat → Nat} {l : List Edge} {k : Nat} (h : (maskOf F l).testBit k = true) : ∃ e ∈ l, Region.binds .any e = true ∧ (k = e.on ∨ (F e.on).testBit k = true) := by
  have key : ∀ (l : List Edge) (s : Nat), (l.foldl (fun s e => if Region.binds .any e then s ||| 2 ^ e.on ||| F e.on else s) s).testBit k = true →
      s.testBit k = true ∨ ∃ e ∈ l, Region.binds .any e = true ∧ (k = e.on ∨ (F e.on).testBit k = true) := by
    intro l
    induction l with
    | nil => intro s h; exact .inl h
    | cons e r ih =>
      intro s h
      rw [List.foldl_cons] at h
      rcases ih _ h with g | ⟨e', h1, h2⟩
      · split at g
        · rename_i hb
          rw [Nat.testBit_or, Nat.testBit_or, Nat.testBit_two_pow] at g
          simp only [Bool.or_eq_true, decide_eq_true_eq] at g
          rcases g with (g | g) | g
          · exact .inl g
          · exact .inr ⟨e, by simp, hb, .inl g.symm⟩
          · exact .inr ⟨e, by simp, hb, .inr g⟩
        · exact .inl g
      · exact .inr ⟨e', by simp [h1], h2⟩
  rcases key l 0 h with g | g
  · simp at g
  · exact g

theorem before_go : ∀ (l : List Oper) (acc : Array Nat),
    let R := l.foldl (fun acc o => acc.push (o.after.foldl (fun s e => if Region.binds .any e then s ||| 2 ^ e.on ||| acc.getD e.on 0 else s) 0)) acc
    (∀ j, j < acc.size → R.getD j 0 = acc.getD j 0) ∧ (∀ j, j < l.length → ∃ o, l[j]? = some o ∧ R.getD (acc.size + j) 0 = maskOf (fun m => if m < acc.size + j then R.getD m 0 else 0) o.after.toList) := by
  intro l
  induction l with
  | nil => intro acc; exact ⟨fun j _ => rfl, fun j hj => by simp at hj⟩
  | cons o r ih =>
    intro acc
    simp only [List.foldl_cons]
    generalize hm : (o.after.foldl (fun s e => if Region.binds .any e then s ||| 2 ^ e.on ||| acc.getD e.on 0 else s) 0) = m
    obtain ⟨h1, h2⟩ := ih (acc.push m)
    generalize hR : (r.foldl (fun acc o => acc.push (o.after.foldl (fun s e => if Region.binds .any e then s ||| 2 ^ e.on ||| acc.getD e.on 0 else s) 0)) (acc.push m)) = R at h1 h2 ⊢
    have hold : ∀ j, j < acc.size → R.getD j 0 = acc.getD j 0 := by
      intro j hj
      rw [h1 j (by simp; omega)]
      simp [Array.getD_eq_getD_getElem?, Array.getElem?_push, show j ≠ acc.size by omega]
    refine ⟨hold, ?_⟩
    intro j hj
    cases j with
    | zero =>
      refine ⟨o, by simp, ?_⟩
      rw [Nat.add_zero, h1 acc.size (by simp)]
      have : (acc.push m).getD acc.size 0 = m := by simp [Array.getD_eq_getD_getElem?]
      rw [this, ← hm, ← Array.foldl_toList]
      unfold maskOf
      congr 1
      funext s e
      split
      · congr 1
        show acc.getD e.on 0 = if e.on < acc.size then R.getD e.on 0 else 0
        by_cases hlt : e.on < acc.size
        · rw [if_pos hlt]; exact (hold _ hlt).symm
        · rw [if_neg hlt, Array.getD_eq_getD_getElem?, Array.getElem?_eq_none (Nat.le_of_not_lt hlt)]; rfl
      · rfl
    | succ j =>
      obtain ⟨o', h3, h4⟩ := h2 j (by simpa using hj)
      refine ⟨o', by simpa using h3, ?_⟩
      have : (acc.push m).size + j = acc.size + (j + 1) := by simp; omega
      rw [this] at h4
      exact h4

theorem bef_spec {j k : Nat} (h : bef ops j k = true) : ∃ o, ops[j]? = some o ∧ ∃ e ∈ o.after, Region.binds .any e = true ∧ (k = e.on ∨ bef ops e.on k = true) := by
  unfold bef at h
  obtain ⟨_, h2⟩ := before_go ops.toList #[]
  have hR : Region.before ops = ops.toList.foldl (fun acc o => acc.push (o.after.foldl (fun s e => if Region.binds .any e then s ||| 2 ^ e.on ||| acc.getD e.on 0 else s) 0)) #[] := by
    unfold Region.before
    rw [← Array.foldl_toList]
  rw [← hR] at h2
  by_cases hj : j < ops.toList.length
  · obtain ⟨o, h3, h4⟩ := h2 j hj
    simp only [List.size_toArray, List.length_nil, Nat.zero_add] at h4
    rw [h4] at h
    obtain ⟨e, h5, h6, h7⟩ := mask_spec h
    refine ⟨o, by simpa using h3, e, by simpa using h5, h6, ?_⟩
    rcases h7 with h7 | h7
    · exact .inl h7
    · split at h7
      · exact .inr h7
      · simp at h7
  · have hsz : (Region.before ops).size = ops.size := by
      rw [hR]
      have : ∀ (l : List Oper) (acc : Array Nat), (l.foldl (fun acc o => acc.push (o.after.foldl (fun s e => if Region.binds .any e then s ||| 2 ^ e.on ||| acc.getD e.on 0 else s) 0)) acc).size = acc.size + l.length := by
        intro l
        induction l with
        | nil => intro acc; rfl
        | cons o r ih => intro acc; rw [List.foldl_cons, ih]; simp; omega
      rw [this]; simp
    have : (Region.before ops).getD j 0 = 0 := by
      simp only [Array.length_toList] at hj
      simp [Array.getD_eq_getD_getElem?, Array.getElem?_eq_none (show (Region.before ops).size ≤ j by omega)]
    rw [this] at h
    simp at h

theorem ready_spec {l : Array Bool} {i : Nat} : i ∈ Region.ready .any ops l ↔ l.getD i true = false ∧ ∃ o, ops[i]? = some o ∧ ∀ e ∈ o.after, Region.binds .any e = true → l.getD e.on false = true := by
  unfold Region.ready
  rw [List.mem_filter, List.mem_range, Bool.and_eq_true, Bool.not_eq_true']
  constructor
  · rintro ⟨h1, h2, h3⟩
    refine ⟨h2, ops[i], by simp [h1], fun e he hb => ?_⟩
    simp only [h1, Array.getElem?_eq_getElem, Option.map_some, Option.getD_some, Array.all_eq_true'] at h3
    have := h3 e he
    simpa [hb] using this
  · rintro ⟨h2, o, ho, h3⟩
    have hi := (Array.getElem?_eq_some_iff.1 ho).1
    refine ⟨hi, h2, ?_⟩
    rw [ho]
    simp only [Option.map_some, Option.getD_some, Array.all_eq_true']
    intro e he
    cases hb : Region.binds .any e with
    | false => rfl
    | true => simpa using h3 e he hb

def Closed (ops : Array Oper) (l : Array Bool) : Prop := ∀ j k, l.getD j false = true → bef ops j k = true → l.getD k false = true

theorem getD_set (l : Array Bool) (i k : Nat) (d : Bool) (hi : i < l.size) : (l.setIfInBounds i true).getD k d = if k = i then true else l.getD k d := by
  simp only [Array.getD_eq_getD_getElem?, Array.getElem?_setIfInBounds]
  by_cases h : i = k
  · subst h; simp [hi]
  · simp [h, Ne.symm h]

theorem ready_bef {l : Array Bool} {i k : Nat} (hc : Closed ops l) (hi : i ∈ Region.ready .any ops l) (hb : bef ops i k = true) : l.getD k false = true := by
  obtain ⟨o, ho, e, he, hbi, h⟩ := bef_spec hb
  obtain ⟨_, o', ho', h2⟩ := ready_spec.1 hi
  rw [ho] at ho'; cases ho'
  have := h2 e he hbi
  rcases h with rfl | h
  · exact this
  · exact hc _ _ this h

theorem ready_lt {l : Array Bool} {i : Nat} (hi : i ∈ Region.ready .any ops l) : i < l.size ∧ i < ops.size := by
  obtain ⟨h1, o, ho, _⟩ := ready_spec.1 hi
  refine ⟨?_, (Array.getElem?_eq_some_iff.1 ho).1⟩
  rcases Nat.lt_or_ge i l.size with h | h
  · exact h
  · simp [Array.getD_eq_getD_getElem?, Array.getElem?_eq_none h] at h1

theorem Closed.set {l : Array Bool} {i : Nat} (hc : Closed ops l) (hi : i ∈ Region.ready .any ops l) : Closed ops (l.setIfInBounds i true) := by
  intro j k hj hb
  rw [getD_set _ _ _ _ (ready_lt hi).1] at hj ⊢
  split
  · rfl
  · split at hj
    · rename_i hji; subst hji; exact ready_bef hc hi hb
    · exact hc j k hj hb

theorem ready_set {l : Array Bool} {i j : Nat} (hi : i ∈ Region.ready .any ops l) (hj : j ∈ Region.ready .any ops l) (hij : j ≠ i) : j ∈ Region.ready .any ops (l.setIfInBounds i true) := by
  obtain ⟨h1, o, ho, h2⟩ := ready_spec.1 hj
  refine ready_spec.2 ⟨?_, o, ho, fun e he hb => ?_⟩
  · rw [getD_set _ _ _ _ (ready_lt hi).1, if_neg hij]; exact h1
  · rw [getD_set _ _ _ _ (ready_lt hi).1]
    split
    · rfl
    · exact h2 e he hb

/-- How many are still to come. -/
def cnt (ops : Array Oper) (l : Array Bool) : Nat := (List.range ops.size).countP fun i => !l.getD i true

theorem countP_set (p q : Nat → Bool) (i : Nat) (hp : p i = true) (hq : ∀ k, q k = (p k && decide (k ≠ i))) : ∀ n, i < n → (List.range n).countP p = (List.range n).countP q + 1 := by
  intro n
  induction n with
  | zero => intro h; omega
  | succ n ih =>
    intro hi
    rw [List.range_succ, List.countP_append, List.countP_append]
    simp only [List.countP_cons, List.countP_nil, Nat.zero_add]
    by_cases hin : i = n
    · subst hin
      have : (List.range i).countP p = (List.range i).countP q := by
        refine List.countP_congr (fun k hk => ?_)
        have := List.mem_range.1 hk
        rw [hq k]
        simp [show k ≠ i by omega]
      rw [this, hp, hq i]
      simp
    · rw [ih (by omega), hq n]
      simp only [show n ≠ i from fun h => hin h.symm, ne_eq, not_false_eq_true, decide_true, Bool.and_true]
      omega

theorem cnt_set {l : Array Bool} {i : Nat} (hi : i ∈ Region.ready .any ops l) : cnt ops l = cnt ops (l.setIfInBounds i true) + 1 := by
  obtain ⟨h1, _⟩ := ready_spec.1 hi
  unfold cnt
  refine countP_set _ _ i (by rw [h1]; rfl) (fun k => ?_) _ (ready_lt hi).2
  rw [getD_set _ _ _ _ (ready_lt hi).1]
  by_cases hk : k = i
  · simp [hk]
  · simp [hk]

def isR (P : Program) (ops : Array Oper) (k : Nat) : Bool := match ops[k]? with
  | some o => clsOf P o.op == .R
  | none => false

def isE (P : Program) (ops : Array Oper) (k : Nat) : Bool := match ops[k]? with
  | some o => clsOf P o.op == .E
  | none => false

/-- What was read already, and might be read behind this. -/
def pendAt (P : Program) (ops : Array Oper) (i : Nat) (l : Array Bool) : List SOp :=
  if isE P ops i then (List.range ops.size).filterMap fun k => if l.getD k false && isR P ops k && !bef ops i k then sopAt ops k else none else []

theorem pend_spec {i : Nat} {l : Array Bool} {r : SOp} (h : r ∈ pendAt P ops i l) : isE P ops i = true ∧ ∃ k, k < ops.size ∧ l.getD k false = true ∧ isR P ops k = true ∧ bef ops i k = false ∧ sopAt ops k = some r := by
  unfold pendAt at h
  split at h
  · rename_i he
    refine ⟨he, ?_⟩
    rw [List.mem_filterMap] at h
    obtain ⟨k, hk, h⟩ := h
    split at h
    · rename_i hc
      simp only [Bool.and_eq_true, Bool.not_eq_true'] at hc
      exact ⟨k, List.mem_range.1 hk, hc.1.1, hc.1.2, hc.2, h⟩
    · cases h
  · simp at h

theorem pend_mem {i k : Nat} {l : Array Bool} {r : SOp} (he : isE P ops i = true) (hk : k < ops.size) (hl : l.getD k false = true) (hr : isR P ops k = true) (hb : bef ops i k = false) (hs : sopAt ops k = some r) : r ∈ pendAt P ops i l := by
  unfold pendAt
  rw [if_pos he, List.mem_filterMap]
  exact ⟨k, List.mem_range.2 hk, by simp [hl, hr, hb, hs]⟩

def dstIn (d : Option Tmp) (l : List Tmp) : Bool := match d with
  | some t => l.contains t
  | none => false

def apartB (x y : SOp) : Bool := !dstIn x.dst y.sees && !dstIn y.dst x.sees && !dstIn x.dst y.dst.toList

theorem apartB_spec {x y : SOp} (h : apartB x y = true) : Apart x y := by
  unfold apartB at h
  simp only [Bool.and_eq_true, Bool.not_eq_true'] at h
  obtain ⟨⟨h1, h2⟩, h3⟩ := h
  refine ⟨fun t ht hm => ?_, fun t ht hm => ?_, fun t ht hm => ?_⟩
  · rw [ht] at h1; simp [dstIn, hm] at h1
  · rw [ht] at h2; simp [dstIn, hm] at h2
  · rw [ht, hm] at h3; simp [dstIn] at h3

/-- Two operations of which the first may as well come second. -/
def okB (P : Program) (ops : Array Oper) (i j : Nat) : Bool := match sopAt ops i, sopAt ops j with
  | some x, some y => apartB x y && clsFree (clsOf P x.op) (clsOf P y.op)
  | _, _ => false

def freeB (P : Program) (ops : Array Oper) (l : Array Bool) (i : Nat) : Bool := (List.range ops.size).all fun j => j == i || l.getD j true || bef ops j i || okB P ops i j

/-- What holds of the region as a whole: all operations are of a kind that is told; nothing behind a read writes what it looks at. -/
def wholeB (P : Program) (ops : Array Oper) : Bool := (List.range ops.size).all fun k => match sopAt ops k with
  | none => false
  | some r => !isR P ops k || (r.dst.isSome && !dstIn r.dst r.sees && (List.range ops.size).all fun j => j == k || bef ops k j || match sopAt ops j with
    | none => false
    | some x => !dstIn x.dst r.sees && !dstIn x.dst r.dst.toList)

theorem whole_sop (h : wholeB P ops = true) {i : Nat} (hi : i < ops.size) : ∃ s, sopAt ops i = some s := by
  unfold wholeB at h
  rw [List.all_eq_true] at h
  have := h i (List.mem_range.2 hi)
  split at this
  · cases this
  · exact ⟨_, by assumption⟩

theorem isR_cls {k : Nat} {r : SOp} (hs : sopAt ops k = some r) : isR P ops k = true ↔ clsOf P r.op = .R := by
  obtain ⟨o, ho, _, _, hop, _⟩ := sopAt_spec hs
  unfold isR
  rw [ho, hop]
  simp

theorem isE_cls {k : Nat} {r : SOp} (hs : sopAt ops k = some r) : isE P ops k = true ↔ clsOf P r.op = .E := by
  obtain ⟨o, ho, _, _, hop, _⟩ := sopAt_spec hs
  unfold isE
  rw [ho, hop]
  simp

theorem whole_self (h : wholeB P ops = true) {k : Nat} {r : SOp} (hs : sopAt ops k = some r) (hr : clsOf P r.op = .R) : ∀ t, r.dst = some t → t ∉ r.sees := by
  obtain ⟨o, ho, _, _, _, hk, _⟩ := sopAt_spec hs
  unfold wholeB at h
  rw [List.all_eq_true] at h
  have := h k (List.mem_range.2 hk)
  rw [hs] at this
  simp only [(isR_cls hs).2 hr, Bool.not_true, Bool.false_or, Bool.and_eq_true, Bool.not_eq_true'] at this
  intro t ht hm
  have h2 := this.1.2
  rw [ht] at h2
  simp [dstIn, hm] at h2

theorem whole_away (h : wholeB P ops = true) {k j : Nat} {r x : SOp} (hs : sopAt ops k = some r) (hr : clsOf P r.op = .R) (hx : sopAt ops j = some x) (hjk : j ≠ k) (hb : bef ops k j = false) : Away x.dst r := by
  obtain ⟨o, ho, _, _, _, hk, _⟩ := sopAt_spec hs
  obtain ⟨o', ho', _, _, _, hj, _⟩ := sopAt_spec hx
  unfold wholeB at h
  rw [List.all_eq_true] at h
  have := h k (List.mem_range.2 hk)
  rw [hs] at this
  simp only [(isR_cls hs).2 hr, Bool.not_true, Bool.false_or, Bool.and_eq_true, Bool.not_eq_true', List.all_eq_true] at this
  have h3 := this.2 j (List.mem_range.2 hj)
  rw [hx] at h3
  simp only [hb, Bool.or_false, Bool.or_eq_true, beq_iff_eq, hjk, false_or, Bool.and_eq_true, Bool.not_eq_true'] at h3
  intro t ht
  rw [ht] at h3
  refine ⟨fun hm => ?_, fun hm => ?_⟩
  · have := h3.1; simp [dstIn, hm] at this
  · have := h3.2; rw [hm] at this; simp [dstIn] at this

theorem OpRel_old {op : Op} {id : Nat} {e : FEnv} {h h' : AHeap} {v : Value} (ho : OpRel P op id e h v h') : h.next ≤ h'.next ∧ ∀ j, j ≠ id → j < h.next → h.obj j = none → h'.obj j = none := by
  unfold OpRel at ho
  split at ho
  · rw [ho.2]; exact ⟨Nat.le_refl _, fun _ _ _ h => h⟩
  · rw [ho.2]; exact ⟨Nat.le_refl _, fun _ _ _ h => h⟩
  · obtain ⟨ob, mk, _, _, _, rfl⟩ := ho
    exact ⟨Nat.le_refl _, fun j hj _ h => by rw [AHeap.put_ne _ _ hj]; exact h⟩
  · split at ho
    · exact ⟨ho.nxt, fun j _ hl h => (ho.old j hl (by rw [h]; rfl)).trans h⟩
    · exact ⟨by rw [aEff_next ho]; exact Nat.le_refl _, fun j hj _ h => (aEff_put (.map true []) h (Ne.symm hj) ho).2⟩

theorem OpRel_still {op : Op} {id : Nat} {e : FEnv} {h h' : AHeap} {v : Value} (ho : OpRel P op id e h v h') {j : Nat} (hj : j ≠ id) (hl : j < h.next) (hs : still (h.obj j) = true) : h'.obj j = h.obj j := by
  unfold OpRel at ho
  split at ho
  · rw [ho.2]
  · rw [ho.2]
  · obtain ⟨ob, mk, _, _, _, rfl⟩ := ho
    exact AHeap.put_ne _ _ hj
  · split at ho
    · exact ho.old j hl hs
    · exact aEff_still hj hs ho

theorem StepR_still {s : SOp} {pend : List SOp} {e e' : FEnv} {h h' : AHeap} (ho : StepR P s pend base e h e' h') {j : Nat} (hj : j ≠ base + s.ix) (hl : j < h.next) (hs : still (h.obj j) = true) : h'.obj j = h.obj j := by
  unfold StepR at ho
  split at ho
  · obtain ⟨v, ho, _⟩ := ho; exact OpRel_still ho hj hl hs
  · rw [ho.2]
  · exact ho.elim

theorem OpRel_own {op : Op} {id : Nat} {e : FEnv} {h h' : AHeap} {v : Value} (ho : OpRel P op id e h v h') {j : Nat} {o : AObj} (hj : h'.obj j = some o) (hw : o.owned = false) : h.obj j = some o := by
  unfold OpRel at ho
  split at ho
  · rw [ho.2] at hj; exact hj
  · rw [ho.2] at hj; exact hj
  · obtain ⟨ob, mk, ha, _, _, rfl⟩ := ho
    by_cases hi : j = id
    · subst hi; rw [AHeap.put_same] at hj; cases hj; rw [aAlloc_own ha] at hw; cases hw
    · rwa [AHeap.put_ne _ _ hi] at hj
  · split at ho
    · exact ho.own j o hj hw
    · exact aEff_own ho hj hw

theorem StepR_own {s : SOp} {pend : List SOp} {e e' : FEnv} {h h' : AHeap} (ho : StepR P s pend base e h e' h') {j : Nat} {o : AObj} (hj : h'.obj j = some o) (hw : o.owned = false) : h.obj j = some o := by
  unfold StepR at ho
  split at ho
  · obtain ⟨v, ho, _⟩ := ho; exact OpRel_own ho hj hw
  · rw [ho.2] at hj; exact hj
  · exact ho.elim

theorem StepR_old {s : SOp} {pend : List SOp} {e e' : FEnv} {h h' : AHeap} (hs : StepR P s pend base e h e' h') : h.next ≤ h'.next ∧ ∀ j, j ≠ base + s.ix → j < h.next → h.obj j = none → h'.obj j = none := by
  unfold StepR at hs
  split at hs
  · obtain ⟨v, ho, _⟩ := hs; exact OpRel_old ho
  · rw [hs.2]; exact ⟨Nat.le_refl _, fun _ _ _ h => h⟩
  · exact hs.elim

/-- The numbers that are kept for what is still to come are free. -/
structure Inv (ops : Array Oper) (base : Nat) (l : Array Bool) (h : AHeap) : Prop where
  room : base + ops.size ≤ h.next
  wf : WF h
  free : ∀ j, j < ops.size → l.getD j true = false → h.obj (base + j) = none

theorem Inv.step {l : Array Bool} {i : Nat} {s : SOp} {pend : List SOp} {e e' : FEnv} {h h' : AHeap} (inv : Inv ops base l h) (hi : i ∈ Region.ready .any ops l) (hsi : sopAt ops i = some s) (hs : StepR P s pend base e h e' h') :
    Inv ops base (l.setIfInBounds i true) h' := by
  obtain ⟨o, _, hix, _⟩ := sopAt_spec hsi
  obtain ⟨h1, h2⟩ := StepR_old hs
  refine ⟨by have := inv.room; omega, StepR_wf (by have := inv.room; have := (ready_lt hi).2; omega) inv.wf hs, fun j hj hl => ?_⟩
  rw [getD_set _ _ _ _ (ready_lt hi).1] at hl
  split at hl
  · cases hl
  · rename_i hji
    have := inv.room
    exact h2 _ (by omega) (by omega) (inv.free j hj hl)

/-- In whatever order: the one outcome. -/
def AnyR (P : Program) (ops : Array Oper) (base : Nat) : Nat → Array Bool → FEnv → AHeap → FEnv → AHeap → Prop
  | 0, l, e, h, e', h' => Region.ready .any ops l = [] ∧ e' = e ∧ h' = h
  | f + 1, l, e, h, e', h' => Region.ready .any ops l ≠ [] ∧ ∀ i ∈ Region.ready .any ops l, ∃ s e1 h1, sopAt ops i = some s ∧ StepR P s (pendAt P ops i l) base e h e1 h1 ∧
      AnyR P ops base f (l.setIfInBounds i true) e1 h1 e' h'

theorem first (hw : wholeB P ops = true) : ∀ (f : Nat) {l : Array Bool} {i : Nat} {si : SOp} {e e1 e' : FEnv} {h h1 h' : AHeap}, i ∈ Region.ready .any ops l → sopAt ops i = some si → freeB P ops l i = true → Closed ops l →
    cnt ops l = f + 1 → Inv ops base l h → StepR P si (pendAt P ops i l) base e h e1 h1 → AnyR P ops base f (l.setIfInBounds i true) e1 h1 e' h' → AnyR P ops base (f + 1) l e h e' h' := by
  intro f
  induction f with
  | zero =>
    intro l i si e e1 e' h h1 h' hi hsi hfree hcl hcnt inv S A
    refine ⟨fun g => by rw [g] at hi; simp at hi, fun j hj => ?_⟩
    by_cases hji : j = i
    · subst hji; exact ⟨si, e1, h1, hsi, S, A⟩
    · exfalso
      have h1 := cnt_set hi
      have h2 := cnt_set (ready_set hi hj hji)
      omega
  | succ f ih =>
    intro l i si e e1 e' h h1 h' hi hsi hfree hcl hcnt inv S A
    refine ⟨fun g => by rw [g] at hi; simp at hi, fun j hj => ?_⟩
    by_cases hji : j = i
    · subst hji; exact ⟨si, e1, h1, hsi, S, A⟩
    · obtain ⟨_, hA⟩ := A
      obtain ⟨sj, e2, h2, hsj, S2, A2⟩ := hA j (ready_set hi hj hji)
      obtain ⟨oi, hoi, ixi, _, opi, hil, _⟩ := sopAt_spec hsi
      obtain ⟨oj, hoj, ixj, _, opj, hjl, _⟩ := sopAt_spec hsj
      have hlj := (ready_spec.1 hj).1
      have hli := (ready_spec.1 hi).1
      have hldi : l.getD i false = false := by
        simp only [Array.getD_eq_getD_getElem?] at hli ⊢
        cases hq : l[i]? with
        | none => simp
        | some b => rw [hq] at hli; simpa using hli
      have hldj : l.getD j false = false := by
        simp only [Array.getD_eq_getD_getElem?] at hlj ⊢
        cases hq : l[j]? with
        | none => simp
        | some b => rw [hq] at hlj; simpa using hlj
      have hbji : bef ops j i = false := by
        cases hb : bef ops j i with
        | false => rfl
        | true => rw [ready_bef hcl hj hb] at hldi; cases hldi
      have hok : okB P ops i j = true := by
        unfold freeB at hfree
        rw [List.all_eq_true] at hfree
        have := hfree j (List.mem_range.2 hjl)
        simpa [hji, hlj, hbji] using this
      unfold okB at hok
      rw [hsi, hsj] at hok
      simp only [Bool.and_eq_true] at hok
      have hap := apartB_spec hok.1
      have hidj : h.obj (base + sj.ix) = none := by rw [ixj]; exact inv.free j hjl hlj
      have hltj : base + sj.ix < h.next := by have := inv.room; omega
      have hpy : ∀ r ∈ pendAt P ops j l, r ∈ pendAt P ops j (l.setIfInBounds i true) ∧ Away si.dst r := by
        intro r hr
        obtain ⟨he, k, hk, hl, hrk, hb, hsk⟩ := pend_spec hr
        refine ⟨pend_mem he hk (by rw [getD_set _ _ _ _ (ready_lt hi).1]; split; rfl; exact hl) hrk hb hsk, ?_⟩
        have hki : i ≠ k := fun g => by rw [← g, hldi] at hl; cases hl
        refine whole_away hw hsk ((isR_cls hsk).1 hrk) hsi hki ?_
        cases hbk : bef ops k i with
        | false => rfl
        | true => rw [hcl _ _ hl hbk] at hldi; cases hldi
      have hpx : ∀ r ∈ pendAt P ops i (l.setIfInBounds j true), r ∈ pendAt P ops i l ∧ Away sj.dst r := by
        intro r hr
        obtain ⟨he, k, hk, hl, hrk, hb, hsk⟩ := pend_spec hr
        rw [getD_set _ _ _ _ (ready_lt hj).1] at hl
        have hkj : k ≠ j := by
          intro g
          subst g
          rw [hsj] at hsk; cases hsk
          rw [(isE_cls hsi).1 he, (isR_cls hsj).1 hrk] at hok
          simp [clsFree] at hok
        rw [if_neg hkj] at hl
        refine ⟨pend_mem he hk hl hrk hb hsk, whole_away hw hsk ((isR_cls hsk).1 hrk) hsj (Ne.symm hkj) ?_⟩
        cases hbk : bef ops k j with
        | false => rfl
        | true => rw [hcl _ _ hl hbk] at hldj; cases hldj
      have hRE : clsOf P si.op = .R → clsOf P sj.op = .E → si ∈ pendAt P ops j (l.setIfInBounds i true) := fun hr he =>
        pend_mem ((isE_cls hsj).2 he) hil (by rw [getD_set _ _ _ _ (ready_lt hi).1, if_pos rfl]) ((isR_cls hsi).2 hr) hbji hsi
      have hxP : clsOf P si.op ≠ .E → pendAt P ops i (l.setIfInBounds j true) = [] := by
        intro hn
        unfold pendAt
        rw [if_neg (fun g => hn ((isE_cls hsi).1 g))]
      have hyP : clsOf P sj.op ≠ .E → pendAt P ops j l = [] := by
        intro hn
        unfold pendAt
        rw [if_neg (fun g => hn ((isE_cls hsj).1 g))]
      obtain ⟨e1', h1', T1, T2⟩ := swap hap (by rw [ixi, ixj]; exact Ne.symm hji) hok.2 hidj hltj hpy hpx hRE hxP hyP (fun hr => whole_self hw hsi hr) S S2
      refine ⟨sj, e1', h1', hsj, T1, ?_⟩
      have hcomm : (l.setIfInBounds j true).setIfInBounds i true = (l.setIfInBounds i true).setIfInBounds j true := by
        apply Array.ext'
        simp only [Array.toList_setIfInBounds]
        exact List.set_comm _ _ hji
      refine ih (ready_set hj hi (Ne.symm hji)) hsi ?_ (hcl.set hj) (by have := cnt_set hj; omega) (inv.step hj hsj T1) T2 (by rw [hcomm]; exact A2)
      unfold freeB at hfree ⊢
      rw [List.all_eq_true] at hfree ⊢
      intro k hk
      have := hfree k hk
      rw [getD_set _ _ _ _ (ready_lt hj).1]
      by_cases hkj : k = j
      · simp [hkj]
      · simpa [hkj] using this

/-- A path: who is taken, one by one, and what was read by then. -/
abbrev Path := List (SOp × List SOp)

def pickB (P : Program) (ops : Array Oper) (l : Array Bool) : Option Nat := (Region.ready .any ops l).find? (freeB P ops l)

def mkPath (P : Program) (ops : Array Oper) : Nat → Array Bool → Option Path
  | 0, l => if (Region.ready .any ops l).isEmpty then some [] else none
  | f + 1, l => match pickB P ops l with
    | none => none
    | some i => match sopAt ops i, mkPath P ops f (l.setIfInBounds i true) with
      | some s, some p => some ((s, pendAt P ops i l) :: p)
      | _, _ => none

/-- A path, for whoever walks. -/
def runP (P : Program) (base : Nat) : Path → (FEnv → AHeap → Prop) → FEnv → AHeap → Prop
  | [], K, e, h => K e h
  | (s, pend) :: r, K, e, h => stepP P s pend base (runP P base r K) e h

theorem path_sound (hw : wholeB P ops = true) {K : FEnv → AHeap → Prop} : ∀ (f : Nat) {l : Array Bool} {p : Path} {e : FEnv} {h : AHeap}, cnt ops l = f → Closed ops l → Inv ops base l h → mkPath P ops f l = some p → runP P base p K e h →
    ∃ e' h', AnyR P ops base f l e h e' h' ∧ K e' h' := by
  intro f
  induction f with
  | zero =>
    intro l p e h _ _ _ hp hr
    unfold mkPath at hp
    split at hp
    · rename_i hemp
      cases hp
      exact ⟨e, h, ⟨by simpa using hemp, rfl, rfl⟩, hr⟩
    · cases hp
  | succ f ih =>
    intro l p e h hcnt hcl inv hp hr
    unfold mkPath at hp
    split at hp
    · cases hp
    · rename_i i hpick
      have hi := List.mem_of_find?_eq_some hpick
      have hfree := List.find?_some hpick
      split at hp
      · rename_i s q hs hq
        cases hp
        obtain ⟨o, ho, hix, _⟩ := sopAt_spec hs
        unfold runP at hr
        obtain ⟨e1, h1, S, hK⟩ := stepP_rel (by rw [hix]; exact inv.free i (ready_lt hi).2 (ready_spec.1 hi).1) inv.wf hr
        obtain ⟨e', h', A, k⟩ := ih (by have := cnt_set hi; omega) (hcl.set hi) (inv.step hi hs S) hq hK
        exact ⟨e', h', first hw f hi hs hfree hcl hcnt inv S A, k⟩
      · cases hp

end Go.Proofs.Ytbcgcnmnblfhmaa.Lin
