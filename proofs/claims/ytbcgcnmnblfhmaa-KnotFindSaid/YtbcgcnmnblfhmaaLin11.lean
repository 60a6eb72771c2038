/- Calls by what they come to on the abstract heap; one step of a region; what a step does not hang on. -/
import Derived.Test.YtbcgcnmnblfhmaaLin10
namespace Go.Proofs.Ytbcgcnmnblfhmaa.Lin
variable {P : Program}

/-- A function that has a body of its own. -/
def Callable (P : Program) (f : FuncId) : Prop := ∃ fn, P.funcs[f]? = some fn ∧ fn.body.isNone = false ∧ (fn.name == "runtime.NumGoroutine") = false

/-- A call, from whatever world the abstract heap describes, returns, and what it returns and leaves is described by v and h'. -/
structure ACallD (P : Program) (f : FuncId) (args : List Value) (h : AHeap) (v : Value) (h' : AHeap) : Prop where
  callable : Callable P f
  old : ∀ i, i < h.next → still (h.obj i) = true → h'.obj i = h.obj i
  nxt : h.next ≤ h'.next
  wf : WF h → WF h'
  own : ∀ i o, h'.obj i = some o → o.owned = false → h.obj i = some o
  run : ∀ (B0 : Nat → Prop) (φ : Nat → Option Emb) (args' : List Value) (w : World), VRs φ args args' → HR B0 φ h w →
    Calls P f args'.toArray w fun e w' => ∃ v' φ', e = .returned v' ∧ VR φ' v v' ∧ Post B0 h.next φ h w φ' h' w'

/-- .. so that Q holds of what it returns and leaves. -/
def ACallW (P : Program) (f : FuncId) (args : List Value) (h : AHeap) (Q : Value → AHeap → Prop) : Prop := WF h → ∃ v h', ACallD P f args h v h' ∧ Q v h'

theorem ACallW.mono {f : FuncId} {args : List Value} {h : AHeap} {Q Q' : Value → AHeap → Prop} (c : ACallW P f args h Q) (hq : ∀ v h', Q v h' → Q' v h') : ACallW P f args h Q' :=
  fun w => let ⟨v, h', a, b⟩ := c w; ⟨v, h', a, hq v h' b⟩

/-- An object that was there besides stays as it was. -/
theorem ACallD.frame {f : FuncId} {args : List Value} {h h1 : AHeap} {v : Value} (c : ACallD P f args h v h1) {id : Nat} (ob : AObj) (hid : h.obj id = none) (hlt : id < h.next) :
    ACallD P f args (h.put id ob) v (h1.put id ob) := by
  have hid1 : h1.obj id = none := (c.old id hlt (by rw [hid]; rfl)).trans hid
  have oldp : ∀ i, i < h.next → still ((h.put id ob).obj i) = true → (h1.put id ob).obj i = (h.put id ob).obj i := by
    intro i hi ho
    by_cases hi0 : i = id
    · subst hi0; rw [AHeap.put_same, AHeap.put_same]
    · rw [AHeap.put_ne _ _ hi0] at ho
      rw [AHeap.put_ne _ _ hi0, AHeap.put_ne _ _ hi0]
      exact c.old i hi ho
  have oldn : ∀ i, i < h.next → (h.put id ob).obj i = none → (h1.put id ob).obj i = none := fun i hi ho => (oldp i hi (by rw [ho]; rfl)).trans ho
  have wfp : WF (h.put id ob) → WF (h1.put id ob) := by
    intro hw i hi
    have h0 : WF h := fun j hj => by
      have := hw j hj
      rwa [AHeap.put_ne _ _ (by omega : j ≠ id)] at this
    have := c.nxt
    have hi' : h1.next ≤ i := hi
    rw [AHeap.put_ne _ _ (by omega : i ≠ id)]
    exact c.wf h0 i hi'
  have ownp : ∀ i o, (h1.put id ob).obj i = some o → o.owned = false → (h.put id ob).obj i = some o := by
    intro i o hi ho
    by_cases hi0 : i = id
    · subst hi0; rw [AHeap.put_same] at hi ⊢; exact hi
    · rw [AHeap.put_ne _ _ hi0] at hi ⊢
      exact c.own i o hi ho
  refine ⟨c.callable, oldp, c.nxt, wfp, ownp, fun B0 φ args' w ha hh => ?_⟩
  have sub : ∀ j o, h.obj j = some o → (h.put id ob).obj j = some o := by
    intro j o ho
    have : j ≠ id := fun g => by rw [g, hid] at ho; cases ho
    rw [AHeap.put_ne _ _ this]; exact ho
  have own : ∀ j b, Owns φ h j b → Owns φ (h.put id ob) j b := fun j b ⟨e, o, q1, q2, q3, q4⟩ => ⟨e, o, sub j o q1, q2, q3, q4⟩
  obtain ⟨eid, he, hor⟩ := hh.obj id ob (AHeap.put_same _ _ _)
  have hh0 : HR B0 φ h w := by
    refine ⟨hh.size, fun j hj => ⟨(hh.fresh j hj).1, ?_⟩, fun j o ho => hh.obj j o (sub j o ho), fun j k b p q => hh.sep j k b (own j b p) (own k b q)⟩
    have := (hh.fresh j hj).2
    rwa [AHeap.put_ne _ _ (by omega : j ≠ id)] at this
  refine (c.run B0 φ args' w ha hh0).mono ?_
  rintro e w' ⟨v', φ', q1, q2, p⟩
  refine ⟨v', φ', q1, q2, ?_⟩
  have hblk : w'.heap[eid.blk]? = w.heap[eid.blk]? := by
    refine p.frame _ hor.blk_lt ?_
    intro i hi
    cases ho : ob.owned with
    | true =>
      have := hh.sep i id _ (own i _ hi) ⟨eid, ob, AHeap.put_same _ _ _, ho, he, rfl⟩
      obtain ⟨e', o', r, _⟩ := hi
      rw [this, hid] at r; cases r
    | false =>
      cases ob with
      | map own' es =>
        simp only [AObj.owned] at ho
        exact (owned_ge hh0 hi).1 (hor.1.2 ho)
      | arr own' ty cc =>
        simp only [AObj.owned] at ho
        obtain ⟨_, _, _, _, _, _, _, h5⟩ := hor
        exact (owned_ge hh0 hi).1 (h5 ho)
  have he' : φ' id = some eid := by rw [p.ext id hlt]; exact he
  have own2 : ∀ j b, Owns φ' (h1.put id ob) j b → (j = id ∧ ob.owned = true ∧ b = eid.blk) ∨ Owns φ' h1 j b := by
    rintro j b ⟨e0, o, r1, r2, r3, r4⟩
    by_cases hj : j = id
    · subst hj
      rw [AHeap.put_same] at r1; cases r1
      rw [he'] at r3; cases r3
      exact .inl ⟨rfl, r2, r4.symm⟩
    · rw [AHeap.put_ne _ _ hj] at r1
      exact .inr ⟨e0, o, r1, r2, r3, r4⟩
  have clash : ∀ j, Owns φ' h1 j eid.blk → ob.owned = true → j = id := by
    intro j hj hob
    rcases p.inside j _ hj with ⟨k, hk⟩ | hge
    · have := hh.sep k id _ (own k _ hk) ⟨eid, ob, AHeap.put_same _ _ _, hob, he, rfl⟩
      obtain ⟨e', o', r, _⟩ := hk
      rw [this, hid] at r; cases r
    · have := hor.blk_lt; omega
  refine ⟨⟨p.hr.size, ?_, ?_, ?_⟩, p.le, p.ext, p.nxt, oldn, p.size, ?_, ?_, p.os, p.tape, p.output⟩
  · intro i hi
    have hn : h1.next ≤ i := hi
    have := p.nxt
    rw [AHeap.put_ne _ _ (by omega : i ≠ id)]
    exact p.hr.fresh i hn
  · intro i o ho
    by_cases hi : i = id
    · subst hi
      rw [AHeap.put_same] at ho; cases ho
      exact ⟨eid, he', hor.keep p.le hblk⟩
    · rw [AHeap.put_ne _ _ hi] at ho
      exact p.hr.obj i o ho
  · intro i j b hi hj
    rcases own2 i b hi with ⟨rfl, g1, rfl⟩ | hi' <;> rcases own2 j _ hj with ⟨r1, r2, r3⟩ | hj'
    · exact r1.symm
    · exact (clash j hj' g1).symm
    · rw [r1]; exact clash i (r3 ▸ hi') r2
    · exact p.hr.sep i j b hi' hj'
  · intro b hb hn
    exact p.frame b hb (fun i hi => hn i (own i b hi))
  · intro i b hi
    rcases own2 i b hi with ⟨rfl, g1, rfl⟩ | hi'
    · exact .inl ⟨i, eid, ob, AHeap.put_same _ _ _, g1, he, rfl⟩
    · rcases p.inside i b hi' with ⟨j, hj⟩ | hge
      · exact .inl ⟨j, own j b hj⟩
      · exact .inr hge

inductive Cls where
  | P | R | A | E
  deriving DecidableEq

def clsOf (P : Program) (op : Op) : Cls :=
  match op with
  | .load _ _ | .lookup _ _ _ _ => .R
  | .alloc _ | .box _ _ | .buildSlice _ _ _ | .makeSlice _ _ _ | .makeMap _ _ => .A
  | .store _ _ _ | .mapUpdate _ _ _ _ | .insert _ _ _ _ => .E
  | .call c => match c.callee with
    | .builtin .len => (match (c.argTypes[0]?).bind P.underlying with
      | some (.map _ _) => .R
      | _ => .P)
    | .builtin .min | .builtin .max => .P
    | _ => .E
  | _ => .P

/-- A call of a function by its value. -/
def callOf (op : Op) (e : FEnv) : Option (FuncId × List Value) :=
  match op with
  | .call c => match c.callee with
    | .value f => (match evO e f, evAll e c.args.toList with
      | some (.func (.func g) first cap), some as => some (g, first.toList ++ as ++ cap.toList)
      | _, _ => none)
    | _ => none
  | _ => none

/-- What one operation comes to. -/
def OpRel (P : Program) (op : Op) (id : Nat) (e : FEnv) (h : AHeap) (v : Value) (h' : AHeap) : Prop :=
  match clsOf P op with
  | .P => aPure P op e = some v ∧ h' = h
  | .R => aRead P op e h = some v ∧ h' = h
  | .A => ∃ ob mk, aAlloc P op e = some (ob, mk) ∧ h.obj id = none ∧ v = mk id ∧ h' = h.put id ob
  | .E => match callOf op e with
    | some (f, args) => ACallD P f args h v h'
    | none => aEff P op e id h = some (v, h')

/-- One operation, for whoever walks. -/
def opP (P : Program) (op : Op) (id : Nat) (e : FEnv) (h : AHeap) (K : Value → AHeap → Prop) : Prop :=
  match clsOf P op with
  | .P => ∃ v, aPure P op e = some v ∧ K v h
  | .R => ∃ v, aRead P op e h = some v ∧ K v h
  | .A => ∃ ob mk, aAlloc P op e = some (ob, mk) ∧ (h.obj id = none → K (mk id) (h.put id ob))
  | .E => match callOf op e with
    | some (f, args) => ACallW P f args h K
    | none => ∃ v h', aEff P op e id h = some (v, h') ∧ K v h'

theorem opP_rel {op : Op} {id : Nat} {e : FEnv} {h : AHeap} {K : Value → AHeap → Prop} (hid : h.obj id = none) (hwf : WF h) (hp : opP P op id e h K) : ∃ v h', OpRel P op id e h v h' ∧ K v h' := by
  unfold opP at hp
  unfold OpRel
  split at hp
  · obtain ⟨v, a, b⟩ := hp; exact ⟨v, h, ⟨a, rfl⟩, b⟩
  · obtain ⟨v, a, b⟩ := hp; exact ⟨v, h, ⟨a, rfl⟩, b⟩
  · obtain ⟨ob, mk, a, b⟩ := hp; exact ⟨_, _, ⟨ob, mk, a, hid, rfl, rfl⟩, b hid⟩
  · split at hp
    · exact hp hwf
    · obtain ⟨v, h', a, b⟩ := hp; exact ⟨v, h', a, b⟩

/-- The slots that an operation looks at. -/
def looks (op : Op) : List Tmp := op.operands.toList.filterMap fun | .tmp t => some t | _ => none

def Agree (op : Op) (e e' : FEnv) : Prop := ∀ x ∈ op.operands.toList, evO e x = evO e' x

theorem agree_put {op : Op} {e : FEnv} {d : Option Tmp} {v : Value} (h : ∀ t, d = some t → t ∉ looks op) : Agree op (e.put d v) e := by
  intro x hx
  cases d with
  | none => rfl
  | some d =>
    cases x with
    | tmp t =>
      have : t ≠ d := by
        intro g
        subst g
        exact h t rfl (List.mem_filterMap.2 ⟨.tmp t, hx, rfl⟩)
      simp [evO, FEnv.put, this]
    | const v => rfl
    | global g => rfl
    | func f => rfl

theorem evAll_congr {e e' : FEnv} : ∀ {l : List Operand}, (∀ x ∈ l, evO e x = evO e' x) → evAll e l = evAll e' l
  | [], _ => rfl
  | x :: r, h => by
    unfold evAll
    rw [h x (by simp), evAll_congr (l := r) (fun y hy => h y (by simp [hy]))]

theorem evParts_congr {e e' : FEnv} : ∀ {l : List (Nat × Operand)}, (∀ p ∈ l, evO e p.2 = evO e' p.2) → evParts e l = evParts e' l
  | [], _ => rfl
  | (i, x) :: r, h => by
    unfold evParts
    rw [h (i, x) (by simp), evParts_congr (l := r) (fun y hy => h y (by simp [hy]))]

theorem optV_congr {e e' : FEnv} {x : Option Operand} (h : ∀ y, x = some y → evO e y = evO e' y) : optV e x = optV e' x := by
  cases x with
  | none => rfl
  | some x => simp only [optV, h x rfl]

set_option maxHeartbeats 1000000 in
theorem aPure_congr {op : Op} {e e' : FEnv} (h : Agree op e e') : aPure P op e = aPure P op e' := by
  unfold Agree Op.operands at h
  cases op with
  | move x => simp only [aPure, h x (by simp)]
  | assign x => simp only [aPure, h x (by simp)]
  | pick c a b => simp only [aPure, h c (by simp), h a (by simp), h b (by simp)]
  | nilCheck x => simp only [aPure, h x (by simp)]
  | binOp o t x y u => simp only [aPure, h x (by simp), h y (by simp)]
  | unOp o t x => simp only [aPure, h x (by simp)]
  | convert s d x => simp only [aPure, h x (by simp)]
  | slice t x lo hi mx =>
    have h1 := optV_congr (x := lo) (e := e) (e' := e') (fun y hy => h y (by subst hy; simp))
    have h2 := optV_congr (x := hi) (e := e) (e' := e') (fun y hy => h y (by subst hy; simp))
    cases mx with
    | none => simp only [aPure, h x (by simp), h1, h2]
    | some m => rfl
  | fieldAddr t x f => simp only [aPure, h x (by simp)]
  | field t x f => simp only [aPure, h x (by simp)]
  | indexAddr t x i => simp only [aPure, h x (by simp), h i (by simp)]
  | index t x i => simp only [aPure, h x (by simp), h i (by simp)]
  | extract x i => simp only [aPure, h x (by simp)]
  | makeFunc fn first cap =>
    have h1 := evAll_congr (e := e) (e' := e') (l := first.toList) (fun y hy => h y (by simp [Array.mem_toList_iff.1 hy]))
    have h2 := evAll_congr (e := e) (e' := e') (l := cap.toList) (fun y hy => h y (by simp [Array.mem_toList_iff.1 hy]))
    simp only [aPure, h1, h2]
  | makeInterface t x => simp only [aPure, h x (by simp)]
  | build t parts =>
    have h1 := evParts_congr (e := e) (e' := e') (l := parts.toList) (fun p hp => h p.2 (by simp only [List.mem_map]; exact ⟨p, hp, rfl⟩))
    simp only [aPure, h1]
  | call c =>
    have h1 : ∀ x ∈ c.args.toList, evO e x = evO e' x := fun x hx => h x (by simp [Call.operands, Array.mem_toList_iff.1 hx])
    simp only [aPure]
    split
    · rename_i hc ha
      rw [ha] at h1
      rw [h1 _ (by simp)]
    · rename_i hc ha
      rw [ha] at h1
      rw [h1 _ (by simp), h1 _ (by simp)]
    · rename_i hc ha
      rw [ha] at h1
      rw [h1 _ (by simp), h1 _ (by simp)]
    · rfl
  | _ => rfl

theorem aRead_congr {op : Op} {e e' : FEnv} {hp : AHeap} (h : Agree op e e') : aRead P op e hp = aRead P op e' hp := by
  unfold Agree Op.operands at h
  cases op with
  | load t x => simp only [aRead, h x (by simp)]
  | lookup t x k ok => simp only [aRead, h x (by simp), h k (by simp)]
  | call c =>
    have h1 : ∀ x ∈ c.args.toList, evO e x = evO e' x := fun x hx => h x (by simp [Call.operands, Array.mem_toList_iff.1 hx])
    simp only [aRead]
    split
    · rename_i hc ha
      rw [ha] at h1
      rw [h1 _ (by simp)]
    · rfl
  | _ => rfl

theorem aAlloc_congr {op : Op} {e e' : FEnv} (h : Agree op e e') : aAlloc P op e = aAlloc P op e' := by
  unfold Agree Op.operands at h
  cases op with
  | box t x => simp only [aAlloc, h x (by simp)]
  | buildSlice t n parts =>
    have h1 := evParts_congr (e := e) (e' := e') (l := parts.toList) (fun p hp => h p.2 (by simp only [List.mem_map]; exact ⟨p, hp, rfl⟩))
    simp only [aAlloc, h1]
  | makeSlice t l c => simp only [aAlloc, h l (by simp), h c (by simp)]
  | makeMap t r =>
    cases r with
    | none => rfl
    | some x => simp only [aAlloc, h x (by simp)]
  | _ => rfl

theorem aEff_congr {op : Op} {e e' : FEnv} {id : Nat} {hp : AHeap} (h : Agree op e e') : aEff P op e id hp = aEff P op e' id hp := by
  unfold Agree Op.operands at h
  cases op with
  | store t x y => simp only [aEff, h x (by simp), h y (by simp)]
  | mapUpdate t m k x => simp only [aEff, h m (by simp), h k (by simp), h x (by simp)]
  | insert t m k x => simp only [aEff, h m (by simp), h k (by simp), h x (by simp)]
  | call c =>
    have h1 : ∀ x ∈ c.args.toList, evO e x = evO e' x := fun x hx => h x (by simp [Call.operands, Array.mem_toList_iff.1 hx])
    simp only [aEff]
    split
    · rename_i hc ha
      rw [ha] at h1
      rw [h1 _ (by simp), h1 _ (by simp)]
    · rename_i hc ha
      rw [ha] at h1
      rw [h1 _ (by simp), h1 _ (by simp)]
    · rfl
  | _ => rfl

theorem callOf_congr {op : Op} {e e' : FEnv} (h : Agree op e e') : callOf op e = callOf op e' := by
  unfold Agree Op.operands at h
  cases op with
  | call c =>
    simp only [callOf]
    split
    · rename_i f hc
      have hf : evO e f = evO e' f := h f (by simp [Call.operands, hc])
      have h1 := evAll_congr (e := e) (e' := e') (l := c.args.toList) (fun y hy => h y (by simp [Call.operands, Array.mem_toList_iff.1 hy]))
      rw [hf, h1]
    · rfl
  | _ => rfl

theorem OpRel_congr {op : Op} {id : Nat} {e e' : FEnv} {h h' : AHeap} {v : Value} (ha : Agree op e e') : OpRel P op id e h v h' ↔ OpRel P op id e' h v h' := by
  unfold OpRel
  rw [aPure_congr ha, aRead_congr ha, aAlloc_congr ha, callOf_congr ha, aEff_congr ha]

/-- What is read is read as well where there is one more object. -/
theorem aRead_put {op : Op} {e : FEnv} {h : AHeap} {v : Value} {id : Nat} (ob : AObj) (hid : h.obj id = none) (hv : aRead P op e h = some v) : aRead P op e (h.put id ob) = some v := by
  have sub : ∀ {j o}, h.obj j = some o → (h.put id ob).obj j = some o := by
    intro j o ho
    have : j ≠ id := fun g => by rw [g, hid] at ho; cases ho
    rw [AHeap.put_ne _ _ this]; exact ho
  cases op with
  | load t x =>
    simp only [aRead] at hv ⊢
    split at hv
    · split at hv
      · rename_i ho; rw [sub ho]; exact hv
      · cases hv
    · cases hv
  | lookup t x k ok =>
    simp only [aRead] at hv ⊢
    split at hv
    · rename_i r kv _ _ _
      cases r with
      | none => exact hv
      | some i =>
        simp only at hv ⊢
        cases ho : h.obj i with
        | none => rw [ho] at hv; simp at hv
        | some o => rw [ho] at hv; rw [sub ho]; exact hv
    · cases hv
  | call c =>
    simp only [aRead] at hv ⊢
    split at hv
    · split at hv
      · exact hv
      · split at hv
        · rename_i ho; simp only [sub ho]; exact hv
        · cases hv
      · cases hv
    · cases hv
  | _ => simp [aRead] at hv

theorem aSrc_put {h : AHeap} {sz : Nat} {v : Value} {r : List Value × Nat} {id : Nat} (ob : AObj) (hid : h.obj id = none) (hv : aSrc h sz v = some r) : aSrc (h.put id ob) sz v = some r := by
  have sub : ∀ {j o}, h.obj j = some o → (h.put id ob).obj j = some o := by
    intro j o ho
    have : j ≠ id := fun g => by rw [g, hid] at ho; cases ho
    rw [AHeap.put_ne _ _ this]; exact ho
  unfold aSrc at hv ⊢
  split at hv
  · exact hv
  · split at hv
    · rename_i hm; rw [if_pos hm]; exact hv
    · rename_i hm
      rw [if_neg hm]
      split at hv
      · rename_i ho; simp only [sub ho]; exact hv
      · cases hv
  · exact hv
  · cases hv

theorem del_put (h : AHeap) {i j : Nat} (o : AObj) (n : i ≠ j) : (h.put i o).del j = (h.del j).put i o := by
  simp only [AHeap.put, AHeap.del]
  congr 1
  funext k
  by_cases h1 : k = i <;> by_cases h2 : k = j <;> simp_all

set_option maxHeartbeats 1000000 in
theorem aEff_put {op : Op} {e : FEnv} {h h' : AHeap} {v : Value} {id j : Nat} (ob : AObj) (hj : h.obj j = none) (hij : id ≠ j) (hv : aEff P op e id h = some (v, h')) :
    aEff P op e id (h.put j ob) = some (v, h'.put j ob) ∧ h'.obj j = none := by
  have sub : ∀ {k o}, h.obj k = some o → (h.put j ob).obj k = some o ∧ k ≠ j := by
    intro k o ho
    have : k ≠ j := fun g => by rw [g, hj] at ho; cases ho
    rw [AHeap.put_ne _ _ this]; exact ⟨ho, this⟩
  cases op with
  | store t x y =>
    simp only [aEff] at hv ⊢
    split at hv
    · split at hv
      · rename_i ho
        obtain ⟨s1, s2⟩ := sub ho
        rw [s1]
        simp only
        split at hv
        · rename_i hc
          cases hv
          rw [if_pos hc]
          exact ⟨by rw [AHeap.put_comm _ _ _ (Ne.symm s2)], by rw [AHeap.put_ne _ _ (Ne.symm s2)]; exact hj⟩
        · cases hv
      · cases hv
    · cases hv
  | mapUpdate t m k x =>
    simp only [aEff] at hv ⊢
    split at hv
    · split at hv
      · rename_i hd ho
        obtain ⟨s1, s2⟩ := sub ho
        simp only [s1, hd]
        split at hv
        · rename_i hc
          rw [if_pos hc]
          split at hv
          all_goals first
            | (cases hv; done)
            | (cases hv; exact ⟨by rw [AHeap.put_comm _ _ _ (Ne.symm s2)], by rw [AHeap.put_ne _ _ (Ne.symm s2)]; exact hj⟩)
        · cases hv
      · cases hv
    · cases hv
  | insert t m k x =>
    simp only [aEff] at hv ⊢
    split at hv
    · split at hv
      · rename_i hd ho
        obtain ⟨s1, s2⟩ := sub ho
        simp only [s1, hd]
        split at hv
        · rename_i hc
          rw [if_pos hc]
          split at hv
          all_goals first
            | (cases hv; done)
            | (cases hv; exact ⟨by rw [AHeap.put_comm _ _ _ (Ne.symm s2)], by rw [AHeap.put_ne _ _ (Ne.symm s2)]; exact hj⟩)
        · cases hv
      · cases hv
    · cases hv
  | call c =>
    simp only [aEff] at hv ⊢
    split at hv
    · split at hv
      · split at hv
        · split at hv
          · split at hv
            · rename_i hcnd
              rw [if_pos hcnd]
              split at hv
              · rename_i hsrc
                rw [aSrc_put ob hj hsrc]
                simp only
                split at hv
                · rename_i hm
                  rw [if_pos hm]
                  split at hv
                  all_goals first
                    | (cases hv; done)
                    | (cases hv; exact ⟨rfl, hj⟩)
                · rename_i hm
                  rw [if_neg hm]
                  split at hv
                  · split at hv
                    · rename_i h47
                      cases hv
                      rw [if_pos h47]
                      exact ⟨by rw [AHeap.put_comm _ _ _ (Ne.symm hij)], by rw [AHeap.put_ne _ _ (Ne.symm hij)]; exact hj⟩
                    · cases hv
                  · split at hv
                    · rename_i ho
                      obtain ⟨s1, s2⟩ := sub ho
                      simp only [s1]
                      split at hv
                      · rename_i hc2
                        cases hv
                        rw [if_pos hc2]
                        exact ⟨by rw [AHeap.put_comm _ _ _ hij, del_put _ _ (Ne.symm s2)], by rw [AHeap.put_ne _ _ (Ne.symm hij), AHeap.del_ne _ (Ne.symm s2)]; exact hj⟩
                      · cases hv
                    · cases hv
                  · cases hv
              · cases hv
            · cases hv
          · cases hv
        · cases hv
      · cases hv
    · split at hv
      · split at hv
        · rename_i hsz ho
          obtain ⟨s1, s2⟩ := sub ho
          simp only [s1, hsz]
          split at hv
          · rename_i hsrc
            rw [aSrc_put ob hj hsrc]
            simp only
            split at hv
            · rename_i hc2
              cases hv
              rw [if_pos hc2]
              exact ⟨by rw [AHeap.put_comm _ _ _ (Ne.symm s2)], by rw [AHeap.put_ne _ _ (Ne.symm s2)]; exact hj⟩
            · cases hv
          · cases hv
        · cases hv
      · cases hv
    · cases hv
  | _ => simp [aEff] at hv

theorem aEff_still {op : Op} {e : FEnv} {h h' : AHeap} {v : Value} {id j : Nat} (hj : j ≠ id) (hs : still (h.obj j) = true) (hv : aEff P op e id h = some (v, h')) : h'.obj j = h.obj j := by
  have tput : ∀ {i : Nat} {o p : AObj}, h.obj i = some o → (o.owned = true) → (h.put i p).obj j = h.obj j := by
    intro i o p ho hown
    refine AHeap.put_ne _ _ ?_
    rintro rfl
    rw [ho] at hs
    cases o with
    | map own es => simp only [AObj.owned] at hown; subst hown; cases hs
    | arr own ty c => simp only [AObj.owned] at hown; subst hown; cases hs
  have tdel : ∀ {i : Nat} {o p : AObj}, h.obj i = some o → (o.owned = true) → ((h.del i).put id p).obj j = h.obj j := by
    intro i o p ho hown
    rw [AHeap.put_ne _ _ hj]
    refine AHeap.del_ne _ ?_
    rintro rfl
    rw [ho] at hs
    cases o with
    | map own es => simp only [AObj.owned] at hown; subst hown; cases hs
    | arr own ty c => simp only [AObj.owned] at hown; subst hown; cases hs
  cases op with
  | store t x y =>
    simp only [aEff] at hv
    repeat' split at hv
    all_goals first | (cases hv; done) | (cases hv; rfl) | (cases hv; exact tput (by assumption) rfl)
  | mapUpdate t m k x =>
    simp only [aEff] at hv
    repeat' split at hv
    all_goals first | (cases hv; done) | (cases hv; rfl) | (cases hv; exact tput (by assumption) rfl)
  | insert t m k x =>
    simp only [aEff] at hv
    repeat' split at hv
    all_goals first | (cases hv; done) | (cases hv; rfl) | (cases hv; exact tput (by assumption) rfl)
  | call c =>
    simp only [aEff] at hv
    repeat' split at hv
    all_goals first | (cases hv; done) | (cases hv; rfl) | (cases hv; exact tput (by assumption) rfl) | (cases hv; exact AHeap.put_ne _ _ hj) | (cases hv; exact tdel (by assumption) rfl)
  | _ => simp [aEff] at hv

theorem aEff_own {op : Op} {e : FEnv} {h h' : AHeap} {v : Value} {id : Nat} (hv : aEff P op e id h = some (v, h')) {j : Nat} {o : AObj} (ho : h'.obj j = some o) (hw : o.owned = false) : h.obj j = some o := by
  have tput : ∀ {h : AHeap} {i : Nat} {p : AObj}, p.owned = true → (h.put i p).obj j = some o → h.obj j = some o := by
    intro h i p hp hj
    by_cases hi : j = i
    · subst hi; rw [AHeap.put_same] at hj; cases hj; rw [hp] at hw; cases hw
    · rwa [AHeap.put_ne _ _ hi] at hj
  have tdel : ∀ {h : AHeap} {i : Nat}, (h.del i).obj j = some o → h.obj j = some o := by
    intro h i hj
    rw [AHeap.del_obj] at hj
    split at hj
    · cases hj
    · exact hj
  cases op with
  | store t x y =>
    simp only [aEff] at hv
    repeat' split at hv
    all_goals first | (cases hv; done) | (cases hv; exact ho) | (cases hv; exact tput rfl ho)
  | mapUpdate t m k x =>
    simp only [aEff] at hv
    repeat' split at hv
    all_goals first | (cases hv; done) | (cases hv; exact ho) | (cases hv; exact tput rfl ho)
  | insert t m k x =>
    simp only [aEff] at hv
    repeat' split at hv
    all_goals first | (cases hv; done) | (cases hv; exact ho) | (cases hv; exact tput rfl ho)
  | call c =>
    simp only [aEff] at hv
    repeat' split at hv
    all_goals first | (cases hv; done) | (cases hv; exact ho) | (cases hv; exact tdel (tput rfl ho)) | (cases hv; exact tput rfl ho)
  | _ => simp [aEff] at hv

theorem aAlloc_own {op : Op} {e : FEnv} {ob : AObj} {mk : Nat → Value} (hv : aAlloc P op e = some (ob, mk)) : ob.owned = true := by
  cases op <;> simp only [aAlloc] at hv <;> (repeat' split at hv) <;> first | (cases hv; done) | (cases hv; rfl)

theorem aEff_next {op : Op} {e : FEnv} {h h' : AHeap} {v : Value} {id : Nat} (hv : aEff P op e id h = some (v, h')) : h'.next = h.next := by
  cases op with
  | store t x y =>
    simp only [aEff] at hv
    repeat' split at hv
    all_goals first | (cases hv; done) | (cases hv; rfl)
  | mapUpdate t m k x =>
    simp only [aEff] at hv
    repeat' split at hv
    all_goals first | (cases hv; done) | (cases hv; rfl)
  | insert t m k x =>
    simp only [aEff] at hv
    repeat' split at hv
    all_goals first | (cases hv; done) | (cases hv; rfl)
  | call c =>
    simp only [aEff] at hv
    repeat' split at hv
    all_goals first | (cases hv; done) | (cases hv; rfl)
  | _ => simp [aEff] at hv

theorem WF.put {h : AHeap} (hw : WF h) {i : Nat} (o : AObj) (hi : i < h.next) : WF (h.put i o) := fun j hj => by
  have : h.next ≤ j := hj
  rw [AHeap.put_ne _ _ (by omega : j ≠ i)]
  exact hw j this

theorem WF.del {h : AHeap} (hw : WF h) (i : Nat) : WF (h.del i) := fun j hj => by
  have : h.next ≤ j := hj
  rw [AHeap.del_obj]
  split
  · rfl
  · exact hw j this

theorem WF.lt {h : AHeap} (hw : WF h) {i : Nat} {o : AObj} (ho : h.obj i = some o) : i < h.next := by
  rcases Nat.lt_or_ge i h.next with g | g
  · exact g
  · rw [hw i g] at ho; cases ho

theorem WF.bump {h : AHeap} (hw : WF h) (n : Nat) : WF (h.bump n) := fun i hi => hw i (by have : h.next + n ≤ i := hi; omega)

theorem aEff_wf {op : Op} {e : FEnv} {h h' : AHeap} {v : Value} {id : Nat} (hw : WF h) (hid : id < h.next) (hv : aEff P op e id h = some (v, h')) : WF h' := by
  cases op with
  | store t x y =>
    simp only [aEff] at hv
    repeat' split at hv
    all_goals first | (cases hv; done) | (cases hv; exact hw.put _ (hw.lt (by assumption)))
  | mapUpdate t m k x =>
    simp only [aEff] at hv
    repeat' split at hv
    all_goals first | (cases hv; done) | (cases hv; exact hw.put _ (hw.lt (by assumption)))
  | insert t m k x =>
    simp only [aEff] at hv
    repeat' split at hv
    all_goals first | (cases hv; done) | (cases hv; exact hw.put _ (hw.lt (by assumption)))
  | call c =>
    simp only [aEff] at hv
    repeat' split at hv
    all_goals first | (cases hv; done) | (cases hv; exact hw) | (cases hv; exact hw.put _ hid) | (cases hv; exact (hw.del _).put _ hid) | (cases hv; exact hw.put _ (hw.lt (by assumption)))
  | _ => simp [aEff] at hv

theorem OpRel_wf {op : Op} {id : Nat} {e : FEnv} {h h' : AHeap} {v : Value} (hid : id < h.next) (hw : WF h) (ho : OpRel P op id e h v h') : WF h' := by
  unfold OpRel at ho
  split at ho
  · rw [ho.2]; exact hw
  · rw [ho.2]; exact hw
  · obtain ⟨ob, mk, _, _, _, rfl⟩ := ho; exact hw.put _ hid
  · split at ho
    · exact ho.wf hw
    · exact aEff_wf hw hid ho

end Go.Proofs.Ytbcgcnmnblfhmaa.Lin
