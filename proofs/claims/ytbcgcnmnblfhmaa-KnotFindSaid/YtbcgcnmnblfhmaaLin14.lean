/- The model takes a region's steps as told; regions. -/
import Derived.Test.YtbcgcnmnblfhmaaLin13
namespace Go.Proofs.Ytbcgcnmnblfhmaa.Lin
variable {P : Program} {ops : Array Oper} {base : Nat} {B0 : Nat → Prop}

theorem HR.bump {φ : Nat → Option Emb} {h : AHeap} {w : World} (hh : HR B0 φ h w) (n : Nat) : HR B0 φ (h.bump n) w :=
  ⟨hh.size, fun i hi => hh.fresh i (by have : h.next + n ≤ i := hi; omega), hh.obj, hh.sep⟩

theorem Post.unbump {N n : Nat} {φ φ' : Nat → Option Emb} {h h' : AHeap} {w w' : World} (p : Post B0 N φ (h.bump n) w φ' h' w') : Post B0 N φ h w φ' h' w' :=
  ⟨p.hr, p.le, p.ext, by have := p.nxt; rw [AHeap.bump_next] at this; omega, p.old, p.size, p.frame, p.inside, p.os, p.tape, p.output⟩

/-- One step. -/
theorem step_wp {i n : Nat} {o : Oper} {s : SOp} {pend : List SOp} {φ : Nat → Option Emb} {e e1 : FEnv} {h h1 : AHeap} {a : Act} {w : World} {K : Act → World → Prop} {Q : Exit → Act → World → Prop}
    (ho : ops[i]? = some o) (hs : sopAt ops i = some s) (he : ER φ e a.tmps n) (hh : HR B0 φ h w) (hdst : ∀ t, o.dst = some t → t < n) (hφ : φ (base + i) = none) (hid : h.obj (base + i) = none) (hlt : base + i < h.next)
    (S : StepR P s pend base e h e1 h1)
    (hK : ∀ φ1 a1 w1, ER φ1 e1 a1.tmps n → Post B0 base φ h w φ1 h1 w1 → (∀ j, j ≠ base + i → j < h.next → φ1 j = φ j) → a1.defers = a.defers → K a1 w1) : wpOp P ops Q i K a w := by
  obtain ⟨o', ho', hix, hds, hop, _, hwant⟩ := sopAt_spec hs
  rw [ho] at ho'; cases ho'
  have hput : ∀ v : Value, (a.put o.dst v).defers = a.defers := fun v => by cases o.dst <;> rfl
  unfold wpOp
  simp only [ho]
  unfold StepR at S
  split at S
  · rename_i hw
    rw [hwant e a φ n true he hw, if_pos rfl]
    left
    obtain ⟨v, hrel, rfl, _⟩ := S
    rw [hds] at hK
    have fin : ∀ {v' : Value} {φ1 : Nat → Option Emb} {w1 : World}, Runs P a o w v' w1 → VR φ1 v v' → (∀ j, j ≠ base + i → j < h.next → φ1 j = φ j) → Post B0 base φ h w φ1 h1 w1 → o.wp P a w K Q := by
      intro v' φ1 w1 hr hv hφ1 hp
      have hk := hK φ1 (a.put o.dst v') w1 ((he.mono hp.le).put hdst hv) hp hφ1 (hput v')
      unfold Oper.wp
      rcases hr with hr | ⟨hr, rfl⟩
      · rw [hr]; exact hk
      · rw [hr]; exact hk
    rw [hop, hix] at hrel
    unfold OpRel at hrel
    split at hrel
    · obtain ⟨hv, rfl⟩ := hrel
      obtain ⟨v', g1, g2⟩ := aPure_sound he hv w
      exact fin (.inl g1) g2 (fun _ _ _ => rfl) (Post.refl hh)
    · obtain ⟨hv, rfl⟩ := hrel
      obtain ⟨v', g1, g2⟩ := aRead_sound he hh hv
      exact fin (.inl g1) g2 (fun _ _ _ => rfl) (Post.refl hh)
    · obtain ⟨ob, mk, hv, _, rfl, rfl⟩ := hrel
      obtain ⟨v', φ', w', g1, g2, g3, g4⟩ := aAlloc_sound he hh hv hφ hid hlt (Nat.le_add_right base i)
      exact fin (.inl g1) g2 (fun j hj _ => g3 j hj) g4
    · split at hrel
      · rename_i f args hcall
        have hcall' := hcall
        unfold callOf at hcall
        split at hcall
        · rename_i c hopc
          split at hcall
          · rename_i x hcal
            split at hcall
            · rename_i g first cap as hx has
              cases hcall
              have hx' := he.eval hx
              have has' := evAll_sound he has
              generalize hux : a.eval x = ux at *
              cases hx' with
              | @func _ _ first' _ cap' q1 q2 q3 q4 =>
                obtain ⟨⟨fn, f1, f2, f3⟩, _, _, _, _, hrun⟩ := hrel
                have hargs : VRs φ (first.toList ++ as ++ cap.toList) (first'.toList ++ c.args.toList.map a.eval ++ cap'.toList) :=
                  VRs.append (VRs.append ⟨by simpa using q1, by simpa using q2⟩ has') ⟨by simpa using q3, by simpa using q4⟩
                have hr : (execOp a.eval o).run P w = .ok (.enter f (first'.toList ++ c.args.toList.map a.eval ++ cap'.toList).toArray) w := by
                  unfold execOp
                  have harr : first' ++ Array.map a.eval c.args ++ cap' = (first'.toList ++ c.args.toList.map a.eval ++ cap'.toList).toArray := by apply Array.ext'; simp
                  simp only [hopc, resolve, hcal, hux, Deferred.ofValue, Sem.run_bind, Sem.run_pure, Result.andThen_ok, invoke, callFunc, run_program, f1, f2, f3, Bool.false_eq_true, if_false, harr]
                unfold Oper.wp
                rw [hr]
                show Calls P f _ w _
                refine (hrun B0 φ _ w hargs hh).mono ?_
                rintro en w' ⟨v', φ', rfl, hv, hp⟩
                refine hK φ' (a.put o.dst v') w' ((he.mono hp.le).put hdst hv) (hp.weak (by omega)) (fun j _ hj => hp.ext j hj) (hput v')
            · cases hcall
          · cases hcall
        · cases hcall
      · obtain ⟨v', φ', w', g1, g2, g3, g4⟩ := aEff_sound he hh hφ hid hlt (Nat.le_add_right base i) hrel
        exact fin g1 g2 (fun j hj _ => g3 j hj) g4
  · rename_i hw
    rw [hwant e a φ n false he hw, if_neg (by simp)]
    obtain ⟨rfl, rfl⟩ := S
    rw [hds] at hK
    exact hK φ (a.put o.dst undef) w (he.put hdst undef_rel) (Post.refl hh) (fun _ _ _ => rfl) (hput undef)
  · exact S.elim

def dstsOk (n : Nat) (ops : Array Oper) : Bool := ops.toList.all fun o => match o.dst with
  | some t => decide (t < n)
  | none => true

theorem dstsOk_spec {n : Nat} (h : dstsOk n ops = true) {i : Nat} {o : Oper} (ho : ops[i]? = some o) : ∀ t, o.dst = some t → t < n := by
  intro t ht
  unfold dstsOk at h
  rw [List.all_eq_true] at h
  have := h o (by rw [Array.mem_toList_iff]; exact Array.mem_of_getElem? ho)
  rw [ht] at this
  simpa using this

/-- In every order that the edges allow. -/
theorem any_wp {n : Nat} {Q : Exit → Act → World → Prop} (hd : dstsOk n ops = true) : ∀ (f : Nat) {l : Array Bool} {φ : Nat → Option Emb} {e e' : FEnv} {h h' : AHeap} {a : Act} {w : World},
    AnyR P ops base f l e h e' h' → ER φ e a.tmps n → HR B0 φ h w → Inv ops base l h → (∀ j, j < ops.size → l.getD j true = false → φ (base + j) = none) →
    (∀ φ1 a1 w1, ER φ1 e' a1.tmps n → Post B0 base φ h w φ1 h' w1 → a1.defers = a.defers → Q .normal a1 w1) → wpAny P .any ops Q f l a w := by
  intro f
  induction f with
  | zero =>
    intro l φ e e' h h' a w hA he hh inv hφ hQ
    obtain ⟨h1, rfl, rfl⟩ := hA
    exact ⟨h1, hQ φ a w he (Post.refl hh) rfl⟩
  | succ f ih =>
    intro l φ e e' h h' a w hA he hh inv hφ hQ
    obtain ⟨h1, hA⟩ := hA
    refine ⟨fun g => absurd g h1, fun i hi => ?_⟩
    obtain ⟨s, e1, h1', hs, S, A⟩ := hA i hi
    obtain ⟨o, ho, hix, _⟩ := sopAt_spec hs
    have hil := (ready_lt hi).2
    have hiu := (ready_spec.1 hi).1
    have hroom := inv.room
    refine step_wp ho hs he hh (dstsOk_spec hd ho) (hφ i hil hiu) (inv.free i hil hiu) (by omega) S (fun φ1 a1 w1 he1 hp1 hφ1 hd1 => ?_)
    refine ih A he1 hp1.hr (inv.step hi hs S) (fun j hj hl => ?_) (fun φ2 a2 w2 he2 hp2 hd2 => hQ φ2 a2 w2 he2 (hp1.trans hp2) (hd2.trans hd1))
    rw [getD_set _ _ _ _ (ready_lt hi).1] at hl
    split at hl
    · cases hl
    · rename_i hji
      rw [hφ1 _ (by omega) (by omega)]
      exact hφ j hj hl

/-- In the text's order. -/
def SeqR (P : Program) (ops : Array Oper) (base : Nat) : List Nat → FEnv → AHeap → FEnv → AHeap → Prop
  | [], e, h, e', h' => e' = e ∧ h' = h
  | i :: r, e, h, e', h' => ∃ s e1 h1, sopAt ops i = some s ∧ StepR P s [] base e h e1 h1 ∧ SeqR P ops base r e1 h1 e' h'

theorem seq_wp {n : Nat} {Q : Exit → Act → World → Prop} (hd : dstsOk n ops = true) : ∀ (l : List Nat) {φ : Nat → Option Emb} {e e' : FEnv} {h h' : AHeap} {a : Act} {w : World}, l.Nodup →
    SeqR P ops base l e h e' h' → ER φ e a.tmps n → HR B0 φ h w → base + ops.size ≤ h.next → (∀ j ∈ l, j < ops.size ∧ φ (base + j) = none ∧ h.obj (base + j) = none) →
    (∀ φ1 a1 w1, ER φ1 e' a1.tmps n → Post B0 base φ h w φ1 h' w1 → a1.defers = a.defers → Q .normal a1 w1) → wpOps P ops Q l a w := by
  intro l
  induction l with
  | nil =>
    intro φ e e' h h' a w _ hA he hh hroom hφ hQ
    obtain ⟨rfl, rfl⟩ := hA
    exact hQ φ a w he (Post.refl hh) rfl
  | cons i r ih =>
    intro φ e e' h h' a w hnd hA he hh hroom hφ hQ
    obtain ⟨s, e1, h1, hs, S, A⟩ := hA
    obtain ⟨o, ho, hix, _⟩ := sopAt_spec hs
    obtain ⟨g1, g2, g3⟩ := hφ i (by simp)
    rw [wpOps_cons]
    rw [List.nodup_cons] at hnd
    refine step_wp ho hs he hh (dstsOk_spec hd ho) g2 g3 (by omega) S (fun φ1 a1 w1 he1 hp1 hφ1 hd1 => ?_)
    obtain ⟨q1, q2⟩ := StepR_old S
    refine ih hnd.2 A he1 hp1.hr (by omega) (fun j hj => ?_) (fun φ2 a2 w2 he2 hp2 hd2 => hQ φ2 a2 w2 he2 (hp1.trans hp2) (hd2.trans hd1))
    obtain ⟨k1, k2, k3⟩ := hφ j (by simp [hj])
    have hji : j ≠ i := fun g => hnd.1 (g ▸ hj)
    exact ⟨k1, by rw [hφ1 _ (by omega) (by omega)]; exact k2, q2 _ (by omega) (by omega) k3⟩

def textPath (ops : Array Oper) : List Nat → Option Path
  | [] => some []
  | i :: r => match sopAt ops i, textPath ops r with
    | some s, some p => some ((s, []) :: p)
    | _, _ => none

theorem text_sound {K : FEnv → AHeap → Prop} : ∀ (l : List Nat) {p : Path} {e : FEnv} {h : AHeap}, l.Nodup → base + ops.size ≤ h.next → WF h → (∀ j ∈ l, j < ops.size ∧ h.obj (base + j) = none) → textPath ops l = some p → runP P base p K e h →
    ∃ e' h', SeqR P ops base l e h e' h' ∧ K e' h' := by
  intro l
  induction l with
  | nil =>
    intro p e h _ _ _ _ hp hr
    simp [textPath] at hp
    subst hp
    exact ⟨e, h, ⟨rfl, rfl⟩, hr⟩
  | cons i r ih =>
    intro p e h hnd hroom hwf hφ hp hr
    unfold textPath at hp
    rw [List.nodup_cons] at hnd
    split at hp
    · rename_i s q hs hq
      cases hp
      obtain ⟨o, ho, hix, _⟩ := sopAt_spec hs
      obtain ⟨g1, g2⟩ := hφ i (by simp)
      unfold runP at hr
      obtain ⟨e1, h1, S, hK⟩ := stepP_rel (by rw [hix]; exact g2) hwf hr
      obtain ⟨q1, q2⟩ := StepR_old S
      obtain ⟨e', h', A, k⟩ := ih hnd.2 (by omega) (StepR_wf (by omega) hwf S) (fun j hj => by
        obtain ⟨k1, k2⟩ := hφ j (by simp [hj])
        have hji : j ≠ i := fun g => hnd.1 (g ▸ hj)
        exact ⟨k1, q2 _ (by omega) (by omega) k2⟩) hq hK
      exact ⟨e', h', ⟨s, e1, h1, hs, S, A⟩, k⟩
    · cases hp

abbrev Env := List (Tmp × Value)
def envF (env : Env) : FEnv := fun t => env.lookup t

/-- The slots that are still of use. -/
def canon (keep : List Tmp) (e : FEnv) : Env := keep.filterMap fun t => (e t).map fun v => (t, v)

theorem canon_sub {keep : List Tmp} {e : FEnv} : ∀ t v, envF (canon keep e) t = some v → e t = some v := by
  intro t v h
  unfold envF canon at h
  induction keep with
  | nil => simp at h
  | cons k r ih =>
    rw [List.filterMap_cons] at h
    cases hk : e k with
    | none => rw [hk] at h; exact ih h
    | some u =>
      rw [hk] at h
      simp only [Option.map_some, List.lookup_cons] at h
      split at h
      · rename_i htk
        have : t = k := by simpa using htk
        subst this
        rw [hk]; exact h
      · exact ih h

/-- What a piece of code comes to: by how it ends, its slots, its heap. -/
structure AWD (P : Program) (n : Nat) (c : Code) (env : Env) (h : AHeap) (x : Exit) (env' : Env) (h' : AHeap) : Prop where
  old : ∀ i, i < h.next → still (h.obj i) = true → h'.obj i = h.obj i
  nxt : h.next ≤ h'.next
  wf : WF h → WF h'
  own : ∀ i o, h'.obj i = some o → o.owned = false → h.obj i = some o
  run : ∀ (B0 : Nat → Prop) (φ : Nat → Option Emb) (a : Act) (w : World), ER φ (envF env) a.tmps n → HR B0 φ h w →
    c.wp P (fun ex a' w' => ex = x ∧ a'.defers = a.defers ∧ ∃ φ', ER φ' (envF env') a'.tmps n ∧ Post B0 h.next φ h w φ' h' w') a w

def AW (P : Program) (n : Nat) (c : Code) (env : Env) (h : AHeap) (Q : Exit → Env → AHeap → Prop) : Prop := WF h → ∃ x env' h', AWD P n c env h x env' h' ∧ Q x env' h'

theorem SeqR_old : ∀ {l : List Nat} {e e' : FEnv} {h h' : AHeap}, SeqR P ops base l e h e' h' → h.next ≤ h'.next ∧ ∀ j, j < base → base ≤ h.next → h.obj j = none → h'.obj j = none
  | [], _, _, _, _, ⟨_, rfl⟩ => ⟨Nat.le_refl _, fun _ _ _ h => h⟩
  | i :: r, e, e', h, h', ⟨s, e1, h1, hs, S, A⟩ => by
    obtain ⟨q1, q2⟩ := StepR_old S
    obtain ⟨r1, r2⟩ := SeqR_old A
    exact ⟨Nat.le_trans q1 r1, fun j hj hb hn => r2 j hj (by omega) (q2 j (by omega) (by omega) hn)⟩

theorem AnyR_old : ∀ (f : Nat) {l : Array Bool} {e e' : FEnv} {h h' : AHeap}, AnyR P ops base f l e h e' h' → h.next ≤ h'.next ∧ ∀ j, j < base → base ≤ h.next → h.obj j = none → h'.obj j = none := by
  intro f
  induction f with
  | zero => intro l e e' h h' hA; obtain ⟨_, _, rfl⟩ := hA; exact ⟨Nat.le_refl _, fun _ _ _ h => h⟩
  | succ f ih =>
    intro l e e' h h' hA
    obtain ⟨hne, hA⟩ := hA
    obtain ⟨i, hi⟩ := List.exists_mem_of_ne_nil _ hne
    obtain ⟨s, e1, h1, hs, S, A⟩ := hA i hi
    obtain ⟨q1, q2⟩ := StepR_old S
    obtain ⟨r1, r2⟩ := ih A
    exact ⟨Nat.le_trans q1 r1, fun j hj hb hn => r2 j hj (by omega) (q2 j (by omega) (by omega) hn)⟩

theorem SeqR_wf : ∀ {l : List Nat} {e e' : FEnv} {h h' : AHeap}, SeqR P ops base l e h e' h' → WF h → base + ops.size ≤ h.next → (∀ j ∈ l, j < ops.size) → WF h'
  | [], _, _, _, _, ⟨_, rfl⟩, hw, _, _ => hw
  | i :: r, e, e', h, h', ⟨s, e1, h1, hs, S, A⟩, hw, hr, hl => by
    obtain ⟨o, _, hix, _⟩ := sopAt_spec hs
    obtain ⟨q1, _⟩ := StepR_old S
    have := hl i (by simp)
    exact SeqR_wf A (StepR_wf (by omega) hw S) (by omega) (fun j hj => hl j (by simp [hj]))

theorem AnyR_wf : ∀ (f : Nat) {l : Array Bool} {e e' : FEnv} {h h' : AHeap}, AnyR P ops base f l e h e' h' → Inv ops base l h → WF h' := by
  intro f
  induction f with
  | zero => intro l e e' h h' hA inv; obtain ⟨_, _, rfl⟩ := hA; exact inv.wf
  | succ f ih =>
    intro l e e' h h' hA inv
    obtain ⟨hne, hA⟩ := hA
    obtain ⟨i, hi⟩ := List.exists_mem_of_ne_nil _ hne
    obtain ⟨s, e1, h1, hs, S, A⟩ := hA i hi
    exact ih A (inv.step hi hs S)

theorem SeqR_still : ∀ {l : List Nat} {e e' : FEnv} {h h' : AHeap}, SeqR P ops base l e h e' h' → ∀ j, j < base → base ≤ h.next → still (h.obj j) = true → h'.obj j = h.obj j
  | [], _, _, _, _, ⟨_, rfl⟩ => fun _ _ _ _ => rfl
  | i :: r, e, e', h, h', ⟨s, e1, h1, hs, S, A⟩ => fun j hj hb hn => by
    obtain ⟨q1, _⟩ := StepR_old S
    have q2 := StepR_still S (j := j) (by omega) (by omega) hn
    rw [SeqR_still A j hj (by omega) (by rw [q2]; exact hn), q2]

theorem AnyR_still : ∀ (f : Nat) {l : Array Bool} {e e' : FEnv} {h h' : AHeap}, AnyR P ops base f l e h e' h' → ∀ j, j < base → base ≤ h.next → still (h.obj j) = true → h'.obj j = h.obj j := by
  intro f
  induction f with
  | zero => intro l e e' h h' hA; obtain ⟨_, _, rfl⟩ := hA; exact fun _ _ _ _ => rfl
  | succ f ih =>
    intro l e e' h h' hA j hj hb hn
    obtain ⟨hne, hA⟩ := hA
    obtain ⟨i, hi⟩ := List.exists_mem_of_ne_nil _ hne
    obtain ⟨s, e1, h1, hs, S, A⟩ := hA i hi
    obtain ⟨q1, _⟩ := StepR_old S
    have q2 := StepR_still S (j := j) (by omega) (by omega) hn
    rw [ih A j hj (by omega) (by rw [q2]; exact hn), q2]

theorem SeqR_own : ∀ {l : List Nat} {e e' : FEnv} {h h' : AHeap}, SeqR P ops base l e h e' h' → ∀ j o, h'.obj j = some o → o.owned = false → h.obj j = some o
  | [], _, _, _, _, ⟨_, rfl⟩ => fun _ _ a _ => a
  | i :: r, e, e', h, h', ⟨s, e1, h1, hs, S, A⟩ => fun j o a b => StepR_own S (SeqR_own A j o a b) b

theorem AnyR_own : ∀ (f : Nat) {l : Array Bool} {e e' : FEnv} {h h' : AHeap}, AnyR P ops base f l e h e' h' → ∀ j o, h'.obj j = some o → o.owned = false → h.obj j = some o := by
  intro f
  induction f with
  | zero => intro l e e' h h' hA; obtain ⟨_, _, rfl⟩ := hA; exact fun _ _ a _ => a
  | succ f ih =>
    intro l e e' h h' hA j o a b
    obtain ⟨hne, hA⟩ := hA
    obtain ⟨i, hi⟩ := List.exists_mem_of_ne_nil _ hne
    obtain ⟨s, e1, h1, hs, S, A⟩ := hA i hi
    exact StepR_own S (ih A j o a b) b

/-- A region. -/
theorem aw_region {n id : Nat} {draw : Bool} {p : Path} {keep : List Tmp} {env : Env} {h : AHeap} {Q : Exit → Env → AHeap → Prop} (hm : P.follows .mixedOrders = true) (hd : dstsOk n ops = true)
    (hp : (if draw then (if wholeB P ops then mkPath P ops ops.size (Array.replicate ops.size false) else none) else textPath ops (List.range ops.size)) = some p)
    (hr : runP P h.next p (fun e' h' => Q .normal (canon keep e') h') (envF env) (h.bump ops.size)) : AW P n (.region id ops draw) env h Q := by
  intro hinv
  cases draw with
  | true =>
    simp only [if_true] at hp
    split at hp
    · rename_i hw
      have inv : Inv ops h.next (Array.replicate ops.size false) (h.bump ops.size) := ⟨Nat.le_refl _, hinv.bump _, fun j _ _ => hinv _ (Nat.le_add_right _ _)⟩
      have hcl : Closed ops (Array.replicate ops.size false) := by
        intro j k hj
        simp only [Array.getD_eq_getD_getElem?, Array.getElem?_replicate] at hj
        split at hj <;> simp at hj
      have hcnt : cnt ops (Array.replicate ops.size false) = ops.size := by
        unfold cnt
        rw [List.countP_eq_length.2]
        · simp
        · intro i hi
          have := List.mem_range.1 hi
          simp [Array.getD_eq_getD_getElem?, this]
      obtain ⟨e', h', A, k⟩ := path_sound hw _ hcnt hcl inv hp hr
      obtain ⟨q1, _⟩ := AnyR_old _ A
      refine ⟨.normal, canon keep e', h', ⟨fun i hi hn => AnyR_still _ A i hi (Nat.le_add_right _ _) hn, by have : h.next + ops.size ≤ h'.next := q1; omega, fun _ => AnyR_wf _ A inv, fun j o a b => AnyR_own _ A j o a b, fun B0 φ a w he hh => ?_⟩, k⟩
      refine wp_region_any hm ?_
      have hh' : HR B0 φ (h.bump ops.size) { w with drawn := w.drawn + 1 } := (hh.bump _).same (SameMem.drew w)
      refine any_wp hd _ A he hh' inv (fun j _ _ => (hh.fresh _ (Nat.le_add_right _ _)).1) (fun φ1 a1 w1 he1 hp1 hd1 => ⟨rfl, hd1, φ1, he1.sub canon_sub, ?_⟩)
      exact (Post.same (SameMem.drew w) hh).trans (Post.unbump hp1)
    · cases hp
  | false =>
    simp only [Bool.false_eq_true, if_false] at hp
    obtain ⟨e', h', A, k⟩ := text_sound (h := h.bump ops.size) _ List.nodup_range (Nat.le_refl _) (hinv.bump _) (fun j hj => ⟨List.mem_range.1 hj, hinv _ (Nat.le_add_right _ _)⟩) hp hr
    obtain ⟨q1, _⟩ := SeqR_old A
    refine ⟨.normal, canon keep e', h', ⟨fun i hi hn => SeqR_still A i hi (Nat.le_add_right _ _) hn, by have : h.next + ops.size ≤ h'.next := q1; omega, fun _ => SeqR_wf A (hinv.bump _) (Nat.le_refl _) (fun j hj => List.mem_range.1 hj), fun j o a b => SeqR_own A j o a b, fun B0 φ a w he hh => ?_⟩, k⟩
    refine wp_region ?_
    exact seq_wp hd _ List.nodup_range A he (hh.bump _) (Nat.le_refl _) (fun j hj => ⟨List.mem_range.1 hj, (hh.fresh _ (Nat.le_add_right _ _)).1, hinv _ (Nat.le_add_right _ _)⟩)
      (fun φ1 a1 w1 he1 hp1 hd1 => ⟨rfl, hd1, φ1, he1.sub canon_sub, hp1.unbump⟩)

end Go.Proofs.Ytbcgcnmnblfhmaa.Lin
