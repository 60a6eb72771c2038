/- What is set aside for a while is only read, and stays; calls that hang on nothing. -/
import Derived.Test.YtbcgcnmnblfhmaaLin16
namespace Go.Proofs.Ytbcgcnmnblfhmaa.Lin
variable {P : Program} {n : Nat}

def AObj.froz : AObj → AObj
  | .arr _ ty c => .arr false ty c
  | .map _ es => .map false es
theorem AObj.froz_owned (o : AObj) : o.froz.owned = false := by cases o <;> rfl
theorem AObj.froz_id {o : AObj} (h : o.owned = false) : o.froz = o := by
  cases o with
  | arr own ty c => simp only [AObj.owned] at h; subst h; rfl
  | map own es => simp only [AObj.owned] at h; subst h; rfl
theorem still_iff (o : Option AObj) : still o = true ↔ ∀ x, o = some x → x.owned = false := by
  cases o with
  | none => simp [still]
  | some o => cases o with
    | arr own ty c => cases own <;> simp [still, AObj.owned]
    | map own es => cases own <;> simp [still, AObj.owned]

/-- All but some of the objects are only read. -/
def AHeap.frz (h : AHeap) (E : Nat → Bool) : AHeap := { next := h.next, obj := fun i => if E i then h.obj i else (h.obj i).map AObj.froz }
/-- .. and are their owners' again. -/
def AHeap.thaw (h' h : AHeap) (E : Nat → Bool) : AHeap := { next := h'.next, obj := fun i => if i < h.next ∧ E i = false then h.obj i else h'.obj i }
theorem AHeap.frz_next (h : AHeap) (E : Nat → Bool) : (h.frz E).next = h.next := (rfl)
theorem AHeap.thaw_next (h' h : AHeap) (E : Nat → Bool) : (h'.thaw h E).next = h'.next := (rfl)
theorem AHeap.frz_obj (h : AHeap) (E : Nat → Bool) (i : Nat) : (h.frz E).obj i = if E i then h.obj i else (h.obj i).map AObj.froz := (rfl)
theorem AHeap.thaw_obj (h' h : AHeap) (E : Nat → Bool) (i : Nat) : (h'.thaw h E).obj i = if i < h.next ∧ E i = false then h.obj i else h'.obj i := (rfl)
theorem frz_wf {h : AHeap} {E : Nat → Bool} (hw : WF h) : WF (h.frz E) := by
  intro i hi
  rw [AHeap.frz_obj, hw i hi]; simp
theorem frz_still {h : AHeap} {E : Nat → Bool} {i : Nat} (hE : E i = false) : still ((h.frz E).obj i) = true := by
  rw [still_iff]
  intro x hx
  rw [AHeap.frz_obj, hE] at hx
  simp only [Bool.false_eq_true, if_false] at hx
  cases ho : h.obj i with
  | none => rw [ho] at hx; cases hx
  | some o => rw [ho] at hx; cases hx; exact o.froz_owned

def frzB (B0 : Nat → Prop) (φ : Nat → Option Emb) (h : AHeap) (E : Nat → Bool) : Nat → Prop := fun b => B0 b ∨ ∃ i, E i = false ∧ Owns φ h i b

theorem frz_own {φ : Nat → Option Emb} {h : AHeap} {E : Nat → Bool} {i b : Nat} (ho : Owns φ (h.frz E) i b) : E i = true ∧ Owns φ h i b := by
  obtain ⟨e, o, h1, h2, h3, h4⟩ := ho
  rw [AHeap.frz_obj] at h1
  cases hE : E i with
  | true => rw [hE] at h1; simp only [if_true] at h1; exact ⟨rfl, e, o, h1, h2, h3, h4⟩
  | false =>
    rw [hE] at h1
    simp only [Bool.false_eq_true, if_false] at h1
    cases ho : h.obj i with
    | none => rw [ho] at h1; cases h1
    | some q => rw [ho] at h1; cases h1; rw [q.froz_owned] at h2; cases h2

theorem OR.weakB {B0 B1 : Nat → Prop} {φ : Nat → Option Emb} {w : World} {e : Emb} {o : AObj} (ht : o.owned = true → ¬ B0 e.blk → ¬ B1 e.blk) (hf : o.owned = false → B0 e.blk → B1 e.blk) (h : OR B0 φ w e o) : OR B1 φ w e o := by
  cases o with
  | arr own ty c =>
    obtain ⟨cur, ty', fr, h1, h2, h3, h4, h5⟩ := h
    exact ⟨cur, ty', fr, h1, h2, h3, fun q => ⟨ht q (h4 q).1, (h4 q).2⟩, fun q => hf q (h5 q)⟩
  | map own es =>
    obtain ⟨h1, h2⟩ := h
    exact ⟨⟨fun q => ht q (h1.1 q), fun q => hf q (h1.2 q)⟩, h2⟩

theorem OR.toFroz {B0 : Nat → Prop} {φ : Nat → Option Emb} {w : World} {e : Emb} {o : AObj} (hb : B0 e.blk) {B1 : Nat → Prop} (h : OR B1 φ w e o) : OR B0 φ w e o.froz := by
  cases o with
  | arr own ty c =>
    obtain ⟨cur, ty', fr, h1, h2, h3, h4, h5⟩ := h
    exact ⟨cur, ty', fr, h1, h2, h3, fun q => Bool.noConfusion q, fun _ => hb⟩
  | map own es =>
    obtain ⟨h1, h2⟩ := h
    exact ⟨⟨fun q => Bool.noConfusion q, fun _ => hb⟩, h2⟩

theorem OR.ofB {B0 : Nat → Prop} {φ : Nat → Option Emb} {w : World} {e : Emb} {o : AObj} (h : OR B0 φ w e o) : (o.owned = true → ¬ B0 e.blk) ∧ (o.owned = false → B0 e.blk) := by
  cases o with
  | arr own ty c =>
    obtain ⟨cur, ty', fr, h1, h2, h3, h4, h5⟩ := h
    exact ⟨fun q => (h4 q).1, h5⟩
  | map own es => exact h.1

theorem frz_hr {B0 : Nat → Prop} {φ : Nat → Option Emb} {h : AHeap} {w : World} (hh : HR B0 φ h w) (E : Nat → Bool) : HR (frzB B0 φ h E) φ (h.frz E) w := by
  refine ⟨fun b hb => ?_, fun i hi => ?_, fun i o ho => ?_, fun i j b hi hj => hh.sep i j b (frz_own hi).2 (frz_own hj).2⟩
  · rcases hb with hb | ⟨i, _, hi⟩
    · exact hh.size b hb
    · exact (owned_ge hh hi).2
  · have := hh.fresh i hi
    refine ⟨this.1, ?_⟩
    rw [AHeap.frz_obj, this.2]; simp
  · rw [AHeap.frz_obj] at ho
    cases hE : E i with
    | true =>
      rw [hE] at ho
      simp only [if_true] at ho
      obtain ⟨e, he, hor⟩ := hh.obj i o ho
      refine ⟨e, he, hor.weakB (fun hown hb => ?_) (fun _ hb => .inl hb)⟩
      rintro (hb' | ⟨j, hEj, hj⟩)
      · exact hb hb'
      · have := hh.sep i j _ ⟨e, o, ho, hown, he, rfl⟩ hj
        rw [← this, hE] at hEj; cases hEj
    | false =>
      rw [hE] at ho
      simp only [Bool.false_eq_true, if_false] at ho
      cases hq : h.obj i with
      | none => rw [hq] at ho; cases ho
      | some q =>
        rw [hq] at ho
        cases ho
        obtain ⟨e, he, hor⟩ := hh.obj i q hq
        refine ⟨e, he, hor.toFroz ?_⟩
        cases hown : q.owned with
        | true => exact .inr ⟨i, hE, e, q, hq, hown, he, rfl⟩
        | false => exact .inl (hor.ofB.2 hown)

/-- What was set aside is taken back. -/
theorem thaw_post {B0 : Nat → Prop} {φ φ' : Nat → Option Emb} {h h' : AHeap} {w w' : World} {E : Nat → Bool} (hh : HR B0 φ h w)
    (hown : ∀ i o, h'.obj i = some o → o.owned = false → (h.frz E).obj i = some o) (p : Post (frzB B0 φ h E) h.next φ (h.frz E) w φ' h' w') : Post B0 h.next φ h w φ' (h'.thaw h E) w' := by
  have hin : ∀ i, E i = false → i < h.next → ∀ o, h.obj i = some o → ∃ e, φ i = some e ∧ OR B0 φ w e o ∧ w'.heap[e.blk]? = w.heap[e.blk]? := by
    intro i hE hi o ho
    obtain ⟨e, he, hor⟩ := hh.obj i o ho
    refine ⟨e, he, hor, p.frame _ hor.blk_lt ?_⟩
    intro j hj
    obtain ⟨hEj, hj'⟩ := frz_own hj
    cases ho' : o.owned with
    | true =>
      have := hh.sep i j _ ⟨e, o, ho, ho', he, rfl⟩ hj'
      rw [this, hEj] at hE; cases hE
    | false => exact (owned_ge hh hj').1 (hor.ofB.2 ho')
  have own2 : ∀ i b, Owns φ' (h'.thaw h E) i b → (i < h.next ∧ E i = false ∧ Owns φ h i b) ∨ (¬ (i < h.next ∧ E i = false) ∧ Owns φ' h' i b) := by
    rintro i b ⟨e, o, h1, h2, h3, h4⟩
    rw [AHeap.thaw_obj] at h1
    by_cases hc : i < h.next ∧ E i = false
    · rw [if_pos hc] at h1
      rw [p.ext i hc.1] at h3
      exact .inl ⟨hc.1, hc.2, e, o, h1, h2, h3, h4⟩
    · rw [if_neg hc] at h1
      exact .inr ⟨hc, e, o, h1, h2, h3, h4⟩
  have clash : ∀ i j b, E i = false → Owns φ h i b → Owns φ' h' j b → False := by
    intro i j b hE hi hj
    rcases p.inside j b hj with ⟨k, hk⟩ | hge
    · obtain ⟨hEk, hk'⟩ := frz_own hk
      have := hh.sep i k b hi hk'
      rw [this, hEk] at hE; cases hE
    · have := (owned_ge hh hi).2; omega
  refine ⟨⟨fun b hb => Nat.lt_of_lt_of_le (hh.size b hb) p.size, fun i hi => ?_, fun i o ho => ?_, fun i j b hi hj => ?_⟩, p.le, p.ext, p.nxt, fun i hi ho => ?_, p.size, fun b hb hn => ?_, fun i b hi => ?_, p.os, p.tape, p.output⟩
  · have hi' : h'.next ≤ i := hi
    have hn : h.next ≤ h'.next := p.nxt
    refine ⟨(p.hr.fresh i hi').1, ?_⟩
    rw [AHeap.thaw_obj, if_neg (by omega)]
    exact (p.hr.fresh i hi').2
  · rw [AHeap.thaw_obj] at ho
    by_cases hc : i < h.next ∧ E i = false
    · rw [if_pos hc] at ho
      obtain ⟨e, he, hor, hw⟩ := hin i hc.2 hc.1 o ho
      exact ⟨e, by rw [p.ext i hc.1]; exact he, hor.keep p.le hw⟩
    · rw [if_neg hc] at ho
      obtain ⟨e, he, hor⟩ := p.hr.obj i o ho
      refine ⟨e, he, hor.weakB (fun _ hb g => hb (.inl g)) (fun ho' hb => ?_)⟩
      have h1 := hown i o ho ho'
      have hlt : i < h.next := by
        rcases Nat.lt_or_ge i h.next with g | g
        · exact g
        · rw [AHeap.frz_obj, (hh.fresh i g).2] at h1; simp at h1
      have hE : E i = true := by
        cases hE : E i with
        | true => rfl
        | false => exact absurd ⟨hlt, hE⟩ hc
      rw [AHeap.frz_obj, hE] at h1
      simp only [if_true] at h1
      obtain ⟨e', he', hor'⟩ := hh.obj i o h1
      have := p.le i e' he'
      rw [he] at this; cases this
      exact hor'.ofB.2 ho'
  · rcases own2 i b hi with ⟨h1, h2, h3⟩ | ⟨h1, h2⟩ <;> rcases own2 j b hj with ⟨h4, h5, h6⟩ | ⟨h4, h5⟩
    · exact hh.sep i j b h3 h6
    · exact (clash i j b h2 h3 h5).elim
    · exact (clash j i b h5 h6 h2).elim
    · exact p.hr.sep i j b h2 h5
  · rw [AHeap.thaw_obj]
    split
    · exact ho
    · exact p.old i hi (by rw [AHeap.frz_obj, ho]; simp)
  · exact p.frame b hb (fun i hi => hn i (frz_own hi).2)
  · rcases own2 i b hi with ⟨_, _, h3⟩ | ⟨_, h2⟩
    · exact .inl ⟨i, h3⟩
    · rcases p.inside i b h2 with ⟨k, hk⟩ | hge
      · exact .inl ⟨k, (frz_own hk).2⟩
      · exact .inr hge

/-- What a run from what was set aside leaves of the rest. -/
theorem thaw_rest {h h' : AHeap} {E : Nat → Bool} (hw : WF h) (old : ∀ i, i < (h.frz E).next → still ((h.frz E).obj i) = true → h'.obj i = (h.frz E).obj i) (nxt : (h.frz E).next ≤ h'.next) (wf : WF (h.frz E) → WF h')
    (own : ∀ i o, h'.obj i = some o → o.owned = false → (h.frz E).obj i = some o) :
    (∀ i, i < h.next → still (h.obj i) = true → (h'.thaw h E).obj i = h.obj i) ∧ (WF h → WF (h'.thaw h E)) ∧ ∀ i o, (h'.thaw h E).obj i = some o → o.owned = false → h.obj i = some o := by
  refine ⟨fun i hi hs => ?_, fun _ i hi => ?_, fun i o ho hown => ?_⟩
  · rw [AHeap.thaw_obj]
    split
    · rfl
    · rename_i hc
      have hE : E i = true := by
        cases hE : E i with
        | true => rfl
        | false => exact absurd ⟨hi, hE⟩ hc
      have e1 : (h.frz E).obj i = h.obj i := by rw [AHeap.frz_obj, hE]; simp
      rw [old i hi (by rw [e1]; exact hs), e1]
  · have hn : h.next ≤ h'.next := nxt
    have hi' : h'.next ≤ i := hi
    rw [AHeap.thaw_obj, if_neg (by omega)]
    exact wf (frz_wf hw) i hi'
  · rw [AHeap.thaw_obj] at ho
    split at ho
    · exact ho
    · rename_i hc
      have h1 := own i o ho hown
      have hlt : i < h.next := by
        rcases Nat.lt_or_ge i h.next with g | g
        · exact g
        · rw [AHeap.frz_obj, hw i g] at h1; simp at h1
      have hE : E i = true := by
        cases hE : E i with
        | true => rfl
        | false => exact absurd ⟨hlt, hE⟩ hc
      rw [AHeap.frz_obj, hE] at h1
      simpa using h1

/-- A call, while all but some is only read. -/
theorem acall_frz {f : FuncId} {args : List Value} {h : AHeap} {Q : Value → AHeap → Prop} (E : Nat → Bool)
    (k : ACallW P f args (h.frz E) (fun v h' => h.next ≤ h'.next → (∀ i, i < h.next → E i = false → h'.obj i = (h.frz E).obj i) → Q v (h'.thaw h E))) : ACallW P f args h Q := by
  intro hw
  obtain ⟨v, h', d, q⟩ := k (frz_wf hw)
  obtain ⟨t1, t2, t3⟩ := thaw_rest hw d.old d.nxt d.wf d.own
  refine ⟨v, h'.thaw h E, ⟨d.callable, t1, d.nxt, t2, t3, fun B0 φ args' w ha hh => ?_⟩, q d.nxt (fun i hi hE => d.old i hi (frz_still hE))⟩
  refine (d.run _ φ args' w ha (frz_hr hh E)).mono ?_
  rintro e w' ⟨v', φ', q1, q2, p⟩
  exact ⟨v', φ', q1, q2, thaw_post hh d.own p⟩

/-- Code, likewise. -/
theorem sw_frz {s : SCode} {env : Env} {h : AHeap} {Q : Exit → Env → AHeap → Prop} (E : Nat → Bool)
    (k : SW P n s env (h.frz E) (fun x e h' => h.next ≤ h'.next → (∀ i, i < h.next → E i = false → h'.obj i = (h.frz E).obj i) → Q x e (h'.thaw h E))) : SW P n s env h Q := by
  intro L C c hc hw
  obtain ⟨x, e, h', d, q⟩ := k L C c hc (frz_wf hw)
  obtain ⟨t1, t2, t3⟩ := thaw_rest hw d.old d.nxt d.wf d.own
  refine ⟨x, e, h'.thaw h E, ⟨t1, d.nxt, t2, t3, fun B0 φ a w he hh => ?_⟩, q d.nxt (fun i hi hE => d.old i hi (frz_still hE))⟩
  refine wp_mono (d.run _ φ a w he (frz_hr hh E)) ?_
  rintro ex a' w' ⟨q1, q2, φ', q3, p⟩
  exact ⟨q1, q2, φ', q3, thaw_post hh d.own p⟩

/-- What is only read stays. -/
theorem acall_ro {f : FuncId} {args : List Value} {h : AHeap} {Q : Value → AHeap → Prop} (k : ACallW P f args h (fun v h' => h.next ≤ h'.next → (∀ i, i < h.next → still (h.obj i) = true → h'.obj i = h.obj i) → Q v h')) : ACallW P f args h Q :=
  fun hw => let ⟨v, h', d, q⟩ := k hw; ⟨v, h', d, q d.nxt d.old⟩
theorem sw_ro {s : SCode} {env : Env} {h : AHeap} {Q : Exit → Env → AHeap → Prop} (k : SW P n s env h (fun x e h' => h.next ≤ h'.next → (∀ i, i < h.next → still (h.obj i) = true → h'.obj i = h.obj i) → Q x e h')) : SW P n s env h Q :=
  fun L C c hc hw => let ⟨x, e, h', d, q⟩ := k L C c hc hw; ⟨x, e, h', d, q d.nxt d.old⟩

/-- A loop: what is only read when it begins is there in each round. -/
theorem sw_loopR0 {α : Type} {a : SCode} {env : Env} {h : AHeap} {Q : Exit → Env → AHeap → Prop} (E : α → Env) (H : α → AHeap → Prop) (μ : α → Nat) (x0 : α) (h0 : ∀ t v, envF (E x0) t = some v → envF env t = some v) (h1 : H x0 h)
    (round : ∀ x h2, h.next ≤ h2.next → (∀ i, i < h.next → still (h.obj i) = true → h2.obj i = h.obj i) → H x h2 → SW P n a (E x) h2 (thenX (fun e h' => ∃ x', (∀ t v, envF (E x') t = some v → envF e t = some v) ∧ H x' h' ∧ μ x' < μ x) Q)) : SW P n (.loop a) env h Q := by
  refine sw_loopG0 E (fun x h2 => h.next ≤ h2.next ∧ (∀ i, i < h.next → still (h.obj i) = true → h2.obj i = h.obj i) ∧ H x h2) μ x0 h0 ⟨Nat.le_refl _, fun _ _ _ => rfl, h1⟩ ?_
  rintro x h2 ⟨g1, g2, g3⟩
  refine sw_ro ((round x h2 g1 g2 g3).mono ?_)
  intro ex e h' q k1 k2
  cases ex with
  | normal =>
    obtain ⟨x', q1, q2, q3⟩ := q
    exact ⟨x', q1, ⟨by omega, fun i hi hs => (k2 i (by omega) (by rw [g2 i hi hs]; exact hs)).trans (g2 i hi hs), q2⟩, q3⟩
  | _ => exact q

/-- What was there first is there still. -/
structure On (h0 h : AHeap) : Prop where
  nxt : h0.next ≤ h.next
  obj : ∀ i, i < h0.next → h.obj i = h0.obj i
theorem On.refl (h : AHeap) : On h h := ⟨Nat.le_refl _, fun _ _ => rfl⟩
theorem On.trans {a b c : AHeap} (p : On a b) (q : On b c) : On a c := ⟨Nat.le_trans p.nxt q.nxt, fun i hi => (q.obj i (Nat.lt_of_lt_of_le hi p.nxt)).trans (p.obj i hi)⟩
theorem On.bump {h0 h : AHeap} (p : On h0 h) (n : Nat) : On h0 (h.bump n) := ⟨Nat.le_trans p.nxt (Nat.le_add_right _ _), p.obj⟩
theorem On.put {h0 h : AHeap} (p : On h0 h) {i : Nat} (o : AObj) (hi : h0.next ≤ i) : On h0 (h.put i o) := ⟨p.nxt, fun j hj => by rw [AHeap.put_ne _ _ (by omega)]; exact p.obj j hj⟩
theorem On.del {h0 h : AHeap} (p : On h0 h) {i : Nat} (hi : h0.next ≤ i) : On h0 (h.del i) := ⟨p.nxt, fun j hj => by rw [AHeap.del_ne _ (by omega)]; exact p.obj j hj⟩

/-- A loop over what is only read. -/
theorem sw_loopB {α : Type} {a : SCode} {env : Env} {h0 h : AHeap} {Q : Exit → Env → AHeap → Prop} (st : ∀ i, still (h0.obj i) = true) (on : On h0 h) (E : α → Env) (H : α → AHeap → Prop) (μ : α → Nat) (x0 : α) (hc : Covers env (E x0)) (h1 : H x0 h)
    (round : ∀ x h2, On h0 h2 → H x h2 → SW P n a (E x) h2 (thenX (fun e h' => ∃ x', Covers e (E x') ∧ H x' h' ∧ μ x' < μ x) Q)) : SW P n (.loop a) env h Q :=
  sw_loopR0 E H μ x0 hc.sub h1 (fun x h2 g1 g2 hI => (round x h2 ⟨Nat.le_trans on.nxt g1, fun i hi => (g2 i (Nat.lt_of_lt_of_le hi on.nxt) (by rw [on.obj i hi]; exact st i)).trans (on.obj i hi)⟩ hI).mono
    (fun ex e h' q => by cases ex <;> first | (obtain ⟨x', a, b, c⟩ := q; exact ⟨x', a.sub, b, c⟩) | exact q))

def Cut {γ : Type} (E : γ → Env) (H : γ → AHeap → Prop) (e : Env) (h : AHeap) : Prop := ∃ g, Covers e (E g) ∧ H g h
theorem Cut.mk {γ : Type} {E : γ → Env} {H : γ → AHeap → Prop} {e : Env} {h : AHeap} (g : γ) (hc : Covers e (E g)) (hh : H g h) : Cut E H e h := ⟨g, hc, hh⟩
/-- Between two pieces of code: what is known. -/
theorem sw_cut {γ : Type} {a b : SCode} {env : Env} {h : AHeap} {Q : Exit → Env → AHeap → Prop} (E : γ → Env) (H : γ → AHeap → Prop) (ha : SW P n a env h (fun x e h' => x = .normal ∧ Cut E H e h')) (hb : ∀ g h', H g h' → SW P n b (E g) h' Q) : SW P n (.seq a b) env h Q := by
  refine sw_seq (ha.mono ?_)
  rintro x e h' ⟨rfl, g, hc, hg⟩
  exact (hb g h' hg).sub hc.sub

/-- A call that hangs on no memory, and hands none back. -/
theorem acall_closed {f : FuncId} {args : List Value} {r : Value} {h h1 : AHeap} {Q : Value → AHeap → Prop} (ha : ∀ v ∈ args, plainN 6 v = true) (hr : plainN 6 r = true) (c : ACallD P f args { next := 0, obj := fun _ => none } r h1) (hq : Q r h) : ACallW P f args h Q := by
  intro _
  refine ⟨r, h, ⟨c.callable, fun _ _ _ => rfl, Nat.le_refl _, fun g => g, fun _ _ a _ => a, fun B0 φ args' w hv hh => ?_⟩, hq⟩
  have e1 : args' = args := by
    apply List.ext_getElem?
    intro i
    cases hi : args[i]? with
    | none =>
      have := List.getElem?_eq_none_iff.1 hi
      rw [hv.1] at this
      exact List.getElem?_eq_none this
    | some v =>
      obtain ⟨v', g1, g2⟩ := hv.get hi
      rw [g1, plain_eq g2 (ha v (List.mem_of_getElem? hi))]
  subst e1
  have he : HR (· < w.heap.size) (fun _ => none) { next := 0, obj := fun _ => none } w :=
    ⟨fun b hb => hb, fun _ _ => ⟨rfl, rfl⟩, fun i o h => (by cases h), fun i j b h => (by obtain ⟨e, o, h, _⟩ := h; cases h)⟩
  have hvs : VRs (fun _ => none) args' args' := by
    refine ⟨rfl, fun i v v' a b => ?_⟩
    rw [a] at b; cases b
    exact VR.of_plain (ha v (List.mem_of_getElem? a))
  refine (c.run _ _ args' w hvs he).mono ?_
  rintro e w' ⟨v', φ', q1, q2, p⟩
  have e2 := plain_eq q2 hr
  subst e2
  have hb := p.below he
  refine ⟨v', φ, q1, VR.of_plain hr, ⟨⟨fun b hb => Nat.lt_of_lt_of_le (hh.size b hb) p.size, hh.fresh, fun i o ho => ?_, hh.sep⟩, Le.refl _, fun _ _ => rfl, Nat.le_refl _, fun _ _ e => e, p.size, fun b hb' _ => hb b hb', fun i b hi => .inl ⟨i, hi⟩, p.os, p.tape, p.output⟩⟩
  obtain ⟨e, he, hor⟩ := hh.obj i o ho
  exact ⟨e, he, hor.keep (Le.refl _) (hb _ hor.blk_lt)⟩


@[simp] theorem bin_bneq {t : TypeId} {a b : Bool} (h : P.underlying t = some .bool) : aBin P .neq t (.bool a) (.bool b) = some (.bool !(a == b)) := by simp only [aBin, h, nilEq, Option.map_some]
@[simp] theorem bin_beql {t : TypeId} {a b : Bool} (h : P.underlying t = some .bool) : aBin P .eql t (.bool a) (.bool b) = some (.bool (a == b)) := by simp only [aBin, h, nilEq, Option.map_some]
@[simp] theorem bin_peql {t e : TypeId} {a : Addr} (h : P.underlying t = some (.pointer e)) : aBin P .eql t (.pointer (some a)) (.pointer none) = some (.bool false) := by simp only [aBin, h, nilEq, Option.map_some]
@[simp] theorem bin_pneq {t e : TypeId} {a : Addr} (h : P.underlying t = some (.pointer e)) : aBin P .neq t (.pointer (some a)) (.pointer none) = some (.bool true) := by simp only [aBin, h, nilEq, Option.map_some]; rfl
@[simp] theorem bin_peql0 {t e : TypeId} (h : P.underlying t = some (.pointer e)) : aBin P .eql t (.pointer none) (.pointer none) = some (.bool true) := by simp only [aBin, h, nilEq, Option.map_some]; rfl
@[simp] theorem bin_pneq0 {t e : TypeId} (h : P.underlying t = some (.pointer e)) : aBin P .neq t (.pointer none) (.pointer none) = some (.bool false) := by simp only [aBin, h, nilEq, Option.map_some]; rfl
end Go.Proofs.Ytbcgcnmnblfhmaa.Lin
