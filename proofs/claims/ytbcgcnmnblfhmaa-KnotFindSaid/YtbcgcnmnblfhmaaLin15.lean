/- Code without its edges, and the rules by which it is walked. -/
import Derived.Test.YtbcgcnmnblfhmaaLin14
namespace Go.Proofs.Ytbcgcnmnblfhmaa.Lin
variable {P : Program} {n : Nat}

/-- Code of which regions are paths. -/
inductive SCode where
  | skip
  | reg (size : Nat) (keep : List Tmp) (path : Path)
  | seq (a b : SCode)
  | cond (t : Tmp) (keep : Bool) (a b : SCode)
  | block (id : Nat) (a : SCode)
  | loop (a : SCode)
  | exit (id : Nat)
  | scope (a : SCode)
  | label (l : Nat)
  | ret
  | bad

/-- L: the slots that are looked at in other regions than those that write them; C: those that tests look at. -/
def strip (P : Program) (n : Nat) (L C : List Tmp) : Code → SCode
  | .skip => .skip
  | .region _ ops draw =>
    match (if dstsOk n ops then (if draw then (if wholeB P ops then mkPath P ops ops.size (Array.replicate ops.size false) else none) else textPath ops (List.range ops.size)) else none) with
    | some p => .reg ops.size (L ++ C.filter fun t => ops.toList.any fun o => o.dst == some t) p
    | none => .bad
  | .seq a b => .seq (strip P n L C a) (strip P n L C b)
  | .cond (.tmp t) a b => .cond t (L.contains t) (strip P n L C a) (strip P n L C b)
  | .block id a => .block id (strip P n L C a)
  | .loop a => .loop (strip P n L C a)
  | .exit id => .exit id
  | .scope a => .scope (strip P n L C a)
  | .label l => .label l
  | .ret => .ret
  | _ => .bad

/-- From these slots, this heap: the code ends so that Q holds. -/
def SW (P : Program) (n : Nat) (s : SCode) (env : Env) (h : AHeap) (Q : Exit → Env → AHeap → Prop) : Prop := ∀ L C c, strip P n L C c = s → AW P n c env h Q

theorem AW.mono {c : Code} {env : Env} {h : AHeap} {Q Q' : Exit → Env → AHeap → Prop} (a : AW P n c env h Q) (hq : ∀ x e h, Q x e h → Q' x e h) : AW P n c env h Q' :=
  fun hw => let ⟨x, e, h', p, q⟩ := a hw; ⟨x, e, h', p, hq _ _ _ q⟩

theorem SW.mono {s : SCode} {env : Env} {h : AHeap} {Q Q' : Exit → Env → AHeap → Prop} (a : SW P n s env h Q) (hq : ∀ x e h, Q x e h → Q' x e h) : SW P n s env h Q' :=
  fun L C c hc => (a L C c hc).mono hq

/-- Fewer slots are enough. -/
theorem AW.sub {c : Code} {env env' : Env} {h : AHeap} {Q : Exit → Env → AHeap → Prop} (hs : ∀ t v, envF env' t = some v → envF env t = some v) (a : AW P n c env' h Q) : AW P n c env h Q :=
  fun hw => let ⟨x, e, h', p, q⟩ := a hw; ⟨x, e, h', ⟨p.old, p.nxt, p.wf, p.own, fun B0 φ a w he hh => p.run B0 φ a w (he.sub hs) hh⟩, q⟩

theorem SW.sub {s : SCode} {env env' : Env} {h : AHeap} {Q : Exit → Env → AHeap → Prop} (hs : ∀ t v, envF env' t = some v → envF env t = some v) (a : SW P n s env' h Q) : SW P n s env h Q :=
  fun L C c hc => (a L C c hc).sub hs

theorem strip_region {L C : List Tmp} {id : Nat} {ops : Array Oper} {draw : Bool} : (∃ keep p, strip P n L C (.region id ops draw) = .reg ops.size keep p) ∨ strip P n L C (.region id ops draw) = .bad := by
  unfold strip
  split
  · exact .inl ⟨_, _, rfl⟩
  · exact .inr rfl

theorem strip_cond {L C : List Tmp} {c : Operand} {a b : Code} : (∃ t, c = .tmp t ∧ strip P n L C (.cond c a b) = .cond t (L.contains t) (strip P n L C a) (strip P n L C b)) ∨ strip P n L C (.cond c a b) = .bad := by
  cases c with
  | tmp t => exact .inl ⟨t, rfl, by simp only [strip]⟩
  | const v => exact .inr (by simp only [strip])
  | global g => exact .inr (by simp only [strip])
  | func f => exact .inr (by simp only [strip])

theorem awd_here {c : Code} {env env' : Env} {h : AHeap} {x : Exit} (hsub : ∀ t v, envF env' t = some v → envF env t = some v) (hr : ∀ (a : Act) (w : World) (R : Exit → Act → World → Prop), R x a w → c.wp P R a w) :
    AWD P n c env h x env' h :=
  ⟨fun _ _ _ => rfl, Nat.le_refl _, fun g => g, fun _ _ a _ => a, fun _ φ a w he hh => hr a w _ ⟨rfl, rfl, φ, he.sub hsub, Post.refl hh⟩⟩

theorem sw_skip {env : Env} {h : AHeap} {Q : Exit → Env → AHeap → Prop} (hq : Q .normal env h) : SW P n .skip env h Q := by
  intro L C c hc _
  cases c with
  | skip => exact ⟨_, _, _, awd_here (fun _ _ e => e) (fun a w R r => wp_skip r), hq⟩
  | region id ops draw => rcases strip_region (P := P) (n := n) (L := L) (C := C) (id := id) (ops := ops) (draw := draw) with ⟨_, _, g⟩ | g <;> rw [g] at hc <;> cases hc
  | cond c a b => rcases strip_cond (P := P) (n := n) (L := L) (C := C) (c := c) (a := a) (b := b) with ⟨_, _, g⟩ | g <;> rw [g] at hc <;> cases hc
  | _ => simp [strip] at hc

theorem sw_label {l : Nat} {env : Env} {h : AHeap} {Q : Exit → Env → AHeap → Prop} (hq : Q .normal env h) : SW P n (.label l) env h Q := by
  intro L C c hc _
  cases c with
  | label => exact ⟨_, _, _, awd_here (fun _ _ e => e) (fun a w R r => wp_label r), hq⟩
  | region id ops draw => rcases strip_region (P := P) (n := n) (L := L) (C := C) (id := id) (ops := ops) (draw := draw) with ⟨_, _, g⟩ | g <;> rw [g] at hc <;> cases hc
  | cond c a b => rcases strip_cond (P := P) (n := n) (L := L) (C := C) (c := c) (a := a) (b := b) with ⟨_, _, g⟩ | g <;> rw [g] at hc <;> cases hc
  | _ => simp [strip] at hc

theorem sw_exit {id : Nat} {env : Env} {h : AHeap} {Q : Exit → Env → AHeap → Prop} (hq : Q (.exit id) env h) : SW P n (.exit id) env h Q := by
  intro L C c hc _
  cases c with
  | exit i =>
    simp only [strip, SCode.exit.injEq] at hc
    subst hc
    exact ⟨_, _, _, awd_here (fun _ _ e => e) (fun a w R r => wp_exit r), hq⟩
  | region id ops draw => rcases strip_region (P := P) (n := n) (L := L) (C := C) (id := id) (ops := ops) (draw := draw) with ⟨_, _, g⟩ | g <;> rw [g] at hc <;> cases hc
  | cond c a b => rcases strip_cond (P := P) (n := n) (L := L) (C := C) (c := c) (a := a) (b := b) with ⟨_, _, g⟩ | g <;> rw [g] at hc <;> cases hc
  | _ => simp [strip] at hc

theorem sw_ret {env : Env} {h : AHeap} {Q : Exit → Env → AHeap → Prop} (hq : Q .ret env h) : SW P n .ret env h Q := by
  intro L C c hc _
  cases c with
  | ret => exact ⟨_, _, _, awd_here (fun _ _ e => e) (fun a w R r => wp_ret r), hq⟩
  | region id ops draw => rcases strip_region (P := P) (n := n) (L := L) (C := C) (id := id) (ops := ops) (draw := draw) with ⟨_, _, g⟩ | g <;> rw [g] at hc <;> cases hc
  | cond c a b => rcases strip_cond (P := P) (n := n) (L := L) (C := C) (c := c) (a := a) (b := b) with ⟨_, _, g⟩ | g <;> rw [g] at hc <;> cases hc
  | _ => simp [strip] at hc

theorem sw_reg {size : Nat} {keep : List Tmp} {p : Path} {env : Env} {h : AHeap} {Q : Exit → Env → AHeap → Prop} (hm : P.follows .mixedOrders = true)
    (hr : runP P h.next p (fun e' h' => Q .normal (canon keep e') h') (envF env) (h.bump size)) : SW P n (.reg size keep p) env h Q := by
  intro L C c hc
  cases c with
  | region id ops draw =>
    unfold strip at hc
    split at hc
    · rename_i q hq
      cases hc
      split at hq
      · rename_i hd
        exact aw_region hm hd hq hr
      · cases hq
    · cases hc
  | cond c a b => rcases strip_cond (P := P) (n := n) (L := L) (C := C) (c := c) (a := a) (b := b) with ⟨_, _, g⟩ | g <;> rw [g] at hc <;> cases hc
  | _ => simp [strip] at hc

theorem Post.seq {B0 : Nat → Prop} {φ φ1 φ2 : Nat → Option Emb} {h h1 h2 : AHeap} {w w1 w2 : World} (p : Post B0 h.next φ h w φ1 h1 w1) (q : Post B0 h1.next φ1 h1 w1 φ2 h2 w2) : Post B0 h.next φ h w φ2 h2 w2 :=
  p.trans (q.weak p.nxt)

/-- What follows an end. -/
def thenX (k : Env → AHeap → Prop) (Q : Exit → Env → AHeap → Prop) : Exit → Env → AHeap → Prop
  | .normal, e, h => k e h
  | x, e, h => Q x e h

theorem aw_seq {a b : Code} {env : Env} {h : AHeap} {Q : Exit → Env → AHeap → Prop} (hr : AW P n a env h (thenX (fun e h => AW P n b e h Q) Q)) : AW P n (.seq a b) env h Q := by
  intro hw
  obtain ⟨x, e1, h1, p, q⟩ := hr hw
  cases x with
  | normal =>
    obtain ⟨x2, e2, h2, p2, q2⟩ := q (p.wf hw)
    refine ⟨x2, e2, h2, ⟨fun i hi hn => (p2.old i (Nat.lt_of_lt_of_le hi p.nxt) (by rw [p.old i hi hn]; exact hn)).trans (p.old i hi hn), Nat.le_trans p.nxt p2.nxt, fun g => p2.wf (p.wf g), fun i o a b => p.own i o (p2.own i o a b) b, fun B0 φ a w he hh => ?_⟩, q2⟩
    refine wp_seq ((wp_mono (p.run B0 φ a w he hh) ?_))
    rintro ex a' w' ⟨rfl, hd, φ1, he1, hp1⟩
    refine wp_mono (p2.run B0 φ1 a' w' he1 hp1.hr) ?_
    rintro ex a2 w2 ⟨rfl, hd2, φ2, he2, hp2⟩
    exact ⟨rfl, hd2.trans hd, φ2, he2, hp1.seq hp2⟩
  | exit i => exact ⟨_, _, _, ⟨p.old, p.nxt, p.wf, p.own, fun B0 φ a w he hh => wp_seq (wp_mono (p.run B0 φ a w he hh) (by rintro ex a' w' ⟨rfl, r⟩; exact ⟨rfl, r⟩))⟩, q⟩
  | goto i => exact ⟨_, _, _, ⟨p.old, p.nxt, p.wf, p.own, fun B0 φ a w he hh => wp_seq (wp_mono (p.run B0 φ a w he hh) (by rintro ex a' w' ⟨rfl, r⟩; exact ⟨rfl, r⟩))⟩, q⟩
  | ret => exact ⟨_, _, _, ⟨p.old, p.nxt, p.wf, p.own, fun B0 φ a w he hh => wp_seq (wp_mono (p.run B0 φ a w he hh) (by rintro ex a' w' ⟨rfl, r⟩; exact ⟨rfl, r⟩))⟩, q⟩
  | panic c => exact ⟨_, _, _, ⟨p.old, p.nxt, p.wf, p.own, fun B0 φ a w he hh => wp_seq (wp_mono (p.run B0 φ a w he hh) (by rintro ex a' w' ⟨rfl, r⟩; exact ⟨rfl, r⟩))⟩, q⟩
  | outgrown => exact ⟨_, _, _, ⟨p.old, p.nxt, p.wf, p.own, fun B0 φ a w he hh => wp_seq (wp_mono (p.run B0 φ a w he hh) (by rintro ex a' w' ⟨rfl, r⟩; exact ⟨rfl, r⟩))⟩, q⟩

theorem sw_seq {a b : SCode} {env : Env} {h : AHeap} {Q : Exit → Env → AHeap → Prop} (hr : SW P n a env h (thenX (fun e h => SW P n b e h Q) Q)) : SW P n (.seq a b) env h Q := by
  intro L C c hc
  cases c with
  | seq x y =>
    simp only [strip, SCode.seq.injEq] at hc
    refine aw_seq ((hr L C x hc.1).mono ?_)
    intro ex e h q
    cases ex <;> first | exact q L C y hc.2 | exact q
  | region id ops draw => rcases strip_region (P := P) (n := n) (L := L) (C := C) (id := id) (ops := ops) (draw := draw) with ⟨_, _, g⟩ | g <;> rw [g] at hc <;> cases hc
  | cond c a b => rcases strip_cond (P := P) (n := n) (L := L) (C := C) (c := c) (a := a) (b := b) with ⟨_, _, g⟩ | g <;> rw [g] at hc <;> cases hc
  | _ => simp [strip] at hc

def dropT (t : Tmp) (env : Env) : Env := env.filter fun p => p.1 != t

theorem dropT_sub {t : Tmp} {env : Env} : ∀ s v, envF (dropT t env) s = some v → envF env s = some v := by
  intro s v h
  unfold envF dropT at h
  unfold envF
  induction env with
  | nil => simp at h
  | cons p r ih =>
    obtain ⟨k, u⟩ := p
    rw [List.filter_cons] at h
    by_cases hk : k = t
    · subst hk
      simp only [bne_self_eq_false, Bool.false_eq_true, if_false] at h
      rw [List.lookup_cons]
      split
      · rename_i hsk
        have : s = k := by simpa using hsk
        subst this
        have hno : ∀ l : Env, (l.filter fun p => p.1 != s).lookup s = none := by
          intro l
          induction l with
          | nil => rfl
          | cons q r ih =>
            obtain ⟨k', u'⟩ := q
            rw [List.filter_cons]
            split
            · rename_i hne
              rw [List.lookup_cons]
              split
              · rename_i hs
                have : s = k' := by simpa using hs
                subst this
                simp at hne
              · exact ih
            · exact ih
        rw [hno] at h; cases h
      · exact ih h
    · have : (k != t) = true := by simpa using hk
      simp only [this, if_true] at h
      rw [List.lookup_cons] at h ⊢
      split at h
      · exact h
      · exact ih h

theorem sw_cond {t : Tmp} {kp b : Bool} {x y : SCode} {env : Env} {h : AHeap} {Q : Exit → Env → AHeap → Prop} (hb : envF env t = some (.bool b))
    (hr : SW P n (if b then x else y) (if kp then env else dropT t env) h Q) : SW P n (.cond t kp x y) env h Q := by
  intro L C c hc hw
  cases c with
  | cond c0 x0 y0 =>
    rcases strip_cond (P := P) (n := n) (L := L) (C := C) (c := c0) (a := x0) (b := y0) with ⟨t', rfl, g⟩ | g
    · rw [g] at hc
      simp only [SCode.cond.injEq] at hc
      obtain ⟨rfl, hk, rfl, rfl⟩ := hc
      have hsub : ∀ s v, envF (if kp then env else dropT t' env) s = some v → envF env s = some v := by
        cases kp
        · exact dropT_sub
        · exact fun _ _ e => e
      obtain ⟨ex, e', h', p, q⟩ := ((hr L C (if b then x0 else y0) (by cases b <;> rfl)).sub hsub) hw
      refine ⟨ex, e', h', ⟨p.old, p.nxt, p.wf, p.own, fun B0 φ a w he hh => ?_⟩, q⟩
      obtain ⟨v', g1, g2⟩ := he.get t' _ hb
      cases g2
      refine wp_cond (t := b) ?_ (p.run B0 φ a w he hh)
      simp [Act.eval, Array.getD_eq_getD_getElem?, g1]
    · rw [g] at hc; cases hc
  | region id ops draw => rcases strip_region (P := P) (n := n) (L := L) (C := C) (id := id) (ops := ops) (draw := draw) with ⟨_, _, g⟩ | g <;> rw [g] at hc <;> cases hc
  | _ => simp [strip] at hc

/-- The end of a block. -/
def blockX (id : Nat) (Q : Exit → Env → AHeap → Prop) : Exit → Env → AHeap → Prop
  | .exit i, e, h => if i = id then Q .normal e h else Q (.exit i) e h
  | x, e, h => Q x e h

theorem aw_block {id : Nat} {a : Code} {env : Env} {h : AHeap} {Q : Exit → Env → AHeap → Prop} (hr : AW P n a env h (blockX id Q)) : AW P n (.block id a) env h Q := by
  intro hw
  obtain ⟨x, e1, h1, p, q⟩ := hr hw
  have fin : ∀ y, Q y e1 h1 → (∀ (a' : Act) (w' : World) (R : Act → World → Prop), R a' w' → Exit.inBlock id (fun ex a w => ex = y ∧ R a w) x a' w') → ∃ x e h', AWD P n (.block id a) env h x e h' ∧ Q x e h' := by
    intro y hy hx
    refine ⟨y, e1, h1, ⟨p.old, p.nxt, p.wf, p.own, fun B0 φ a w he hh => wp_block (wp_mono (p.run B0 φ a w he hh) ?_)⟩, hy⟩
    rintro ex a' w' ⟨rfl, r⟩
    exact hx a' w' (fun a' w' => _ ∧ _) r
  cases x with
  | exit i =>
    simp only [blockX] at q
    by_cases hi : i = id
    · rw [if_pos hi] at q
      exact fin .normal q (fun a' w' R r => by simp only [Exit.inBlock, if_pos hi]; exact ⟨trivial, r⟩)
    · rw [if_neg hi] at q
      exact fin (.exit i) q (fun a' w' R r => by simp only [Exit.inBlock, if_neg hi]; exact ⟨trivial, r⟩)
  | normal => exact fin .normal q (fun a' w' R r => ⟨rfl, r⟩)
  | goto i => exact fin (.goto i) q (fun a' w' R r => ⟨rfl, r⟩)
  | ret => exact fin .ret q (fun a' w' R r => ⟨rfl, r⟩)
  | panic c => exact fin (.panic c) q (fun a' w' R r => ⟨rfl, r⟩)
  | outgrown => exact fin .outgrown q (fun a' w' R r => ⟨rfl, r⟩)

theorem sw_block {id : Nat} {a : SCode} {env : Env} {h : AHeap} {Q : Exit → Env → AHeap → Prop} (hr : SW P n a env h (blockX id Q)) : SW P n (.block id a) env h Q := by
  intro L C c hc
  cases c with
  | block i x =>
    simp only [strip, SCode.block.injEq] at hc
    obtain ⟨rfl, hc⟩ := hc
    exact aw_block (hr L C x hc)
  | region id ops draw => rcases strip_region (P := P) (n := n) (L := L) (C := C) (id := id) (ops := ops) (draw := draw) with ⟨_, _, g⟩ | g <;> rw [g] at hc <;> cases hc
  | cond c a b => rcases strip_cond (P := P) (n := n) (L := L) (C := C) (c := c) (a := a) (b := b) with ⟨_, _, g⟩ | g <;> rw [g] at hc <;> cases hc
  | _ => simp [strip] at hc

/-- No jump out of a scope. -/
def scopeX (Q : Exit → Env → AHeap → Prop) : Exit → Env → AHeap → Prop
  | .goto _, _, _ => False
  | x, e, h => Q x e h

theorem sw_scope {a : SCode} {env : Env} {h : AHeap} {Q : Exit → Env → AHeap → Prop} (hr : SW P n a env h (scopeX Q)) : SW P n (.scope a) env h Q := by
  intro L C c hc hw
  cases c with
  | scope x =>
    simp only [strip, SCode.scope.injEq] at hc
    obtain ⟨ex, e1, h1, p, q⟩ := hr L C x hc hw
    have hq : Q ex e1 h1 := by cases ex <;> first | exact q | exact q.elim
    refine ⟨ex, e1, h1, ⟨p.old, p.nxt, p.wf, p.own, fun B0 φ a w he hh => wp_scope_straight (wp_mono (p.run B0 φ a w he hh) ?_)⟩, hq⟩
    rintro ex' a' w' ⟨rfl, r⟩
    cases ex' <;> first | exact ⟨rfl, r⟩ | exact q.elim
  | region id ops draw => rcases strip_region (P := P) (n := n) (L := L) (C := C) (id := id) (ops := ops) (draw := draw) with ⟨_, _, g⟩ | g <;> rw [g] at hc <;> cases hc
  | cond c a b => rcases strip_cond (P := P) (n := n) (L := L) (C := C) (c := c) (a := a) (b := b) with ⟨_, _, g⟩ | g <;> rw [g] at hc <;> cases hc
  | _ => simp [strip] at hc

/-- What a loop comes to, from the begin of a round. -/
structure LWD (P : Program) (n : Nat) (c : Code) (env : Env) (h : AHeap) (x : Exit) (env' : Env) (h' : AHeap) : Prop where
  old : ∀ i, i < h.next → still (h.obj i) = true → h'.obj i = h.obj i
  nxt : h.next ≤ h'.next
  wf : WF h → WF h'
  own : ∀ i o, h'.obj i = some o → o.owned = false → h.obj i = some o
  run : ∀ (B0 : Nat → Prop) (φ : Nat → Option Emb) (a : Act) (w : World), ER φ (envF env) a.tmps n → HR B0 φ h w → ∀ (b : Frame) (k : List Item) (cs : List Frame),
    ∃ ex a' w', (ex = x ∧ a'.defers = a.defers ∧ ∃ φ', ER φ' (envF env') a'.tmps n ∧ Post B0 h.next φ h w φ' h' w') ∧ Arrives P (lone (b.at a (.code c :: .inLoop c :: k)) cs w) b k cs ex a' w'

theorem lwd_round {c : Code} {env e1 e2 : Env} {h h1 h2 : AHeap} {x : Exit} (p : AWD P n c env h .normal e1 h1) (q : LWD P n c e1 h1 x e2 h2) : LWD P n c env h x e2 h2 := by
  refine ⟨fun i hi hn => (q.old i (Nat.lt_of_lt_of_le hi p.nxt) (by rw [p.old i hi hn]; exact hn)).trans (p.old i hi hn), Nat.le_trans p.nxt q.nxt, fun g => q.wf (p.wf g), fun i o a b => p.own i o (q.own i o a b) b, fun B0 φ a w he hh b k cs => ?_⟩
  obtain ⟨ex, a1, w1, ⟨rfl, hd, φ1, he1, hp1⟩, harr⟩ := p.run B0 φ a w he hh b (.inLoop c :: k) cs
  obtain ⟨ex2, a2, w2, ⟨rfl, hd2, φ2, he2, hp2⟩, harr2⟩ := q.run B0 φ1 a1 w1 he1 hp1.hr b k cs
  exact ⟨_, a2, w2, ⟨rfl, hd2.trans hd, φ2, he2, hp1.seq hp2⟩, .of_steps (Steps.trans harr (.one step_inLoop)) harr2⟩

theorem lwd_exit {c : Code} {env e1 : Env} {h h1 : AHeap} {x : Exit} (hx : x ≠ .normal) (p : AWD P n c env h x e1 h1) : LWD P n c env h x e1 h1 := by
  refine ⟨p.old, p.nxt, p.wf, p.own, fun B0 φ a w he hh b k cs => ?_⟩
  obtain ⟨ex, a1, w1, ⟨rfl, r⟩, harr⟩ := p.run B0 φ a w he hh b (.inLoop c :: k) cs
  exact ⟨ex, a1, w1, ⟨rfl, r⟩, .pass (x := .inLoop c) rfl (fun _ _ => .inl hx) harr⟩

theorem awd_loop {c : Code} {env e1 : Env} {h h1 : AHeap} {x : Exit} (p : LWD P n c env h x e1 h1) : AWD P n (.loop c) env h x e1 h1 := by
  refine ⟨p.old, p.nxt, p.wf, p.own, fun B0 φ a w he hh b k cs => ?_⟩
  obtain ⟨ex, a1, w1, r, harr⟩ := p.run B0 φ a w he hh b k cs
  exact ⟨ex, a1, w1, r, .of_steps (.one step_loop) harr⟩

theorem aw_loop {c : Code} {env : Env} {h : AHeap} {Q : Exit → Env → AHeap → Prop} (I : Env → AHeap → Prop) (μ : Env → AHeap → Nat) (h0 : I env h)
    (round : ∀ env h, I env h → AW P n c env h (thenX (fun e h' => I e h' ∧ μ e h' < μ env h) Q)) : AW P n (.loop c) env h Q := by
  intro hw
  have key : ∀ m env h, μ env h = m → I env h → WF h → ∃ x e h', LWD P n c env h x e h' ∧ Q x e h' := by
    intro m
    induction m using Nat.strongRecOn with
    | _ m ih =>
      intro env h hm hI hw
      obtain ⟨x, e1, h1, p, q⟩ := round env h hI hw
      by_cases hx : x = .normal
      · subst hx
        obtain ⟨hI1, hlt⟩ := q
        obtain ⟨x2, e2, h2, p2, q2⟩ := ih _ (hm ▸ hlt) e1 h1 rfl hI1 (p.wf hw)
        exact ⟨x2, e2, h2, lwd_round p p2, q2⟩
      · refine ⟨x, e1, h1, lwd_exit hx p, ?_⟩
        cases x <;> first | exact absurd rfl hx | exact q
  obtain ⟨x, e, h', p, q⟩ := key _ env h rfl h0 hw
  exact ⟨x, e, h', awd_loop p, q⟩

/-- Likewise, told by a ghost. -/
theorem aw_loopG {α : Type} {c : Code} {env : Env} {h : AHeap} {Q : Exit → Env → AHeap → Prop} (E : α → Env) (H : α → AHeap → Prop) (μ : α → Nat) (x0 : α) (h0 : ∀ t v, envF (E x0) t = some v → envF env t = some v) (h1 : H x0 h)
    (round : ∀ x h, H x h → AW P n c (E x) h (thenX (fun e h' => ∃ x', (∀ t v, envF (E x') t = some v → envF e t = some v) ∧ H x' h' ∧ μ x' < μ x) Q)) : AW P n (.loop c) env h Q := by
  intro hw
  have key : ∀ m x env h, μ x = m → (∀ t v, envF (E x) t = some v → envF env t = some v) → H x h → WF h → ∃ x e h', LWD P n c env h x e h' ∧ Q x e h' := by
    intro m
    induction m using Nat.strongRecOn with
    | _ m ih =>
      intro g env h hm hs hI hw
      obtain ⟨x, e1, h1, p, q⟩ := (round g h hI).sub hs hw
      by_cases hx : x = .normal
      · subst hx
        obtain ⟨g1, hs1, hI1, hlt⟩ := q
        obtain ⟨x2, e2, h2, p2, q2⟩ := ih _ (hm ▸ hlt) g1 e1 h1 rfl hs1 hI1 (p.wf hw)
        exact ⟨x2, e2, h2, lwd_round p p2, q2⟩
      · refine ⟨x, e1, h1, lwd_exit hx p, ?_⟩
        cases x <;> first | exact absurd rfl hx | exact q
  obtain ⟨x, e, h', p, q⟩ := key _ x0 env h rfl h0 h1 hw
  exact ⟨x, e, h', awd_loop p, q⟩

theorem sw_loopG0 {α : Type} {a : SCode} {env : Env} {h : AHeap} {Q : Exit → Env → AHeap → Prop} (E : α → Env) (H : α → AHeap → Prop) (μ : α → Nat) (x0 : α) (h0 : ∀ t v, envF (E x0) t = some v → envF env t = some v) (h1 : H x0 h)
    (round : ∀ x h, H x h → SW P n a (E x) h (thenX (fun e h' => ∃ x', (∀ t v, envF (E x') t = some v → envF e t = some v) ∧ H x' h' ∧ μ x' < μ x) Q)) : SW P n (.loop a) env h Q := by
  intro L C c hc
  cases c with
  | loop x =>
    simp only [strip, SCode.loop.injEq] at hc
    exact aw_loopG E H μ x0 h0 h1 (fun g h hI => round g h hI L C x hc)
  | region id ops draw => rcases strip_region (P := P) (n := n) (L := L) (C := C) (id := id) (ops := ops) (draw := draw) with ⟨_, _, g⟩ | g <;> rw [g] at hc <;> cases hc
  | cond c a b => rcases strip_cond (P := P) (n := n) (L := L) (C := C) (c := c) (a := a) (b := b) with ⟨_, _, g⟩ | g <;> rw [g] at hc <;> cases hc
  | _ => simp [strip] at hc

theorem sw_loop {a : SCode} {env : Env} {h : AHeap} {Q : Exit → Env → AHeap → Prop} (I : Env → AHeap → Prop) (μ : Env → AHeap → Nat) (h0 : I env h)
    (round : ∀ env h, I env h → SW P n a env h (thenX (fun e h' => I e h' ∧ μ e h' < μ env h) Q)) : SW P n (.loop a) env h Q := by
  intro L C c hc
  cases c with
  | loop x =>
    simp only [strip, SCode.loop.injEq] at hc
    exact aw_loop I μ h0 (fun env h hI => round env h hI L C x hc)
  | region id ops draw => rcases strip_region (P := P) (n := n) (L := L) (C := C) (id := id) (ops := ops) (draw := draw) with ⟨_, _, g⟩ | g <;> rw [g] at hc <;> cases hc
  | cond c a b => rcases strip_cond (P := P) (n := n) (L := L) (C := C) (c := c) (a := a) (b := b) with ⟨_, _, g⟩ | g <;> rw [g] at hc <;> cases hc
  | _ => simp [strip] at hc

/-- The slots at a call's begin. -/
def params (args : List Value) : Env := (List.range args.length).zip args

theorem params_get {args : List Value} {t : Tmp} {v : Value} (h : envF (params args) t = some v) : args[t]? = some v := by
  have key : ∀ (l : List Value) (k t : Nat), ((List.range' k l.length).zip l).lookup t = some v → k ≤ t ∧ l[t - k]? = some v := by
    intro l
    induction l with
    | nil => intro k t h; simp at h
    | cons u r ih =>
      intro k t h
      rw [List.length_cons, List.range'_succ, List.zip_cons_cons, List.lookup_cons] at h
      split at h
      · rename_i hk
        have : t = k := by simpa using hk
        subst this
        simpa using h
      · rename_i hk
        have hne : t ≠ k := by simpa using hk
        obtain ⟨h1, h2⟩ := ih (k + 1) t h
        refine ⟨by omega, ?_⟩
        obtain ⟨m, hm⟩ : ∃ m, t - k = m + 1 := ⟨t - k - 1, by omega⟩
        rw [hm, List.getElem?_cons_succ, show m = t - (k + 1) by omega]
        exact h2
  unfold envF params at h
  rw [List.range_eq_range'] at h
  simpa using (key args 0 t h).2

/-- What a function hands back, out of its slots, and out of memory. -/
def resOf (P : Program) (env : Env) (h : AHeap) : List ResultVar → Option (List Value)
  | [] => some []
  | .tmp t :: r => match envF env t, resOf P env h r with
    | some v, some vs => some (v :: vs)
    | _, _ => none
  | .cell a t :: r => match envF env a, resOf P env h r with
    | some (.pointer (some ⟨i, off, none⟩)), some vs => (match h.obj i with
      | some (.arr _ _ c) => (match aLoad P t c off with
        | some v => some (v :: vs)
        | none => none)
      | _ => none)
    | _, _ => none

def resV : List Value → Value
  | [v] => v
  | vs => .tuple vs.toArray

def retQ (P : Program) (res : List ResultVar) (Q : Value → AHeap → Prop) : Exit → Env → AHeap → Prop
  | .normal, env, h | .ret, env, h => ∃ vs, resOf P env h res = some vs ∧ Q (resV vs) h
  | _, _, _ => False

theorem resV_rel {φ : Nat → Option Emb} : ∀ {vs us : List Value}, VRs φ vs us → VR φ (resV vs) (resV us)
  | [], [], _ => .tuple rfl (by simp)
  | [v], [u], hv => hv.2 0 v u rfl rfl
  | _ :: _ :: _, _ :: _ :: _, hv => .tuple hv.arr.1 hv.arr.2
  | [], _ :: _, hv => by have := hv.1; simp at this
  | [_], [], hv => by have := hv.1; simp at this
  | [_], _ :: _ :: _, hv => by have := hv.1; simp at this
  | _ :: _ :: _, [], hv => by have := hv.1; simp at this
  | _ :: _ :: _, [_], hv => by have := hv.1; simp at this

theorem results_sound {B0 : Nat → Prop} {φ : Nat → Option Emb} {env : Env} {h : AHeap} {w : World} {tmps : Array Value} {fn : Func} (he : ER φ (envF env) tmps n) (hh : HR B0 φ h w) {vs : List Value} (hr : resOf P env h fn.results.toList = some vs) :
    ∃ v', (results fn tmps).run P w = .ok v' w ∧ VR φ (resV vs) v' := by
  unfold results
  generalize hg : (fun (x : ResultVar) => (match x with
      | .tmp t => pure (tmps.getD t undef)
      | .cell a t => do loadVar t (← asAddr (tmps.getD a undef)) : Sem Value)) = g
  have hg' : ∀ t, g (.tmp t) = pure (tmps.getD t undef) := fun t => by rw [← hg]
  have hg2 : ∀ a t, g (.cell a t) = (do loadVar t (← asAddr (tmps.getD a undef)) : Sem Value) := fun a t => by rw [← hg]
  have key : ∀ (l : List ResultVar) (vs : List Value), resOf P env h l = some vs → ∃ us, (l.mapM g).run P w = .ok us w ∧ VRs φ vs us := by
    intro l
    induction l with
    | nil => intro vs h; simp [resOf] at h; subst h; exact ⟨[], by simp, VRs.nil⟩
    | cons x r ih =>
      intro vs hv
      cases x with
      | tmp t =>
        unfold resOf at hv
        split at hv
        · rename_i v us h1 h2
          cases hv
          obtain ⟨v', g1, g2⟩ := he.get t v h1
          obtain ⟨us', g3, g4⟩ := ih us h2
          refine ⟨v' :: us', ?_, VRs.cons g2 g4⟩
          simp only [List.mapM_cons, Sem.run_bind, hg', Sem.run_pure, Result.andThen_ok, g3, Array.getD_eq_getD_getElem?, g1, Option.getD_some]
        · cases hv
      | cell a t =>
        unfold resOf at hv
        split at hv
        · rename_i i off us h1 h2
          split at hv
          · rename_i own ty c hob
            split at hv
            · rename_i v hl
              cases hv
              obtain ⟨v', g1, g2⟩ := he.get a _ h1
              cases g2 with
              | ptr hφ =>
                obtain ⟨e', q1, q2⟩ := hh.obj _ _ hob
                rw [hφ] at q1; cases q1
                obtain ⟨v'', r1, r2⟩ := aLoad_sound (P := P) q2 hl
                obtain ⟨us', g3, g4⟩ := ih us h2
                refine ⟨v'' :: us', ?_, VRs.cons r2 g4⟩
                simp only [List.mapM_cons, Sem.run_bind, hg2, Sem.run_pure, Result.andThen_ok, g3, Array.getD_eq_getD_getElem?, g1, Option.getD_some, asAddr, r1]
            · cases hv
          · cases hv
        · cases hv
  obtain ⟨us, h1, h2⟩ := key _ _ hr
  refine ⟨resV us, ?_, resV_rel h2⟩
  rw [← Array.toArray_toList (xs := fn.results), List.mapM_toArray]
  simp only [Sem.run_bind, Sem.run_map, h1, Result.andThen_ok, Sem.run_pure]
  congr 1
  match us with
  | [] => simp [resV]
  | [t] => simp [resV]
  | t :: u :: r => simp [resV]

theorem acall_intro {f : FuncId} {fn : Func} {c : Code} {L C : List Tmp} {res : List ResultVar} {s : SCode} {args : List Value} {h : AHeap} {Q : Value → AHeap → Prop} (hf : P.funcs[f]? = some fn) (hb : fn.body = some c)
    (hname : (fn.name == "runtime.NumGoroutine") = false) (hres : fn.results.toList = res) (hs : strip P fn.ntmps L C c = s)
    (hr : SW P fn.ntmps s (params args) h (retQ P res Q)) : ACallW P f args h Q := by
  intro hw
  obtain ⟨x, e1, h1, p, q⟩ := hr L C c hs hw
  obtain ⟨hx, vs, hvs, hQ⟩ : (x = .normal ∨ x = .ret) ∧ ∃ vs, resOf P e1 h1 res = some vs ∧ Q (resV vs) h1 := by
    cases x <;> first | exact ⟨.inl rfl, q⟩ | exact ⟨.inr rfl, q⟩ | exact q.elim
  refine ⟨resV vs, h1, ⟨⟨fn, hf, by rw [hb]; rfl, hname⟩, p.old, p.nxt, p.wf, p.own, fun B0 φ args' w ha hh => ?_⟩, hQ⟩
  refine calls_of_wp hf hb ?_
  have he : ER φ (envF (params args)) (args'.toArray ++ Array.replicate (fn.ntmps - args'.toArray.size) undef) fn.ntmps := by
    refine ⟨by simp; omega, fun t v hv => ?_⟩
    obtain ⟨v', g1, g2⟩ := ha.get (params_get hv)
    have : t < args'.length := (List.getElem?_eq_some_iff.1 g1).1
    exact ⟨v', by rw [Array.getElem?_append_left (by simpa using this)]; simpa using g1, g2⟩
  refine wp_mono (p.run B0 φ _ w he hh) ?_
  rintro ex a' w' ⟨rfl, hd, φ', he', hp⟩
  obtain ⟨v', hrun, hrel⟩ := results_sound he' hp.hr (by rw [hres]; exact hvs)
  rcases hx with rfl | rfl
  · exact ⟨hd, v', hrun, v', φ', rfl, hrel, hp⟩
  · exact ⟨hd, v', hrun, v', φ', rfl, hrel, hp⟩

end Go.Proofs.Ytbcgcnmnblfhmaa.Lin
