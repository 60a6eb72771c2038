/- Two operations of a region, one behind the other, may change places. -/
import Derived.Test.YtbcgcnmnblfhmaaLin11
namespace Go.Proofs.Ytbcgcnmnblfhmaa.Lin
variable {P : Program}

structure SOp where
  ix : Nat
  dst : Option Tmp
  op : Op
  gd : Option (Tmp × Bool)

def wantedS (g : Option (Tmp × Bool)) (e : FEnv) : Option Bool := match g with
  | none => some true
  | some (t, w) => match e t with
    | some (.bool b) => some (b == w)
    | _ => none

def SOp.sees (s : SOp) : List Tmp := looks s.op ++ (match s.gd with
  | some (t, _) => [t]
  | none => [])

/-- What was read would be read again. -/
def reread (P : Program) (r : SOp) (e : FEnv) (h : AHeap) : Prop := match wantedS r.gd e with
  | some true => ∃ t v, r.dst = some t ∧ e t = some v ∧ aRead P r.op e h = some v
  | some false => True
  | none => False

/-- A step of a region, for whoever walks; what was read ahead of it, and might be read behind it, is still the same. -/
def stepP (P : Program) (s : SOp) (pend : List SOp) (base : Nat) (K : FEnv → AHeap → Prop) (e : FEnv) (h : AHeap) : Prop :=
  match wantedS s.gd e with
  | some true => opP P s.op (base + s.ix) e h fun v h' => (∀ r ∈ pend, reread P r (e.put s.dst v) h') ∧ K (e.put s.dst v) h'
  | some false => K (e.put s.dst undef) h
  | none => False

/-- What a step of a region comes to. -/
def StepR (P : Program) (s : SOp) (pend : List SOp) (base : Nat) (e : FEnv) (h : AHeap) (e' : FEnv) (h' : AHeap) : Prop :=
  match wantedS s.gd e with
  | some true => ∃ v, OpRel P s.op (base + s.ix) e h v h' ∧ e' = e.put s.dst v ∧ ∀ r ∈ pend, reread P r e' h'
  | some false => e' = e.put s.dst undef ∧ h' = h
  | none => False

theorem stepP_rel {s : SOp} {pend : List SOp} {base : Nat} {K : FEnv → AHeap → Prop} {e : FEnv} {h : AHeap} (hid : h.obj (base + s.ix) = none) (hwf : WF h) (hs : stepP P s pend base K e h) :
    ∃ e' h', StepR P s pend base e h e' h' ∧ K e' h' := by
  unfold stepP at hs
  unfold StepR
  split at hs
  · obtain ⟨v, h', a, b, c⟩ := opP_rel hid hwf hs
    exact ⟨_, h', ⟨v, a, rfl, b⟩, c⟩
  · exact ⟨_, _, ⟨rfl, rfl⟩, hs⟩
  · exact hs.elim

theorem StepR_wf {s : SOp} {pend : List SOp} {base : Nat} {e e' : FEnv} {h h' : AHeap} (hid : base + s.ix < h.next) (hw : WF h) (hs : StepR P s pend base e h e' h') : WF h' := by
  unfold StepR at hs
  split at hs
  · obtain ⟨v, ho, _⟩ := hs; exact OpRel_wf hid hw ho
  · rw [hs.2]; exact hw
  · exact hs.elim

theorem put_put_comm (e : FEnv) {d d' : Option Tmp} (v v' : Value) (hd : ∀ t, d = some t → d' ≠ some t) : (e.put d v).put d' v' = (e.put d' v').put d v := by
  cases d with
  | none => rfl
  | some a =>
    cases d' with
    | none => rfl
    | some b =>
      have : a ≠ b := fun g => hd a rfl (by rw [g])
      funext t
      simp only [FEnv.put]
      by_cases h1 : t = a <;> by_cases h2 : t = b <;> simp_all

theorem put_other (e : FEnv) {d : Option Tmp} {v : Value} {t : Tmp} (h : d ≠ some t) : (e.put d v) t = e t := by
  cases d with
  | none => rfl
  | some a =>
    simp only [FEnv.put]
    rw [if_neg (fun g => h (by rw [g]))]

theorem put_self (e : FEnv) (t : Tmp) (v : Value) : (e.put (some t) v) t = some v := by simp [FEnv.put]

theorem sees_agree {s : SOp} {e : FEnv} {d : Option Tmp} {v : Value} (h : ∀ t, d = some t → t ∉ s.sees) : Agree s.op (e.put d v) e ∧ wantedS s.gd (e.put d v) = wantedS s.gd e := by
  refine ⟨agree_put (fun t ht g => h t ht (by simp [SOp.sees, g])), ?_⟩
  cases hg : s.gd with
  | none => rfl
  | some p =>
    obtain ⟨t, w⟩ := p
    simp only [wantedS]
    rw [put_other]
    intro g
    exact h t g (by simp [SOp.sees, hg])

def Away (d : Option Tmp) (r : SOp) : Prop := ∀ t, d = some t → t ∉ r.sees ∧ r.dst ≠ some t

theorem reread_put {r : SOp} {e : FEnv} {h : AHeap} {d : Option Tmp} {v : Value} (ha : Away d r) : reread P r (e.put d v) h ↔ reread P r e h := by
  obtain ⟨h1, h2⟩ := sees_agree (s := r) (e := e) (d := d) (v := v) (fun t ht => (ha t ht).1)
  unfold reread
  rw [h2, aRead_congr h1]
  split
  · constructor
    · rintro ⟨t, u, a, b, c⟩
      refine ⟨t, u, a, ?_, c⟩
      rw [put_other] at b
      · exact b
      · intro g; exact (ha t g).2 a
    · rintro ⟨t, u, a, b, c⟩
      refine ⟨t, u, a, ?_, c⟩
      rw [put_other]
      · exact b
      · intro g; exact (ha t g).2 a
  · rfl
  · rfl

theorem reread_put_obj {r : SOp} {e : FEnv} {h : AHeap} {id : Nat} (ob : AObj) (hid : h.obj id = none) (hr : reread P r e h) : reread P r e (h.put id ob) := by
  unfold reread at *
  split at hr
  · obtain ⟨t, v, a, b, c⟩ := hr; exact ⟨t, v, a, b, aRead_put ob hid c⟩
  · trivial
  · exact hr

/-- The slots of two operations don't meet. -/
structure Apart (x y : SOp) : Prop where
  xy : ∀ t, x.dst = some t → t ∉ y.sees
  yx : ∀ t, y.dst = some t → t ∉ x.sees
  dd : ∀ t, x.dst = some t → y.dst ≠ some t

theorem Apart.symm {x y : SOp} (h : Apart x y) : Apart y x := ⟨h.yx, h.xy, fun t a b => h.dd t b a⟩

variable {x y : SOp} {base : Nat} {e e1 e2 : FEnv} {h h' h1 h2 : AHeap} {px py px' py' : List SOp}

/-- Two kinds of operations of which the first may as well come second. -/
def clsFree : Cls → Cls → Bool
  | .P, _ | _, .P | .R, _ | .A, .A | .E, .A => true
  | _, _ => false

/-- A step that quietly yields a value. -/
def quietV (P : Program) (s : SOp) (e : FEnv) (h : AHeap) : Option Value := match wantedS s.gd e with
  | some true => (match clsOf P s.op with
    | .P => aPure P s.op e
    | .R => aRead P s.op e h
    | _ => none)
  | some false => some undef
  | none => none

theorem StepR_congr (hd : ∀ t, x.dst = some t → t ∉ y.sees) {v : Value} : (wantedS y.gd (e.put x.dst v) = wantedS y.gd e) ∧ ∀ {id h v' h'}, OpRel P y.op id (e.put x.dst v) h v' h' ↔ OpRel P y.op id e h v' h' :=
  ⟨(sees_agree hd).2, OpRel_congr (sees_agree hd).1⟩

/-- What a step puts into its slot. -/
theorem StepR_put (hs : StepR P x px base e h e1 h1) : ∃ v, e1 = e.put x.dst v := by
  unfold StepR at hs
  split at hs
  · obtain ⟨v, _, a, _⟩ := hs; exact ⟨v, a⟩
  · exact ⟨_, hs.1⟩
  · exact hs.elim

/-- A step that is taken ahead of another one's slot. -/
theorem StepR_ahead (ha : Apart x y) {v : Value} (hs : StepR P y py base (e.put x.dst v) h e2 h2) (hpy : ∀ r ∈ py', r ∈ py ∧ Away x.dst r) :
    ∃ u, e2 = (e.put x.dst v).put y.dst u ∧ StepR P y py' base e h (e.put y.dst u) h2 := by
  have hy := StepR_congr (P := P) (e := e) (v := v) ha.xy
  unfold StepR at hs ⊢
  rw [hy.1] at hs
  split at hs
  · obtain ⟨u, a, b, c⟩ := hs
    refine ⟨u, b, ?_⟩
    refine ⟨u, hy.2.1 a, rfl, fun r hr => ?_⟩
    have := c r (hpy r hr).1
    rw [b, put_put_comm e v u ha.dd] at this
    exact (reread_put (hpy r hr).2).1 this
  · exact ⟨undef, hs.1, rfl, hs.2⟩
  · exact hs.elim

/-- A step that is taken behind another one's slot. -/
theorem StepR_behind (ha : Apart x y) {u v : Value} (hs : StepR P x px base e h (e.put x.dst v) h1) (hpx : ∀ r ∈ px', r ∈ px ∧ Away y.dst r)
    (hob : ∀ r, reread P r (e.put x.dst v) h1 → reread P r (e.put x.dst v) h2)
    (hop : ∀ w, wantedS x.gd e = some true → OpRel P x.op (base + x.ix) e h w h1 → OpRel P x.op (base + x.ix) e h' w h2) (hsk : wantedS x.gd e = some false → h1 = h → h2 = h') :
    StepR P x px' base (e.put y.dst u) h' ((e.put y.dst u).put x.dst v) h2 := by
  have hx := StepR_congr (P := P) (x := y) (y := x) (e := e) (v := u) ha.yx
  unfold StepR at hs ⊢
  rw [hx.1]
  split at hs
  · rename_i hw
    obtain ⟨w, a, b, c⟩ := hs
    refine ⟨w, hx.2.2 (hop w hw a), ?_, fun r hr => ?_⟩
    · rw [put_put_comm (d := y.dst) (d' := x.dst) e u v ha.symm.dd, b, put_put_comm (d := x.dst) (d' := y.dst) e w u ha.dd]
    · rw [put_put_comm (d := y.dst) (d' := x.dst) e u v ha.symm.dd]
      exact (reread_put (hpx r hr).2).2 (hob r (c r (hpx r hr).1))
  · rename_i hw
    refine ⟨?_, hsk hw hs.2⟩
    rw [put_put_comm (d := y.dst) (d' := x.dst) e u v ha.symm.dd, hs.1, put_put_comm (d := x.dst) (d' := y.dst) e undef u ha.dd]
  · exact hs.elim

theorem StepR_skip {w : Bool} (hw : wantedS x.gd e = some w) (hf : w = false) (hs : StepR P x px base e h e1 h1) : e1 = e.put x.dst undef ∧ h1 = h := by
  subst hf
  unfold StepR at hs
  rw [hw] at hs
  exact hs

theorem StepR_exec (hw : wantedS x.gd e = some true) (hs : StepR P x px base e h e1 h1) : ∃ v, OpRel P x.op (base + x.ix) e h v h1 ∧ e1 = e.put x.dst v ∧ ∀ r ∈ px, reread P r e1 h1 := by
  unfold StepR at hs
  rw [hw] at hs
  exact hs

theorem StepR_wanted (hs : StepR P x px base e h e1 h1) : ∃ w, wantedS x.gd e = some w := by
  unfold StepR at hs
  split at hs
  · exact ⟨_, by assumption⟩
  · exact ⟨_, by assumption⟩
  · exact hs.elim

theorem StepR_mk {v : Value} (hw : wantedS x.gd e = some true) (ho : OpRel P x.op (base + x.ix) e h v h1) (hp : ∀ r ∈ px, reread P r (e.put x.dst v) h1) : StepR P x px base e h (e.put x.dst v) h1 := by
  unfold StepR
  rw [hw]
  exact ⟨v, ho, rfl, hp⟩

theorem StepR_mk0 (hw : wantedS x.gd e = some false) : StepR P x px base e h (e.put x.dst undef) h := by
  unfold StepR
  rw [hw]
  exact ⟨rfl, rfl⟩

/-- Two steps change places. -/
theorem swap (ha : Apart x y) (hix : x.ix ≠ y.ix) (hfree : clsFree (clsOf P x.op) (clsOf P y.op) = true) (hidy : h.obj (base + y.ix) = none) (hlt : base + y.ix < h.next)
    (hpy : ∀ r ∈ py', r ∈ py ∧ Away x.dst r) (hpx : ∀ r ∈ px', r ∈ px ∧ Away y.dst r) (hR : clsOf P x.op = .R → clsOf P y.op = .E → x ∈ py)
    (hxP : clsOf P x.op ≠ .E → px' = []) (hyP : clsOf P y.op ≠ .E → py' = []) (hself : clsOf P x.op = .R → ∀ t, x.dst = some t → t ∉ x.sees)
    (S1 : StepR P x px base e h e1 h1) (S2 : StepR P y py base e1 h1 e2 h2) : ∃ e1' h1', StepR P y py' base e h e1' h1' ∧ StepR P x px' base e1' h1' e2 h2 := by
  obtain ⟨v, rfl⟩ := StepR_put S1
  obtain ⟨u, rfl⟩ := StepR_put S2
  obtain ⟨wx, hwx⟩ := StepR_wanted S1
  have cy := StepR_congr (P := P) (x := x) (y := y) (e := e) (v := v) ha.xy
  have cx := StepR_congr (P := P) (x := y) (y := x) (e := e) (v := u) ha.yx
  obtain ⟨wy, hwy⟩ := StepR_wanted S2
  rw [cy.1] at hwy
  have hcomm : (e.put x.dst v).put y.dst u = (e.put y.dst u).put x.dst v := put_put_comm e v u ha.dd
  -- the two cases in which the first one leaves the heap as it is
  have quiet : h1 = h → (∀ h3, (h3 = h ∨ (∃ ob, h3 = h.put (base + y.ix) ob) ∨ (clsOf P y.op = .E ∧ wantedS y.gd e = some true ∧ ∀ r ∈ py, reread P r ((e.put x.dst v).put y.dst u) h3)) → StepR P x [] base (e.put y.dst u) h3 ((e.put y.dst u).put x.dst v) h3) →
      px' = [] → ∃ e1' h1', StepR P y py' base e h e1' h1' ∧ StepR P x px' base e1' h1' ((e.put x.dst v).put y.dst u) h2 := by
    intro hh hq hp
    subst hh
    obtain ⟨u', hu, hS⟩ := StepR_ahead (py' := py') ha S2 hpy
    refine ⟨e.put y.dst u, h2, ?_, ?_⟩
    · have : e.put y.dst u' = e.put y.dst u := by
        funext t
        by_cases ht : y.dst = some t
        · have := congrFun hu t
          rw [ht] at this ⊢
          rw [put_self, put_self] at this
          rw [put_self, put_self, this]
        · rw [put_other _ ht, put_other _ ht]
      rw [← this]; exact hS
    · rw [hp, hcomm]
      refine hq h2 ?_
      cases wy with
      | false =>
        have := (StepR_skip (by rw [cy.1]; exact hwy) rfl S2).2
        exact .inl this
      | true =>
        obtain ⟨u0, ho, he, hr⟩ := StepR_exec (by rw [cy.1]; exact hwy) S2
        unfold OpRel at ho
        split at ho
        · exact .inl ho.2
        · exact .inl ho.2
        · obtain ⟨ob, mk, _, _, _, g⟩ := ho; exact .inr (.inl ⟨ob, g⟩)
        · rename_i hc
          refine .inr (.inr ⟨hc, hwy, fun r hr' => hr r hr'⟩)
  -- the second one, where it leaves the heap as it is
  have quiet2 : h2 = h1 → StepR P y py' base e h (e.put y.dst u) h → (clsOf P y.op ≠ .E ∨ wantedS y.gd e = some false) →
      ∃ e1' h1', StepR P y py' base e h e1' h1' ∧ StepR P x px' base e1' h1' ((e.put x.dst v).put y.dst u) h2 := by
    intro hh hS _
    subst hh
    refine ⟨_, _, hS, ?_⟩
    rw [hcomm]
    exact StepR_behind ha S1 hpx (fun r hr => hr) (fun w _ ho => ho) (fun _ g => g)
  cases wx with
  | false =>
    obtain ⟨g1, g2⟩ := StepR_skip hwx rfl S1
    cases wy with
    | false =>
      obtain ⟨g3, g4⟩ := StepR_skip (by rw [cy.1]; exact hwy) rfl S2
      refine ⟨e.put y.dst undef, h, StepR_mk0 hwy, ?_⟩
      have cx0 := StepR_congr (P := P) (x := y) (y := x) (e := e) (v := undef) ha.yx
      rw [g3, g4, g2, g1, put_put_comm e undef undef ha.dd]
      exact StepR_mk0 (by rw [cx0.1]; exact hwx)
    | true =>
      subst g2
      obtain ⟨u', hu, hS⟩ := StepR_ahead (py' := py') ha S2 hpy
      refine ⟨e.put y.dst u', h2, hS, ?_⟩
      have cx0 := StepR_congr (P := P) (x := y) (y := x) (e := e) (v := u') ha.yx
      rw [hu, g1, put_put_comm e undef u' ha.dd]
      exact StepR_mk0 (by rw [cx0.1]; exact hwx)
  | true =>
    obtain ⟨v0, ox, ex, rx⟩ := StepR_exec hwx S1
    have hv0 : e.put x.dst v = e.put x.dst v0 := ex
    cases hcx : clsOf P x.op with
    | P =>
      have ox' := ox
      unfold OpRel at ox'
      rw [hcx] at ox'
      refine quiet ox'.2 (fun h3 _ => ?_) (hxP (by rw [hcx]; simp))
      have : (e.put y.dst u).put x.dst v = (e.put y.dst u).put x.dst v0 := by
        rw [← put_put_comm e v u ha.dd, hv0, put_put_comm e v0 u ha.dd]
      rw [this]
      refine StepR_mk (by rw [cx.1]; exact hwx) (cx.2.2 ?_) (by simp)
      unfold OpRel
      rw [hcx]
      exact ⟨ox'.1, rfl⟩
    | R =>
      have ox' := ox
      unfold OpRel at ox'
      rw [hcx] at ox'
      refine quiet ox'.2 (fun h3 h3c => ?_) (hxP (by rw [hcx]; simp))
      have : (e.put y.dst u).put x.dst v = (e.put y.dst u).put x.dst v0 := by
        rw [← put_put_comm e v u ha.dd, hv0, put_put_comm e v0 u ha.dd]
      rw [this]
      refine StepR_mk (by rw [cx.1]; exact hwx) (cx.2.2 ?_) (by simp)
      unfold OpRel
      rw [hcx]
      refine ⟨?_, rfl⟩
      rcases h3c with rfl | ⟨ob, rfl⟩ | ⟨hE, _, hr⟩
      · exact ox'.1
      · exact aRead_put ob hidy ox'.1
      · have := hr x (hR hcx hE)
        unfold reread at this
        have hsx : ∀ t, x.dst = some t → t ∉ x.sees := hself hcx
        have cxx := sees_agree (s := x) (e := e) (d := x.dst) (v := v) hsx
        rw [hcomm] at this
        have cxy := sees_agree (s := x) (e := e.put y.dst u) (d := x.dst) (v := v) hsx
        rw [cxy.2, cx.1, hwx] at this
        obtain ⟨t, v1, d1, d2, d3⟩ := this
        rw [aRead_congr cxy.1, aRead_congr (sees_agree (s := x) (e := e) (d := y.dst) (v := u) ha.yx).1] at d3
        have : v1 = v0 := by
          rw [← put_put_comm e v u ha.dd, hv0, put_other _ (ha.dd t d1), d1, put_self] at d2
          exact (Option.some.inj d2).symm
        rw [this] at d3
        exact d3
    | A =>
      have ox' := ox
      unfold OpRel at ox'
      rw [hcx] at ox'
      obtain ⟨ob, mk, a1, a2, a3, a4⟩ := ox'
      cases wy with
      | false =>
        obtain ⟨g3, g4⟩ := StepR_skip (by rw [cy.1]; exact hwy) rfl S2
        have hu : e.put y.dst u = e.put y.dst undef := by
          funext t
          by_cases ht : y.dst = some t
          · have := congrFun g3 t
            rw [ht] at this ⊢
            rwa [put_self, put_self] at this ⊢
          · rw [put_other _ ht, put_other _ ht]
        exact quiet2 g4 (by rw [hu]; exact StepR_mk0 hwy) (.inr hwy)
      | true =>
        obtain ⟨u0, oy, ey, ry⟩ := StepR_exec (by rw [cy.1]; exact hwy) S2
        have hu : e.put y.dst u = e.put y.dst u0 := by
          funext t
          by_cases ht : y.dst = some t
          · have := congrFun ey t
            rw [ht] at this ⊢
            rwa [put_self, put_self] at this ⊢
          · rw [put_other _ ht, put_other _ ht]
        have oy' := cy.2.1 oy
        unfold OpRel at oy'
        cases hcy : clsOf P y.op with
        | P =>
          rw [hcy] at oy'
          refine quiet2 oy'.2 ?_ (.inl (by rw [hcy]; simp))
          rw [hu]
          refine StepR_mk hwy ?_ (by rw [hyP (by rw [hcy]; simp)]; simp)
          unfold OpRel
          rw [hcy]
          exact ⟨oy'.1, rfl⟩
        | R => rw [hcx, hcy] at hfree; simp [clsFree] at hfree
        | E => rw [hcx, hcy] at hfree; simp [clsFree] at hfree
        | A =>
          rw [hcy] at oy'
          obtain ⟨ob', mk', b1, b2, b3, b4⟩ := oy'
          refine ⟨e.put y.dst u, h.put (base + y.ix) ob', ?_, ?_⟩
          · rw [hu]
            refine StepR_mk hwy ?_ (by rw [hyP (by rw [hcy]; simp)]; simp)
            unfold OpRel
            rw [hcy]
            exact ⟨ob', mk', b1, hidy, b3, rfl⟩
          · rw [hcomm, hxP (by rw [hcx]; simp)]
            have : (e.put y.dst u).put x.dst v = (e.put y.dst u).put x.dst v0 := by
              rw [← put_put_comm e v u ha.dd, hv0, put_put_comm e v0 u ha.dd]
            rw [this]
            refine StepR_mk (by rw [cx.1]; exact hwx) (cx.2.2 ?_) (by simp)
            unfold OpRel
            rw [hcx]
            refine ⟨ob, mk, a1, ?_, a3, ?_⟩
            · rw [AHeap.put_ne _ _ (by omega)]; exact a2
            · rw [b4, a4, AHeap.put_comm _ _ _ (by omega)]
    | E =>
      cases wy with
      | false =>
        obtain ⟨g3, g4⟩ := StepR_skip (by rw [cy.1]; exact hwy) rfl S2
        have hu : e.put y.dst u = e.put y.dst undef := by
          funext t
          by_cases ht : y.dst = some t
          · have := congrFun g3 t
            rw [ht] at this ⊢
            rwa [put_self, put_self] at this ⊢
          · rw [put_other _ ht, put_other _ ht]
        exact quiet2 g4 (by rw [hu]; exact StepR_mk0 hwy) (.inr hwy)
      | true =>
        obtain ⟨u0, oy, ey, ry⟩ := StepR_exec (by rw [cy.1]; exact hwy) S2
        have hu : e.put y.dst u = e.put y.dst u0 := by
          funext t
          by_cases ht : y.dst = some t
          · have := congrFun ey t
            rw [ht] at this ⊢
            rwa [put_self, put_self] at this ⊢
          · rw [put_other _ ht, put_other _ ht]
        have oy' := cy.2.1 oy
        unfold OpRel at oy'
        cases hcy : clsOf P y.op with
        | P =>
          rw [hcy] at oy'
          refine quiet2 oy'.2 ?_ (.inl (by rw [hcy]; simp))
          rw [hu]
          refine StepR_mk hwy ?_ (by rw [hyP (by rw [hcy]; simp)]; simp)
          unfold OpRel
          rw [hcy]
          exact ⟨oy'.1, rfl⟩
        | R => rw [hcx, hcy] at hfree; simp [clsFree] at hfree
        | E => rw [hcx, hcy] at hfree; simp [clsFree] at hfree
        | A =>
          rw [hcy] at oy'
          obtain ⟨ob', mk', b1, b2, b3, b4⟩ := oy'
          refine ⟨e.put y.dst u, h.put (base + y.ix) ob', ?_, ?_⟩
          · rw [hu]
            refine StepR_mk hwy ?_ (by rw [hyP (by rw [hcy]; simp)]; simp)
            unfold OpRel
            rw [hcy]
            exact ⟨ob', mk', b1, hidy, b3, rfl⟩
          · rw [hcomm]
            refine StepR_behind ha S1 hpx (fun r hr => ?_) (fun w _ ho => ?_) (fun g => by rw [hwx] at g; cases g)
            · rw [b4]; exact reread_put_obj ob' b2 hr
            · unfold OpRel at ho ⊢
              rw [hcx] at ho ⊢
              simp only at ho ⊢
              split at ho
              · rw [b4]; exact ho.frame ob' hidy hlt
              · rw [b4]; exact (aEff_put ob' hidy (by omega) ho).1

end Go.Proofs.Ytbcgcnmnblfhmaa.Lin
