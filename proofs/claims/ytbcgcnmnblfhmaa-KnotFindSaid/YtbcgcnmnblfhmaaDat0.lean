/- Data in memory: what a row of cells stands for; a row that is built. -/
import Derived.Test.YtbcgcnmnblfhmaaLin17
namespace Go.Proofs.Ytbcgcnmnblfhmaa.Lin

/-- What S lets be looked at in one heap is in the other one, but for who may write it. -/
def Sees (S : Nat → Prop) (h : AHeap) (S' : Nat → Prop) (h' : AHeap) : Prop := ∀ i, S i → S' i ∧ ∀ o, h.obj i = some o → ∃ o', h'.obj i = some o' ∧ o'.froz = o.froz

theorem froz_arr {o : AObj} {own : Bool} {ty : TypeId} {c : List Value} (h : o.froz = (AObj.arr own ty c).froz) : ∃ own', o = .arr own' ty c := by
  cases o with
  | arr own' ty' c' => simp only [AObj.froz, AObj.arr.injEq] at h; obtain ⟨_, rfl, rfl⟩ := h; exact ⟨own', rfl⟩
  | map => simp [AObj.froz] at h
theorem AObj.froz_froz (o : AObj) : o.froz.froz = o.froz := by cases o <;> rfl

theorem Sees.arr {S S' : Nat → Prop} {h h' : AHeap} (s : Sees S h S' h') {i : Nat} (hi : S i) {own : Bool} {ty : TypeId} {c : List Value} (ho : h.obj i = some (.arr own ty c)) : ∃ own', h'.obj i = some (.arr own' ty c) := by
  obtain ⟨o', h1, h2⟩ := (s i hi).2 _ ho
  obtain ⟨own', rfl⟩ := froz_arr h2
  exact ⟨own', h1⟩
theorem Sees.refl (S : Nat → Prop) (h : AHeap) : Sees S h S h := fun _ hi => ⟨hi, fun o ho => ⟨o, ho, rfl⟩⟩
theorem Sees.sub {S S' : Nat → Prop} {h : AHeap} (hs : ∀ i, S i → S' i) : Sees S h S' h := fun i hi => ⟨hs i hi, fun o ho => ⟨o, ho, rfl⟩⟩
theorem Sees.same {S S' : Nat → Prop} {h h' : AHeap} (hs : ∀ i, S i → S' i) (ho : ∀ i, S i → h'.obj i = h.obj i) : Sees S h S' h' := fun i hi => ⟨hs i hi, fun o h1 => ⟨o, (ho i hi).trans h1, rfl⟩⟩
theorem Sees.frz {S S' : Nat → Prop} {h : AHeap} (E : Nat → Bool) (hs : ∀ i, S i → S' i) : Sees S h S' (h.frz E) := by
  refine fun i hi => ⟨hs i hi, fun o ho => ?_⟩
  rw [AHeap.frz_obj, ho]
  cases E i
  · exact ⟨_, rfl, o.froz_froz⟩
  · exact ⟨_, rfl, rfl⟩

/-- How a thing lies in cells. -/
structure Cod (α : Type) where
  n : Nat
  R : (Nat → Prop) → AHeap → List Value → α → Prop
  len : ∀ {S h cs x}, R S h cs x → cs.length = n
  mono : ∀ {S S' h h' cs x}, Sees S h S' h' → R S h cs x → R S' h' cs x

def cInt (k : IntKind) (lo hi : Int) : Cod Int where
  n := 1
  R := fun _ _ cs x => cs = [.int k x] ∧ lo ≤ x ∧ x ≤ hi
  len := fun h => by rw [h.1]; rfl
  mono := fun _ h => h
def cI : Cod Int := cInt .i64 (-9223372036854775808) 9223372036854775807
def cU8 : Cod Int := cInt .u8 0 255
def cNat : Cod Nat where
  n := 1
  R := fun _ _ cs x => cs = [.int .i64 x] ∧ x ≤ 9223372036854775807
  len := fun h => by rw [h.1]; rfl
  mono := fun _ h => h
def cBool : Cod Bool where
  n := 1
  R := fun _ _ cs x => cs = [.bool x]
  len := fun h => by rw [h]; rfl
  mono := fun _ h => h

/-- A slice of such. -/
def cSlc {α : Type} (c : Cod α) : Cod (List α) where
  n := 1
  R := fun S h cs l => ∃ p q, cs = [.slice p l.length q] ∧ ((p = none ∧ q = 0 ∧ l = []) ∨ ∃ r o, p = some ⟨r, o, none⟩ ∧ q = c.n ∧
    (l ≠ [] → S r ∧ ∃ own ty k, h.obj r = some (.arr own ty k) ∧ o + l.length * c.n ≤ k.length ∧ ∀ i x, l[i]? = some x → c.R S h ((k.drop (o + i * c.n)).take c.n) x))
  len := fun ⟨_, _, h, _⟩ => by rw [h]; rfl
  mono := by
    rintro S S' h h' cs l s ⟨p, q, e, r⟩
    refine ⟨p, q, e, ?_⟩
    rcases r with r | ⟨r, o, e1, e2, e3⟩
    · exact .inl r
    · refine .inr ⟨r, o, e1, e2, fun hl => ?_⟩
      obtain ⟨hs, own, ty, k, h1, h2, h3⟩ := e3 hl
      obtain ⟨own', h1'⟩ := s.arr hs h1
      exact ⟨(s r hs).1, own', ty, k, h1', h2, fun i x hx => c.mono s (h3 i x hx)⟩

@[simp] theorem cSlc_n {α : Type} (c : Cod α) : (cSlc c).n = 1 := (rfl)
@[simp] theorem cInt_n (k : IntKind) (lo hi : Int) : (cInt k lo hi).n = 1 := (rfl)
@[simp] theorem cI_n : cI.n = 1 := (rfl)
@[simp] theorem cU8_n : cU8.n = 1 := (rfl)
@[simp] theorem cNat_n : cNat.n = 1 := (rfl)
@[simp] theorem cBool_n : cBool.n = 1 := (rfl)

theorem slc_val {α : Type} {c : Cod α} {S : Nat → Prop} {h : AHeap} {v : Value} {l : List α} (r : (cSlc c).R S h [v] l) : ∃ p q, v = .slice p l.length q := by
  obtain ⟨p, q, e, _⟩ := r
  exact ⟨p, q, by simpa using e⟩

/-- A slice that has something, opened. -/
theorem slc_open {α : Type} {c : Cod α} {S : Nat → Prop} {h : AHeap} {v : Value} {l : List α} (r : (cSlc c).R S h [v] l) (hl : 0 < l.length) :
    ∃ r o own ty k, v = .slice (some ⟨r, o, none⟩) l.length c.n ∧ S r ∧ h.obj r = some (.arr own ty k) ∧ o + l.length * c.n ≤ k.length ∧ ∀ i x, l[i]? = some x → c.R S h ((k.drop (o + i * c.n)).take c.n) x := by
  obtain ⟨p, q, e, r⟩ := r
  rcases r with ⟨_, _, rfl⟩ | ⟨r, o, rfl, rfl, e3⟩
  · simp at hl
  · obtain ⟨hs, own, ty, k, h1, h2, h3⟩ := e3 (by rintro rfl; simp at hl)
    exact ⟨r, o, own, ty, k, by simpa using e, hs, h1, h2, h3⟩

theorem take_one {k : List Value} {o : Nat} (h : o < k.length) : (k.drop o).take 1 = [k[o]] := by
  rw [List.take_one]
  simp [h]

/-- .. of elements of one cell. -/
theorem slc_open1 {α : Type} {c : Cod α} (hc : c.n = 1) {S : Nat → Prop} {h : AHeap} {v : Value} {l : List α} (r : (cSlc c).R S h [v] l) (hl : 0 < l.length) :
    ∃ r o own ty k, v = .slice (some ⟨r, o, none⟩) l.length 1 ∧ S r ∧ h.obj r = some (.arr own ty k) ∧ o + l.length ≤ k.length ∧ ∀ i x, l[i]? = some x → ∃ u, k[o + i]? = some u ∧ c.R S h [u] x := by
  obtain ⟨r, o, own, ty, k, h1, h2, h3, h4, h5⟩ := slc_open r hl
  rw [hc] at h1 h4
  refine ⟨r, o, own, ty, k, h1, h2, h3, by omega, fun i x hx => ?_⟩
  have hi := (List.getElem?_eq_some_iff.1 hx).1
  have := h5 i x hx
  rw [hc, Nat.mul_one, take_one (by omega)] at this
  exact ⟨k[o + i], List.getElem?_eq_getElem _, this⟩

theorem slc_nil {α : Type} {c : Cod α} {S : Nat → Prop} {h : AHeap} : (cSlc c).R S h [.slice none 0 0] [] := ⟨none, 0, rfl, .inl ⟨rfl, rfl, rfl⟩⟩

/-- A row of cells of one's own, that is built. -/
def Arr (ty : TypeId) (sz : Nat) (h : AHeap) (v : Value) (m : Nat) (L : List Value) : Prop :=
  (v = .slice none 0 0 ∧ m = 0 ∧ L = []) ∨ ∃ id c, v = .slice (some ⟨id, 0, none⟩) m sz ∧ L.length = m * sz ∧ id < h.next ∧ h.obj id = some (.arr true ty (L ++ c))

/-- Which number a slice's row has. -/
def idOf : Value → Nat → Prop
  | .slice (some a) _ _, i => i = a.block
  | _, _ => False

theorem arr_nil {ty : TypeId} {sz : Nat} {h : AHeap} : Arr ty sz h (.slice none 0 0) 0 [] := .inl ⟨rfl, rfl, rfl⟩
theorem arr_keep {ty : TypeId} {sz m : Nat} {h h' : AHeap} {v : Value} {L : List Value} (A : Arr ty sz h v m L) (hn : h.next ≤ h'.next) (ho : ∀ i, i < h.next → idOf v i → h'.obj i = h.obj i) : Arr ty sz h' v m L := by
  rcases A with A | ⟨id, c, rfl, h1, h2, h3⟩
  · exact .inl A
  · exact .inr ⟨id, c, rfl, h1, by omega, (ho id h2 rfl).trans h3⟩

/-- What is built, of things. -/
def Bld {α : Type} (c : Cod α) (ty : TypeId) (S : Nat → Prop) (h : AHeap) (v : Value) (l : List α) : Prop :=
  ∃ L, Arr ty c.n h v l.length L ∧ ∀ i x, l[i]? = some x → c.R (fun j => S j ∧ j < h.next ∧ ¬ idOf v j) h ((L.drop (i * c.n)).take c.n) x

theorem bld_nil {α : Type} {c : Cod α} {ty : TypeId} {S : Nat → Prop} {h : AHeap} : Bld c ty S h (.slice none 0 0) [] := ⟨[], arr_nil, fun i x hx => by simp at hx⟩

/-- It stays, where what it looks at stays. -/
theorem bld_keep {α : Type} {c : Cod α} {ty : TypeId} {S S' : Nat → Prop} {h h' : AHeap} {v : Value} {l : List α} (B : Bld c ty S h v l) (hn : h.next ≤ h'.next) (hS : ∀ j, j < h.next → S j → S' j) (ho : ∀ i, i < h.next → S i ∨ idOf v i → h'.obj i = h.obj i) : Bld c ty S' h' v l := by
  obtain ⟨L, A, r⟩ := B
  exact ⟨L, arr_keep A hn (fun i hi g => ho i hi (.inr g)), fun i x hx => c.mono (Sees.same (fun j hj => ⟨hS j hj.2.1 hj.1, by omega, hj.2.2⟩) (fun j hj => ho j hj.2.1 (.inl hj.1))) (r i x hx)⟩

/-- What is built, opened: its cells, and what they are. -/
theorem bld_open {α : Type} {c : Cod α} {ty : TypeId} {S : Nat → Prop} {h : AHeap} {v : Value} {l : List α} (B : Bld c ty S h v l) : ∃ L, L.length = l.length * c.n ∧
    ((v = .slice none 0 0 ∧ L = [] ∧ l = []) ∨ ∃ id k, v = .slice (some ⟨id, 0, none⟩) l.length c.n ∧ id < h.next ∧ h.obj id = some (.arr true ty (L ++ k))) ∧
    ∀ i x, l[i]? = some x → c.R (fun j => S j ∧ j < h.next ∧ ¬ idOf v j) h ((L.drop (i * c.n)).take c.n) x := by
  obtain ⟨L, A, r⟩ := B
  rcases A with ⟨h1, h2, h3⟩ | ⟨id, k, h1, h2, h3, h4⟩
  · exact ⟨L, by rw [h3, h2]; simp, .inl ⟨h1, h3, List.eq_nil_of_length_eq_zero h2⟩, r⟩
  · exact ⟨L, h2, .inr ⟨id, k, h1, h3, h4⟩, r⟩

/-- One more. -/
theorem bld_app {α : Type} {c : Cod α} {ty : TypeId} {S S' : Nat → Prop} {h h' : AHeap} {v : Value} {l : List α} {L : List Value} (hL : L.length = l.length * c.n) (r : ∀ i x, l[i]? = some x → c.R (fun j => S j ∧ j < h.next ∧ ¬ idOf v j) h ((L.drop (i * c.n)).take c.n) x)
    {id m sz : Nat} {x : α} {cs : List Value} (hm : m = l.length + 1) (hsz : sz = c.n) (hid : h.next ≤ id) (hlt : id < h'.next) (hn : h.next ≤ h'.next) (hobj : ∃ t, h'.obj id = some (.arr true ty (L ++ (cs ++ t))))
    (hS : ∀ j, j < h.next → S j → S' j) (ho : ∀ i, i < h.next → S i → ¬ idOf v i → h'.obj i = h.obj i) (hx : c.R (fun j => S' j ∧ j < h'.next ∧ j ≠ id) h' cs x) : Bld c ty S' h' (.slice (some ⟨id, 0, none⟩) m sz) (l ++ [x]) := by
  obtain ⟨t, ht⟩ := hobj
  have hcs := c.len hx
  subst hm
  subst hsz
  refine ⟨L ++ cs, .inr ⟨id, t, by simp, ?_, hlt, by rw [ht, List.append_assoc]⟩, fun i y hy => ?_⟩
  · rw [List.length_append, hL, hcs]; simp [Nat.add_mul]
  · by_cases hi : i < l.length
    · rw [List.getElem?_append_left hi] at hy
      have h1 := r i y hy
      have h2 : ((L ++ cs).drop (i * c.n)).take c.n = (L.drop (i * c.n)).take c.n := by
        have hle : i * c.n + c.n ≤ L.length := by rw [hL, ← Nat.succ_mul]; exact Nat.mul_le_mul_right _ hi
        rw [List.drop_append_of_le_length (by omega), List.take_append_of_le_length (by rw [List.length_drop]; omega)]
      rw [h2]
      exact c.mono (Sees.same (fun j hj => ⟨hS j hj.2.1 hj.1, by omega, fun g => by have g' : j = id := g; omega⟩) (fun j hj => ho j hj.2.1 hj.1 hj.2.2)) h1
    · have hi' : i = l.length := by
        have := (List.getElem?_eq_some_iff.1 hy).1
        rw [List.length_append, List.length_singleton] at this
        omega
      subst hi'
      rw [List.getElem?_append_right (Nat.le_refl _), Nat.sub_self] at hy
      cases hy
      have h2 : ((L ++ cs).drop (l.length * c.n)).take c.n = cs := by
        rw [← hL, List.drop_append_of_le_length (Nat.le_refl _), List.drop_length, List.nil_append, ← hcs, List.take_length]
      rw [h2]
      exact c.mono (Sees.sub (fun j hj => hj)) hx

/-- What was built is data. -/
theorem bld_done {α : Type} {c : Cod α} {ty : TypeId} {S : Nat → Prop} {h : AHeap} {v : Value} {l : List α} (B : Bld c ty S h v l) : (cSlc c).R (fun j => j < h.next) h [v] l := by
  obtain ⟨L, A, r⟩ := B
  rcases A with ⟨rfl, h1, _⟩ | ⟨id, k, rfl, h1, h2, h3⟩
  · have : l = [] := List.eq_nil_of_length_eq_zero h1
    subst this
    exact slc_nil
  · refine ⟨_, _, rfl, .inr ⟨id, 0, rfl, rfl, fun _ => ⟨h2, true, ty, L ++ k, h3, by rw [List.length_append]; omega, fun i x hx => ?_⟩⟩⟩
    have hi := (List.getElem?_eq_some_iff.1 hx).1
    have h4 : ((L ++ k).drop (0 + i * c.n)).take c.n = (L.drop (i * c.n)).take c.n := by
      have hle : i * c.n + c.n ≤ L.length := by rw [h1, ← Nat.succ_mul]; exact Nat.mul_le_mul_right _ hi
      rw [Nat.zero_add, List.drop_append_of_le_length (by omega), List.take_append_of_le_length (by rw [List.length_drop]; omega)]
    rw [h4]
    exact c.mono (Sees.sub (fun j hj => hj.2.1)) (r i x hx)

theorem bld_lt {α : Type} {c : Cod α} {ty : TypeId} {S : Nat → Prop} {h : AHeap} {v : Value} {l : List α} (B : Bld c ty S h v l) : ∀ j, idOf v j → j < h.next := by
  obtain ⟨L, A, r⟩ := B
  intro j hj
  rcases A with ⟨rfl, _⟩ | ⟨id, k, rfl, _, h2, _⟩
  · exact hj.elim
  · have e : j = id := hj
    omega

/-- .. and looks at no more than it did. -/
theorem bld_done2 {α : Type} {c : Cod α} {ty : TypeId} {S : Nat → Prop} {h : AHeap} {v : Value} {l : List α} (B : Bld c ty S h v l) : (cSlc c).R (fun j => (idOf v j ∨ S j) ∧ j < h.next) h [v] l := by
  obtain ⟨L, A, r⟩ := B
  rcases A with ⟨rfl, h1, _⟩ | ⟨id, k, rfl, h1, h2, h3⟩
  · have : l = [] := List.eq_nil_of_length_eq_zero h1
    subst this
    exact slc_nil
  · refine ⟨_, _, rfl, .inr ⟨id, 0, rfl, rfl, fun _ => ⟨⟨.inl rfl, h2⟩, true, ty, L ++ k, h3, by rw [List.length_append]; omega, fun i x hx => ?_⟩⟩⟩
    have hi := (List.getElem?_eq_some_iff.1 hx).1
    have h4 : ((L ++ k).drop (0 + i * c.n)).take c.n = (L.drop (i * c.n)).take c.n := by
      have hle : i * c.n + c.n ≤ L.length := by rw [h1, ← Nat.succ_mul]; exact Nat.mul_le_mul_right _ hi
      rw [Nat.zero_add, List.drop_append_of_le_length (by omega), List.take_append_of_le_length (by rw [List.length_drop]; omega)]
    rw [h4]
    exact c.mono (Sees.sub (fun j hj => ⟨.inr hj.1, hj.2.1⟩)) (r i x hx)

theorem bld_val {α : Type} {c : Cod α} {ty : TypeId} {S : Nat → Prop} {h : AHeap} {v : Value} {l : List α} (B : Bld c ty S h v l) : ∃ p q, v = .slice p l.length q := slc_val (bld_done B)

/-- All but one row is as it was, and there is more. -/
structure Grew (h h' : AHeap) (v : Value) : Prop where
  nxt : h.next ≤ h'.next
  obj : ∀ j, j < h.next → ¬ idOf v j → h'.obj j = h.obj j

theorem Grew.on {h0 h h' : AHeap} {v : Value} (g : Grew h h' v) (on : On h0 h) (hv : ∀ j, idOf v j → h0.next ≤ j) : On h0 h' :=
  ⟨Nat.le_trans on.nxt g.nxt, fun j hj => (g.obj j (Nat.lt_of_lt_of_le hj on.nxt) (fun q => by have := hv j q; omega)).trans (on.obj j hj)⟩
theorem Grew.keep {α : Type} {c : Cod α} {ty : TypeId} {S S' : Nat → Prop} {h h' : AHeap} {v w : Value} {l : List α} (g : Grew h h' v) (B : Bld c ty S h w l) (hw : ∀ j, S j ∨ idOf w j → ¬ idOf v j) (hS : ∀ j, j < h.next → S j → S' j) : Bld c ty S' h' w l :=
  bld_keep B g.nxt hS (fun j hj q => g.obj j hj (hw j q))
/-- One more. -/
theorem Grew.app {α : Type} {c : Cod α} {ty : TypeId} {S S' : Nat → Prop} {h h' : AHeap} {v : Value} (g : Grew h h' v) {l : List α} {L : List Value} (hL : L.length = l.length * c.n) (r : ∀ i x, l[i]? = some x → c.R (fun j => S j ∧ j < h.next ∧ ¬ idOf v j) h ((L.drop (i * c.n)).take c.n) x)
    (id m sz : Nat) (x : α) (cs t : List Value) (hm : m = l.length + 1) (hsz : sz = c.n) (hid : h.next ≤ id) (hlt : id < h'.next) (hobj : h'.obj id = some (.arr true ty (L ++ (cs ++ t))))
    (hS : ∀ j, j < h.next → S j → S' j) (hx : c.R (fun j => S' j ∧ j < h'.next ∧ j ≠ id) h' cs x) : Bld c ty S' h' (.slice (some ⟨id, 0, none⟩) m sz) (l ++ [x]) :=
  bld_app hL r hm hsz hid hlt g.nxt ⟨t, hobj⟩ hS (fun i hi _ hn => g.obj i hi hn) hx

/-- A slice, in its three shapes. -/
theorem slc_cases {α : Type} {c : Cod α} {S : Nat → Prop} {h : AHeap} {v : Value} {l : List α} (r : (cSlc c).R S h [v] l) : (v = .slice none 0 0 ∧ l = []) ∨ (l = [] ∧ ∃ r o, v = .slice (some ⟨r, o, none⟩) 0 c.n) ∨
    0 < l.length ∧ ∃ r o own ty k, v = .slice (some ⟨r, o, none⟩) l.length c.n ∧ S r ∧ h.obj r = some (.arr own ty k) ∧ o + l.length * c.n ≤ k.length ∧ ∀ i x, l[i]? = some x → c.R S h ((k.drop (o + i * c.n)).take c.n) x := by
  by_cases hl : 0 < l.length
  · exact .inr (.inr ⟨hl, slc_open r hl⟩)
  · have : l = [] := List.eq_nil_of_length_eq_zero (by omega)
    subst this
    obtain ⟨p, q, e, r⟩ := r
    have e' : v = .slice p 0 q := by simpa using e
    subst e'
    rcases r with ⟨rfl, rfl, _⟩ | ⟨r, o, rfl, rfl, _⟩
    · exact .inl ⟨rfl, rfl⟩
    · exact .inr (.inl ⟨rfl, r, o, rfl⟩)

theorem res_thaw {P : Program} {env : Env} {h h' : AHeap} {E : Nat → Bool} (hk : ∀ i, i < h.next → E i = false → h'.obj i = (h.frz E).obj i) : ∀ {l : List ResultVar} {vs : List Value}, resOf P env h' l = some vs → resOf P env (h'.thaw h E) l = some vs
  | [], _, h => h
  | .tmp t :: r, vs, h => by
    unfold resOf at h ⊢
    split at h
    · rename_i h1 h2
      rw [h1, res_thaw hk h2]; exact h
    · cases h
  | .cell a t :: r, vs, hv => by
    unfold resOf at hv ⊢
    split at hv
    · rename_i i off us h1 h2
      rw [h1, res_thaw hk h2]
      simp only
      split at hv
      · rename_i own ty c ho
        have : ∃ own', (h'.thaw h E).obj i = some (.arr own' ty c) := by
          rw [AHeap.thaw_obj]
          split
          · rename_i hc
            rw [hk i hc.1 hc.2, AHeap.frz_obj, hc.2] at ho
            simp only [Bool.false_eq_true, if_false, Option.map_eq_some_iff] at ho
            obtain ⟨o, h3, h4⟩ := ho
            cases o with
            | arr own' ty' c' => simp only [AObj.froz, AObj.arr.injEq] at h4; obtain ⟨_, rfl, rfl⟩ := h4; exact ⟨own', h3⟩
            | map => cases h4
          · exact ⟨own, ho⟩
        obtain ⟨own', ho'⟩ := this
        rw [ho']; exact hv
      · cases hv
    · cases hv

/-- Data are there still. -/
theorem dat_on {α : Type} {c : Cod α} {h0 h : AHeap} {cs : List Value} {x : α} (D : c.R (· < h0.next) h0 cs x) (on : On h0 h) : c.R (· < h.next) h cs x :=
  c.mono (Sees.same (fun _ hj => Nat.lt_of_lt_of_le hj on.nxt) (fun j hj => on.obj j hj)) D

/-- A piece of code that only builds: all that is there is only read meanwhile, and all of it is there behind it. -/
theorem sw_apart {P : Program} {n : Nat} {s : SCode} {env : Env} {h : AHeap} {Q : Exit → Env → AHeap → Prop}
    (k : ∀ h0, h0.next = h.next → (∀ i, still (h0.obj i) = true) → Sees (· < h.next) h (· < h0.next) h0 →
      SW P n s env h0 (fun x e h' => ∀ h'', h''.next = h'.next → On h h'' → (∀ i, h.next ≤ i → h''.obj i = h'.obj i) → Sees (· < h'.next) h' (· < h''.next) h'' → Q x e h'')) : SW P n s env h Q := by
  refine sw_frz (fun _ => false) ((k (h.frz fun _ => false) rfl (fun i => frz_still rfl) (Sees.frz _ (fun i hi => hi))).mono ?_)
  intro x e h' q hn hk
  refine q (h'.thaw h fun _ => false) rfl ⟨hn, fun i hi => ?_⟩ (fun i hi => ?_) (fun i hi => ⟨hi, fun o ho => ?_⟩)
  · rw [AHeap.thaw_obj, if_pos ⟨hi, rfl⟩]
  · rw [AHeap.thaw_obj, if_neg (by omega)]
  · rw [AHeap.thaw_obj]
    split
    · rename_i hc
      rw [hk i hc.1 rfl, AHeap.frz_obj] at ho
      simp only [Bool.false_eq_true, if_false, Option.map_eq_some_iff] at ho
      obtain ⟨o', h1, rfl⟩ := ho
      exact ⟨o', h1, o'.froz_froz.symm⟩
    · exact ⟨o, ho, rfl⟩

/-- What was built meanwhile. -/
theorem bld_apart {α : Type} {c : Cod α} {ty : TypeId} {S : Nat → Prop} {h h0 h' h'' : AHeap} {v : Value} {l : List α} (B : Bld c ty S h' v l) (st : ∀ i, still (h0.obj i) = true) (hn : h0.next = h.next) (on : On h0 h')
    (e1 : h''.next = h'.next) (e2 : ∀ i, h.next ≤ i → h''.obj i = h'.obj i) (e3 : Sees (· < h'.next) h' (· < h''.next) h'') : Bld c ty S h'' v l ∧ ∀ j, idOf v j → h.next ≤ j := by
  obtain ⟨L, A, r⟩ := B
  have hid : ∀ j, idOf v j → h.next ≤ j := by
    intro j hj
    rcases A with ⟨rfl, _⟩ | ⟨id, k, rfl, _, hlt, hob⟩
    · exact hj.elim
    · have hj' : j = id := hj
      subst hj'
      rcases Nat.lt_or_ge j h.next with g | g
      · have h1 := on.obj j (by omega)
        have h2 := st j
        rw [← h1, hob] at h2
        cases h2
      · exact g
  refine ⟨⟨L, ?_, fun i x hx => c.mono (fun j hj => ⟨⟨hj.1, by omega, hj.2.2⟩, fun o ho => (e3 j hj.2.1).2 o ho⟩) (r i x hx)⟩, hid⟩
  rcases A with A | ⟨id, k, rfl, h1, h2, h3⟩
  · exact .inl A
  · exact .inr ⟨id, k, rfl, h1, by omega, (e2 id (hid id rfl)).trans h3⟩

/-- From here on all that is there is only read. -/
theorem sw_begin {P : Program} {n : Nat} {s : SCode} {env : Env} {h : AHeap} {res : List ResultVar} {Q : Value → Prop} (k : ∀ h1, h1.next = h.next → (∀ i, still (h1.obj i) = true) → Sees (· < h.next) h (· < h1.next) h1 → SW P n s env h1 (retQ P res fun v _ => Q v)) :
    SW P n s env h (retQ P res fun v _ => Q v) := by
  refine sw_frz (fun _ => false) ((k (h.frz fun _ => false) rfl (fun i => frz_still rfl) (Sees.frz _ (fun i hi => hi))).mono ?_)
  intro ex e h' q _ hk
  cases ex with
  | normal => obtain ⟨vs, h1, h2⟩ := q; exact ⟨vs, res_thaw hk h1, h2⟩
  | ret => obtain ⟨vs, h1, h2⟩ := q; exact ⟨vs, res_thaw hk h1, h2⟩
  | _ => exact q
end Go.Proofs.Ytbcgcnmnblfhmaa.Lin
