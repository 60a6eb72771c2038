/- The model does what aPure says: the operations one by one. -/
import Derived.Test.YtbcgcnmnblfhmaaLin2
namespace Go.Proofs.Ytbcgcnmnblfhmaa.Lin
variable {P : Program} {φ : Nat → Option Emb}

theorem VR.int_inv {k : IntKind} {n : Int} {v : Value} (h : VR φ (.int k n) v) : v = .int k n := by cases h; rfl
theorem VR.bool_inv {b : Bool} {v : Value} (h : VR φ (.bool b) v) : v = .bool b := by cases h; rfl
theorem VR.string_inv {s : ByteArray} {v : Value} (h : VR φ (.string s) v) : v = .string s := by cases h; rfl

theorem aSliceIx_bound {len l h : Nat} {lo hi : Option Value} (e : aSliceIx len lo hi = some (l, h)) : l ≤ h ∧ h ≤ len := by
  unfold aSliceIx at e
  rw [Option.bind_eq_some_iff] at e
  obtain ⟨h0, e1, e2⟩ := e
  have hh : h0 ≤ len := by
    split at e1
    · cases e1; exact Nat.le_refl _
    · split at e1
      · rename_i g; cases e1; omega
      · cases e1
    · cases e1
  split at e2
  · cases e2; exact ⟨Nat.zero_le _, hh⟩
  · split at e2
    · rename_i g; cases e2; exact ⟨by omega, hh⟩
    · cases e2
  · cases e2

theorem rBound {k : IntKind} {n : Int} {y : Nat} {c : BoundsCode} (h : 0 ≤ n ∧ n ≤ y) (w : World) : (Instr.sliceBound (.int k n) y c).run P w = .ok n.toNat w := by
  simp only [Instr.sliceBound, asIntOf, Sem.run_bind, Sem.run_pure, Result.andThen_ok]
  rw [if_pos h]; rfl

theorem hi_inv {len h0 : Nat} {hi : Option Value} (e : (match hi with
    | none => some len
    | some (.int _ n) => if 0 ≤ n ∧ n ≤ len then some n.toNat else none
    | _ => none) = some h0) : (hi = none ∧ h0 = len) ∨ ∃ k n, hi = some (.int k n) ∧ 0 ≤ n ∧ n ≤ len ∧ h0 = n.toNat := by
  split at e
  · cases e; exact .inl ⟨rfl, rfl⟩
  · split at e
    · rename_i g; cases e; exact .inr ⟨_, _, rfl, g.1, g.2, rfl⟩
    · cases e
  · cases e

theorem lo_inv {l h0 h : Nat} {lo : Option Value} (e : (match lo with
    | none => some (0, h0)
    | some (.int _ n) => if 0 ≤ n ∧ n ≤ h0 then some (n.toNat, h0) else none
    | _ => none) = some (l, h)) : h0 = h ∧ ((lo = none ∧ l = 0) ∨ ∃ k n, lo = some (.int k n) ∧ 0 ≤ n ∧ n ≤ h0 ∧ l = n.toNat) := by
  split at e
  · cases e; exact ⟨rfl, .inl ⟨rfl, rfl⟩⟩
  · split at e
    · rename_i g; cases e; exact ⟨rfl, .inr ⟨_, _, rfl, g.1, g.2, rfl⟩⟩
    · cases e
  · cases e

theorem bounds_sound {isS : Bool} {len cap l h : Nat} {lo hi : Option Value} (hc : len ≤ cap) (e : aSliceIx len lo hi = some (l, h)) (w : World) :
    (Instr.sliceBounds isS len cap lo hi none).run P w = .ok (l, h, cap) w := by
  unfold aSliceIx at e
  rw [Option.bind_eq_some_iff] at e
  obtain ⟨h0, e1, e2⟩ := e
  unfold Instr.sliceBounds
  have e3 := lo_inv e2
  have e4 := hi_inv e1
  clear e1 e2
  obtain ⟨rfl, e3⟩ := e3
  rcases e4 with ⟨rfl, rfl⟩ | ⟨k, n, rfl, g1, g2, rfl⟩ <;> rcases e3 with ⟨rfl, rfl⟩ | ⟨k', n', rfl, g3, g4, rfl⟩
  · rfl
  · simp only [Sem.run_bind, Sem.run_pure, Result.andThen_ok, rBound (P := P) (⟨g3, g4⟩ : 0 ≤ n' ∧ n' ≤ _)]
  · simp only [Sem.run_bind, Sem.run_pure, Result.andThen_ok, rBound (P := P) (⟨g1, by omega⟩ : 0 ≤ n ∧ n ≤ (cap : Int))]
  · simp only [Sem.run_bind, Sem.run_pure, Result.andThen_ok, rBound (P := P) (⟨g1, by omega⟩ : 0 ≤ n ∧ n ≤ (cap : Int)), rBound (P := P) (⟨g3, g4⟩ : 0 ≤ n' ∧ n' ≤ _)]

theorem optV_sound {e : FEnv} {a : Act} {n : Nat} (he : ER φ e a.tmps n) {x : Option Operand} {r : Option Value} (h : optV e x = some r) :
    (r = none ∧ x.map a.eval = none) ∨ ∃ v v', r = some v ∧ x.map a.eval = some v' ∧ VR φ v v' := by
  cases x with
  | none => simp [optV] at h; left; exact ⟨h.symm, rfl⟩
  | some x =>
    simp only [optV, Option.map_eq_some_iff] at h
    obtain ⟨v, h1, rfl⟩ := h
    exact .inr ⟨v, a.eval x, rfl, rfl, he.eval h1⟩

theorem aSliceIx_rel {len l h : Nat} {e : FEnv} {a : Act} {n : Nat} (he : ER φ e a.tmps n) {x y : Option Operand} {r s : Option Value}
    (h1 : optV e x = some r) (h2 : optV e y = some s) (hx : aSliceIx len r s = some (l, h)) : aSliceIx len (x.map a.eval) (y.map a.eval) = some (l, h) := by
  have e1 : x.map a.eval = r ∨ (∀ k m, r ≠ some (.int k m)) := by
    rcases optV_sound he h1 with ⟨rfl, g⟩ | ⟨v, v', rfl, g, hv⟩
    · exact .inl g
    · rw [g]
      cases hv <;> first | exact .inl rfl | (exact .inr (by simp))
  have e2 : y.map a.eval = s ∨ (∀ k m, s ≠ some (.int k m)) := by
    rcases optV_sound he h2 with ⟨rfl, g⟩ | ⟨v, v', rfl, g, hv⟩
    · exact .inl g
    · rw [g]
      cases hv <;> first | exact .inl rfl | (exact .inr (by simp))
  have hr : x.map a.eval = r := by
    rcases e1 with g | g
    · exact g
    · rcases optV_sound he h1 with ⟨rfl, g2⟩ | ⟨v, v', rfl, g2, hv⟩
      · exact g2
      · exfalso
        unfold aSliceIx at hx
        rw [Option.bind_eq_some_iff] at hx
        obtain ⟨_, _, hx⟩ := hx
        split at hx <;> simp_all
  have hs : y.map a.eval = s := by
    rcases e2 with g | g
    · exact g
    · rcases optV_sound he h2 with ⟨rfl, g2⟩ | ⟨v, v', rfl, g2, hv⟩
      · exact g2
      · exfalso
        unfold aSliceIx at hx
        rw [Option.bind_eq_some_iff] at hx
        obtain ⟨_, hx, _⟩ := hx
        split at hx <;> simp_all
  rw [hr, hs]; exact hx

theorem add_eq (b o n : Nat) : (⟨b, o, none⟩ : Addr).add n = ⟨b, o + n, none⟩ := by unfold Addr.add; split <;> simp_all

theorem rSliceAt {t el : TypeId} {x' : Value} (hd : P.underlying t = some (.slice el)) {lo hi : Option Value} (w : World) :
    (Instr.sliceAt t x' lo hi none).run P w = (Instr.slice t x' lo hi none).run P w := by
  unfold Instr.sliceAt
  simp only [Sem.run_bind, run_underlying hd, Result.andThen_ok]

theorem slice_sound {t el : TypeId} {i off len esz l h : Nat} {x' : Value} {lo hi : Option Value} (hd : P.underlying t = some (.slice el)) (hs : szOf P el = some esz)
    (hx : VR φ (.slice (some ⟨i, off, none⟩) len esz) x') (hi' : aSliceIx len lo hi = some (l, h)) (w : World) :
    ∃ v', (Instr.sliceAt t x' lo hi none).run P w = .ok v' w ∧ VR φ (.slice (some ⟨i, off + l * esz, none⟩) (h - l) esz) v' := by
  have hb := aSliceIx_bound hi'
  rw [rSliceAt hd]
  unfold Instr.slice
  cases hx with
  | @slice _ _ _ _ cap e hφ hl hc =>
    have hr := bounds_sound (P := P) (isS := true) hl hi' w
    simp only [Sem.run_bind, run_underlying hd, Result.andThen_ok, hr, rSz hs, Sem.run_pure]
    by_cases hcl : cap = l
    · subst hcl
      have h0 : h - cap = 0 := by omega
      rw [if_pos rfl, h0, Nat.sub_self]
      exact ⟨_, rfl, .sliceZero⟩
    · rw [if_neg hcl]
      refine ⟨_, rfl, ?_⟩
      simp only [Option.map_some, add_eq]
      rw [Nat.add_assoc]
      refine .slice hφ (by omega) ?_
      have : l * esz + (cap - l) * esz = cap * esz := by rw [← Nat.add_mul]; congr 1; omega
      omega
  | @sliceZero _ _ _ a =>
    have h0 : l = 0 ∧ h = 0 := by omega
    obtain ⟨rfl, rfl⟩ := h0
    have hr := bounds_sound (P := P) (isS := true) (Nat.le_refl 0) hi' w
    simp only [Sem.run_bind, run_underlying hd, Result.andThen_ok, hr, rSz hs, Sem.run_pure, if_true, Nat.sub_self]
    exact ⟨_, rfl, .sliceZero⟩

theorem sliceNil_sound {t el : TypeId} {r : Nat × Nat} {m : Nat} {x' : Value} {lo hi : Option Value} (hd : P.underlying t = some (.slice el)) (hs : szOf P el = some m)
    (hx : VR φ (.slice none 0 0) x') (hi' : aSliceIx 0 lo hi = some r) (w : World) :
    (Instr.sliceAt t x' lo hi none).run P w = .ok (.slice none 0 0) w := by
  obtain ⟨l, h⟩ := r
  have hb := aSliceIx_bound hi'
  have h0 : l = 0 ∧ h = 0 := by omega
  obtain ⟨rfl, rfl⟩ := h0
  rw [rSliceAt hd]
  unfold Instr.slice
  cases hx
  have hr := bounds_sound (P := P) (isS := true) (Nat.le_refl 0) hi' w
  simp only [Sem.run_bind, run_underlying hd, Result.andThen_ok, hr, rSz hs, Sem.run_pure, if_true, Nat.sub_self]

theorem sliceStr_sound {t : TypeId} {s : ByteArray} {l h : Nat} {lo hi : Option Value} (hd : P.underlying t = some .string)
    (hi' : aSliceIx s.size lo hi = some (l, h)) (w : World) :
    (Instr.sliceAt t (.string s) lo hi none).run P w = .ok (.string (s.extract l h)) w := by
  unfold Instr.sliceAt
  simp only [Sem.run_bind, run_underlying hd, Result.andThen_ok]
  unfold Instr.slice
  have hr := bounds_sound (P := P) (isS := false) (Nat.le_refl s.size) hi' w
  simp only [Sem.run_bind, run_underlying hd, Result.andThen_ok, Option.isSome_none, Bool.false_eq_true, if_false, Sem.run_pure, hr]

theorem fieldAddr_sound {t : TypeId} {fs : Array Field} {f i off n : Nat} {fd : Field} {x' : Value} (hd : P.underlying t = some (.struct fs)) (hf : fs[f]? = some fd)
    (hs : szOf P fd.type = some (n + 1)) (hx : VR φ (.pointer (some ⟨i, off, none⟩)) x') (w : World) :
    ∃ v', (Instr.fieldAt t x' f).run P w = .ok v' w ∧ VR φ (.pointer (some ⟨i, off + fd.offset, none⟩)) v' := by
  cases hx with
  | ptr hφ =>
    unfold Instr.fieldAt fieldPlace Instr.sureAddr
    simp only [Sem.run_bind, run_underlying hd, Result.andThen_ok, hf, Sem.run_pure, rSz hs, Nat.add_one_ne_zero, if_false, add_eq]
    exact ⟨_, rfl, by rw [Nat.add_assoc]; exact .ptr hφ⟩

theorem indexSlice_sound {t el : TypeId} {i off len esz m : Nat} {k : IntKind} {n : Int} {x' : Value} (hd : P.underlying t = some (.slice el)) (hs : szOf P el = some m)
    (hx : VR φ (.slice (some ⟨i, off, none⟩) len esz) x') (hn : 0 ≤ n ∧ n < len) (w : World) :
    ∃ v', (Instr.indexAt t x' (.int k n)).run P w = .ok v' w ∧ VR φ (.pointer (some ⟨i, off + n.toNat * m, none⟩)) v' := by
  cases hx with
  | slice hφ hl hc =>
    unfold Instr.indexAt
    simp only [asIntOf, Sem.run_bind, run_underlying hd, Result.andThen_ok, Sem.run_pure, hn.1, hn.2, and_self, if_true, rSz hs, add_eq]
    exact ⟨_, rfl, by rw [Nat.add_assoc]; exact .ptr hφ⟩
  | sliceZero => omega

theorem indexArr_sound {t el : TypeId} {i off len m : Nat} {k : IntKind} {n : Int} {x' : Value} (hd : P.underlying t = some (.array len el)) (hs : szOf P el = some m)
    (hx : VR φ (.pointer (some ⟨i, off, none⟩)) x') (hn : 0 ≤ n ∧ n < len) (w : World) :
    ∃ v', (Instr.indexAt t x' (.int k n)).run P w = .ok v' w ∧ VR φ (.pointer (some ⟨i, off + n.toNat * m, none⟩)) v' := by
  cases hx with
  | ptr hφ =>
    unfold Instr.indexAt Instr.sureAddr
    simp only [asIntOf, Sem.run_bind, run_underlying hd, Result.andThen_ok, Sem.run_pure, hn.1, hn.2, and_self, if_true, rSz hs, add_eq]
    exact ⟨_, rfl, by rw [Nat.add_assoc]; exact .ptr hφ⟩

theorem evAll_sound {e : FEnv} {a : Act} {n : Nat} (he : ER φ e a.tmps n) : ∀ {l : List Operand} {vs : List Value}, evAll e l = some vs → VRs φ vs (l.map a.eval) := by
  intro l
  induction l with
  | nil => intro vs h; simp [evAll] at h; subst h; exact VRs.nil
  | cons x r ih =>
    intro vs h
    unfold evAll at h
    split at h
    · rename_i v vs' h1 h2
      cases h
      exact VRs.cons (he.eval h1) (ih h2)
    · cases h

theorem VRs.arr {l l' : List Value} (h : VRs φ l l') : l.toArray.size = l'.toArray.size ∧ ∀ (i : Nat) v v', l.toArray[i]? = some v → l'.toArray[i]? = some v' → VR φ v v' :=
  ⟨by simpa using h.1, by simpa using h.2⟩

theorem evParts_sound {e : FEnv} {a : Act} {n : Nat} (he : ER φ e a.tmps n) : ∀ {l : List (Nat × Operand)} {ps : List (Nat × Value)}, evParts e l = some ps →
    ps.map (·.1) = l.map (·.1) ∧ VRs φ (ps.map (·.2)) (l.map fun p => a.eval p.2) := by
  intro l
  induction l with
  | nil => intro ps h; simp [evParts] at h; subst h; exact ⟨rfl, VRs.nil⟩
  | cons x r ih =>
    intro ps h
    obtain ⟨i, x⟩ := x
    unfold evParts at h
    split at h
    · rename_i v vs' h1 h2
      cases h
      have := ih h2
      exact ⟨by simp [this.1], VRs.cons (he.eval h1) this.2⟩
    · cases h

theorem fold_set_sound (off : Nat) : ∀ {l l' : List (Value × Nat)} {cs cs' : Array Value}, l.map (·.2) = l'.map (·.2) → VRs φ (l.map (·.1)) (l'.map (·.1)) → VRs φ cs.toList cs'.toList →
    VRs φ (l.foldl (fun cs (c, j) => cs.setIfInBounds (off + j) c) cs).toList (l'.foldl (fun cs (c, j) => cs.setIfInBounds (off + j) c) cs').toList
  | [], [], _, _, _, _, h => h
  | [], _ :: _, _, _, e, _, _ => by simp at e
  | _ :: _, [], _, _, e, _, _ => by simp at e
  | (v, j) :: r, (v', j') :: r', cs, cs', e, hv, h => by
    simp only [List.map_cons, List.cons.injEq] at e
    obtain ⟨rfl, e⟩ := e
    have h0 : VR φ v v' := hv.2 0 v v' rfl rfl
    have hr : VRs φ (r.map (·.1)) (r'.map (·.1)) := by simpa using hv.drop 1
    simp only [List.foldl_cons]
    refine fold_set_sound off e hr ?_
    simp only [Array.toList_setIfInBounds]
    exact h.set _ h0

theorem zipIdx_maps (l : List Value) (k : Nat) : (l.zipIdx k).map (·.1) = l ∧ (l.zipIdx k).map (·.2) = List.range' k l.length := by
  constructor
  · simp
  · simp

theorem fill_sound {place : Nat → Option (Nat × Nat)} : ∀ {ps ps' : List (Nat × Value)} {cs cs' out : Array Value}, ps.map (·.1) = ps'.map (·.1) → VRs φ (ps.map (·.2)) (ps'.map (·.2)) → VRs φ cs.toList cs'.toList →
    Instr.fill place cs ps = some out → ∃ out', Instr.fill place cs' ps' = some out' ∧ VRs φ out.toList out'.toList
  | [], [], cs, cs', out, _, _, h, e => by simp [Instr.fill] at e ⊢; subst e; exact h
  | [], _ :: _, _, _, _, e, _, _, _ => by simp at e
  | _ :: _, [], _, _, _, e, _, _, _ => by simp at e
  | (i, v) :: r, (i', v') :: r', cs, cs', out, e, hv, h, hf => by
    simp only [List.map_cons, List.cons.injEq] at e
    obtain ⟨rfl, e⟩ := e
    have h0 : VR φ v v' := hv.2 0 v v' rfl rfl
    have hr : VRs φ (r.map (·.2)) (r'.map (·.2)) := by simpa using hv.drop 1
    unfold Instr.fill at hf ⊢
    cases hp : place i with
    | none => simp [hp] at hf
    | some q =>
      obtain ⟨off, size⟩ := q
      simp only [hp] at hf ⊢
      have hc := h0.cells
      have es : v.cells.size = v'.cells.size := by simpa using hc.1
      have es2 : cs.size = cs'.size := by simpa using h.1
      split at hf
      · cases hf
      · rename_i hn
        rw [if_neg (by rw [← es, ← es2]; exact hn)]
        refine fill_sound e hr ?_ hf
        have hz := fold_set_sound (φ := φ) off (l := v.cells.toList.zipIdx) (l' := v'.cells.toList.zipIdx) (cs := cs) (cs' := cs')
          (by rw [(zipIdx_maps _ 0).2, (zipIdx_maps _ 0).2, hc.1]) (by rw [(zipIdx_maps _ 0).1, (zipIdx_maps _ 0).1]; exact hc) h
        rw [← Array.foldl_toList, ← Array.foldl_toList, Array.toList_zipIdx, Array.toList_zipIdx]
        exact hz

theorem cells_plain {z : Value} (h : plainN 6 z = true) : VRs φ z.cells.toList z.cells.toList := VR.cells (VR.of_plain h)

theorem mapM_places (fs : List Field) (h : (fs.map fun f => szOf P f.type).all Option.isSome = true) (w : World) :
    ((fs.mapM fun (f : Field) => do pure (f.offset, ← sizeOf f.type) : Sem (List (Nat × Nat)))).run P w = .ok (fs.map fun f => (f.offset, (szOf P f.type).getD 0)) w := by
  induction fs with
  | nil => simp
  | cons f r ih =>
    simp only [List.map_cons, List.all_cons, Bool.and_eq_true] at h
    cases hs : szOf P f.type with
    | none => simp [hs] at h
    | some n =>
      simp only [List.mapM_cons, Sem.run_bind, rSz hs, Result.andThen_ok, Sem.run_pure, ih h.2, List.map_cons, hs, Option.getD_some]

theorem build_sound {t : TypeId} {i : TypeInfo} {fs : Array Field} {z : Value} {ps ps' : List (Nat × Value)} {cs : Array Value} (hi : P.info? t = some i) (hd : P.underlying t = some (.struct fs))
    (hz : i.zero = some z) (hp : plainN 6 z = true) (hall : (fs.toList.map fun f => szOf P f.type).all Option.isSome = true)
    (h1 : ps.map (·.1) = ps'.map (·.1)) (h2 : VRs φ (ps.map (·.2)) (ps'.map (·.2)))
    (hf : Instr.fill (fun k => (fs[k]?).map fun f => (f.offset, (szOf P f.type).getD 0)) z.cells ps = some cs) (w : World) :
    ∃ v', (Instr.build t ps'.toArray).run P w = .ok v' w ∧ VR φ (.agg cs) v' := by
  obtain ⟨out', h3, h4⟩ := fill_sound (φ := φ) h1 h2 (cells_plain hp) hf
  unfold Instr.build
  have hm := mapM_places (P := P) fs.toList hall w
  have hpl : (fun (k : Nat) => (fs[k]?).map fun (f : Field) => (f.offset, (szOf P f.type).getD 0)) = fun (k : Nat) => (fs.toList.map fun (f : Field) => (f.offset, (szOf P f.type).getD 0)).toArray[k]? := by
    funext k; simp
  rw [hpl] at h3
  simp only [Sem.run_bind, rZero hi hz, Result.andThen_ok, run_underlying hd]
  rw [← Array.toArray_toList (xs := fs), List.mapM_toArray]
  simp only [Sem.run_map, hm, Result.andThen_ok, h3, Sem.run_pure]
  exact ⟨_, rfl, .agg (by simpa using h4.1) (by simpa using h4.2)⟩

end Go.Proofs.Ytbcgcnmnblfhmaa.Lin
