/- The model does what aPure says: all operations. -/
import Derived.Test.YtbcgcnmnblfhmaaLin3
namespace Go.Proofs.Ytbcgcnmnblfhmaa.Lin
variable {P : Program} {φ : Nat → Option Emb}

theorem ofFn_map (a : Act) (l : Array Operand) : l.map a.eval = (l.toList.map a.eval).toArray := by
  apply Array.ext'
  simp

set_option maxHeartbeats 1000000 in
theorem aPure_sound {o : Oper} {e : FEnv} {a : Act} {n : Nat} {v : Value} (he : ER φ e a.tmps n) (h : aPure P o.op e = some v) (w : World) :
    ∃ v', (execOp a.eval o).run P w = .ok (.value v') w ∧ VR φ v v' := by
  unfold aPure at h
  unfold execOp
  split at h
  · rename_i x hop
    exact ⟨_, by simp only [hop, Sem.run_pure], he.eval h⟩
  · rename_i x hop
    exact ⟨_, by simp only [hop, Sem.run_pure], he.eval h⟩
  · rename_i c x y hop
    split at h
    · rename_i hc
      have := (he.eval hc).bool_inv
      exact ⟨_, by simp only [hop, this, asBool, Sem.run_bind, Sem.run_pure, Result.andThen_ok, if_true], he.eval h⟩
    · rename_i hc
      have := (he.eval hc).bool_inv
      exact ⟨_, by simp only [hop, this, asBool, Sem.run_bind, Sem.run_pure, Result.andThen_ok, Bool.false_eq_true, if_false], he.eval h⟩
    · cases h
  · rename_i x hop
    split at h
    · rename_i b hc
      cases h
      have hv := he.eval hc
      generalize hu : a.eval x = u at *
      cases hv with
      | ptr hφ => exact ⟨_, by simp only [hop, hu]; rfl, .ptr hφ⟩
    · rename_i f p q hc
      cases h
      have hv := he.eval hc
      generalize hu : a.eval x = u at *
      cases hv with
      | func h1 h2 h3 h4 => exact ⟨_, by simp only [hop, hu]; rfl, .func h1 h2 h3 h4⟩
    · cases h
  · rename_i op t x y yt hop
    split at h
    · rename_i p q hp hq
      obtain ⟨v', h1, h2⟩ := aBin_sound (P := P) (x := x) (y := y) h (he.eval hp) (he.eval hq) w
      refine ⟨v', ?_, h2⟩
      simp only [hop]
      rw [Sem.run_bind, h1]
      rfl
    · cases h
  · rename_i op t x hop
    split at h
    · rename_i b hb
      cases h
      have := (he.eval hb).bool_inv
      exact ⟨.bool !b, by simp only [hop, this, Op.unary, Sem.run_bind, Sem.run_pure, Result.andThen_ok], .bool _⟩
    · rename_i k m hb
      cases h
      have := (he.eval hb).int_inv
      exact ⟨_, by simp only [hop, this, Op.unary, Op.intArith, Sem.run_bind, Sem.run_pure, Result.andThen_ok], .int _ _⟩
    · cases h
  · rename_i src dst x hop
    split at h
    · rename_i d k k' m hs hd hx
      cases h
      have := (he.eval hx).int_inv
      refine ⟨_, ?_, .int _ _⟩
      simp only [hop, this, convert, Sem.run_bind, run_underlying hs, run_underlying hd, Result.andThen_ok, Conv.intToInt, Sem.run_pure]
    · rename_i d s hs hd hx
      cases h
      have := (he.eval hx).string_inv
      refine ⟨.string s, ?_, .string _⟩
      simp only [hop, this, convert, Sem.run_bind, run_underlying hs, run_underlying hd, Result.andThen_ok]
      cases d <;> rfl
    · cases h
  · rename_i t x lo hi hop
    split at h
    · rename_i el l hh hd hx hl hh'
      split at h
      · rename_i r m hr hm
        cases h
        have hr' := aSliceIx_rel he hl hh' hr
        refine ⟨_, ?_, .sliceNil⟩
        simp only [hop, Sem.run_bind, Option.map_none, sliceNil_sound hd hm (he.eval hx) hr' w, Result.andThen_ok, Sem.run_pure]
      · cases h
    · rename_i el i off len esz l hh hd hx hl hh'
      split at h
      · rename_i l h0 m hr hm
        split at h
        · rename_i heq
          subst heq
          cases h
          have hr' := aSliceIx_rel he hl hh' hr
          obtain ⟨v', h1, h2⟩ := slice_sound hd hm (he.eval hx) hr' w
          exact ⟨v', by simp only [hop, Sem.run_bind, Option.map_none, h1, Result.andThen_ok, Sem.run_pure], h2⟩
        · cases h
      · cases h
    · rename_i s l hh hd hx hl hh'
      split at h
      · rename_i l h0 hr
        cases h
        have hr' := aSliceIx_rel he hl hh' hr
        have := (he.eval hx).string_inv
        refine ⟨_, ?_, .string _⟩
        simp only [hop, Sem.run_bind, Option.map_none, this, sliceStr_sound hd hr' w, Result.andThen_ok, Sem.run_pure]
      · cases h
    · cases h
  · rename_i t x f hop
    split at h
    · rename_i fs i off hd hx
      split at h
      · rename_i fd hf
        split at h
        · rename_i m hs
          cases h
          obtain ⟨v', h1, h2⟩ := fieldAddr_sound hd hf hs (he.eval hx) w
          exact ⟨v', by simp only [hop, Sem.run_bind, h1, Result.andThen_ok, Sem.run_pure], h2⟩
        · cases h
      · cases h
    · cases h
  · rename_i t x f hop
    split at h
    · rename_i fs cs hd hx
      split at h
      · rename_i fd hf
        have hv := he.eval hx
        generalize hu : a.eval x = u at *
        cases hv with
        | agg h1 h2 =>
          obtain ⟨v', h3, h4⟩ := aPart_sound h h1 h2 w
          refine ⟨v', ?_, h4⟩
          simp only [hop, hu, Instr.field, asAgg, Sem.run_bind, run_underlying hd, Result.andThen_ok, hf, Sem.run_pure, h3]
      · cases h
    · cases h
  · rename_i t x ix hop
    split at h
    · rename_i el i off len esz k m hd hx hi
      split at h
      · rename_i hb
        split at h
        · rename_i q hs
          cases h
          obtain ⟨v', h1, h2⟩ := indexSlice_sound (k := k) hd hs (he.eval hx) hb w
          have := (he.eval hi).int_inv
          exact ⟨v', by simp only [hop, this, Sem.run_bind, h1, Result.andThen_ok, Sem.run_pure], h2⟩
        · cases h
      · cases h
    · rename_i len el i off k m hd hx hi
      split at h
      · rename_i hb
        split at h
        · rename_i q hs
          cases h
          obtain ⟨v', h1, h2⟩ := indexArr_sound (k := k) hd hs (he.eval hx) hb w
          have := (he.eval hi).int_inv
          exact ⟨v', by simp only [hop, this, Sem.run_bind, h1, Result.andThen_ok, Sem.run_pure], h2⟩
        · cases h
      · cases h
    · cases h
  · rename_i t x ix hop
    split at h
    · rename_i s k m hd hx hi
      split at h
      · rename_i hb
        split at h
        · rename_i b hs
          cases h
          have h1 := (he.eval hi).int_inv
          have h2 := (he.eval hx).string_inv
          refine ⟨_, ?_, .int _ _⟩
          simp only [hop, h1, h2, Instr.index, asIntOf, Sem.run_bind, Sem.run_pure, run_underlying hd, Result.andThen_ok, hb, if_true, hs]
        · cases h
      · cases h
    · rename_i len el cs k m hd hx hi
      split at h
      · rename_i hb
        split at h
        · rename_i q hs
          have hv := he.eval hx
          have h1 := (he.eval hi).int_inv
          generalize hu : a.eval x = u at *
          cases hv with
          | agg g1 g2 =>
            obtain ⟨v', h3, h4⟩ := aPart_sound h g1 g2 w
            refine ⟨v', ?_, h4⟩
            simp only [hop, hu, h1, Instr.index, asIntOf, Sem.run_bind, Sem.run_pure, run_underlying hd, Result.andThen_ok, hb, and_self, if_true, rSz hs, h3]
        · cases h
      · cases h
    · cases h
  · rename_i x i hop
    split at h
    · rename_i vs hx
      have hv := he.eval hx
      generalize hu : a.eval x = u at *
      cases hv with
      | tuple h1 h2 =>
        rename_i vs'
        have hlt : i < vs.size := (Array.getElem?_eq_some_iff.1 h).1
        have hlt' : i < vs'.size := by omega
        refine ⟨vs'[i], ?_, h2 i v _ h (by simp [hlt'])⟩
        simp only [hop, hu, Instr.extract, Sem.run_bind, show vs'[i]? = some vs'[i] by simp [hlt'], Sem.run_pure, Result.andThen_ok]
    · cases h
  · rename_i fn first cap hop
    split at h
    · rename_i p q hp hq
      cases h
      have h1 := evAll_sound he hp
      have h2 := evAll_sound he hq
      refine ⟨.func fn (first.map a.eval) (cap.map a.eval), ?_, ?_⟩
      · simp only [hop, Instr.makeFunc, Sem.run_bind, Sem.run_pure, Result.andThen_ok]
      · rw [ofFn_map, ofFn_map]
        exact .func h1.arr.1 h1.arr.2 h2.arr.1 h2.arr.2
    · cases h
  · rename_i t x hop
    split at h
    · cases h
    · rename_i d u hn hd hx
      cases h
      refine ⟨.iface t (a.eval x), ?_, .iface (he.eval hx)⟩
      simp only [hop, Instr.makeInterface, Sem.run_bind, run_underlying hd, Result.andThen_ok]
      cases d <;> first | rfl | (exact absurd rfl (hn _ · hd))
    · cases h
  · rename_i t parts hop
    split at h
    · rename_i i fs ps hi hd hps
      split at h
      · rename_i z hz hall
        split at h
        · rename_i hp
          split at h
          · rename_i cs hf
            cases h
            obtain ⟨h1, h2⟩ := evParts_sound he hps
            obtain ⟨v', h3, h4⟩ := build_sound (ps' := parts.toList.map fun p => (p.1, a.eval p.2)) hi hd hz hp hall (by rw [List.map_map]; exact h1) (by rw [List.map_map]; exact h2) hf w
            refine ⟨v', ?_, h4⟩
            have hpm : (parts.map fun (i, x) => (i, a.eval x)) = (parts.toList.map fun p => (p.1, a.eval p.2)).toArray := by apply Array.ext'; simp
            simp only [hop, hpm, Sem.run_bind, h3, Result.andThen_ok, Sem.run_pure]
          · cases h
        · cases h
      · cases h
    · cases h
  · rename_i c hop
    split at h
    · rename_i x hcal hargs
      have hA : c.args = #[x] := Array.toList_inj.1 (by simpa using hargs)
      split at h
      · rename_i s ht hx
        cases h
        have h1 := (he.eval hx).string_inv
        rw [Option.bind_eq_some_iff] at ht
        obtain ⟨t, ht, hd⟩ := ht
        refine ⟨_, ?_, .int _ _⟩
        simp only [hop, resolve, hcal, invoke, builtin, Builtin.len_, hA, ht, h1, Sem.run_bind, Sem.run_pure, Result.andThen_ok, List.map_toArray, List.map_cons, List.map_nil, List.getElem?_toArray, List.getElem?_cons_zero, run_underlying hd, goInt]
      · rename_i el b m esz ht hx
        cases h
        have hv := he.eval hx
        generalize hu : a.eval x = u at *
        rw [Option.bind_eq_some_iff] at ht
        obtain ⟨t, ht, hd⟩ := ht
        refine ⟨_, ?_, .int _ _⟩
        cases hv <;> simp only [hop, resolve, hcal, invoke, builtin, Builtin.len_, hA, ht, hu, Sem.run_bind, Sem.run_pure, Result.andThen_ok, List.map_toArray, List.map_cons, List.map_nil, List.getElem?_toArray, List.getElem?_cons_zero, run_underlying hd, goInt]
      · cases h
    · rename_i x y hcal hargs
      have hA : c.args = #[x, y] := Array.toList_inj.1 (by simpa using hargs)
      split at h
      · rename_i k p k' q hx hy
        cases h
        have h1 := (he.eval hx).int_inv
        have h2 := (he.eval hy).int_inv
        refine ⟨_, ?_, .int _ _⟩
        simp [hop, resolve, hcal, invoke, builtin, Builtin.min_, Builtin.min2, hA, h1, h2]
      · cases h
    · rename_i x y hcal hargs
      have hA : c.args = #[x, y] := Array.toList_inj.1 (by simpa using hargs)
      split at h
      · rename_i k p k' q hx hy
        cases h
        have h1 := (he.eval hx).int_inv
        have h2 := (he.eval hy).int_inv
        refine ⟨_, ?_, .int _ _⟩
        simp [hop, resolve, hcal, invoke, builtin, Builtin.max_, Builtin.max2, hA, h1, h2]
      · cases h
    · cases h
  · cases h

end Go.Proofs.Ytbcgcnmnblfhmaa.Lin
