/- The model does what aPure says. -/
import Derived.Test.YtbcgcnmnblfhmaaLin1
namespace Go.Proofs.Ytbcgcnmnblfhmaa.Lin
variable {P : Program} {φ : Nat → Option Emb}

theorem strOp_sound {op : BinOp} {x y : ByteArray} {v : Value} (h : strOp op x y = some v) (w : World) : (Op.stringOp op x y).run P w = .ok v w ∧ VR φ v v := by
  unfold strOp at h
  unfold Op.stringOp
  split at h
  · split at h
    · cases h
    · rename_i hn
      cases h
      simp only [hn, if_false, Sem.run_pure]
      exact ⟨trivial, .string _⟩
  all_goals first
    | (cases h; done)
    | (cases h; exact ⟨rfl, .bool _⟩)

theorem intOp_sound {op : BinOp} {k : IntKind} {a b : Int} {v : Value} (h : intOp op k a b = some v) (t : TypeId) (w : World) :
    (binOp op t (.int k a) (.int k b)).run P w = .ok v w ∧ VR φ v v := by
  unfold intOp at h
  split at h
  all_goals first
    | (cases h; done)
    | (cases h; refine ⟨?_, by constructor⟩; simp [binOp, Op.intArith, Op.intCmp, Op.intBits]; done)
    | (split at h
       · cases h
       · rename_i hb
         cases h
         refine ⟨?_, by constructor⟩
         simp [binOp, Op.intDiv, hb])

theorem shiftOp_sound {op : BinOp} {k k' : IntKind} {a b : Int} {v : Value} (h : shiftOp op k a b = some v) (t : TypeId) (w : World) :
    (binOp op t (.int k a) (.int k' b)).run P w = .ok v w ∧ VR φ v v := by
  unfold shiftOp at h
  split at h
  · cases h
  · rename_i hb
    split at h
    · cases h; refine ⟨?_, by constructor⟩; simp [binOp, Op.shift, hb]
    · cases h; refine ⟨?_, by constructor⟩; simp [binOp, Op.shift, hb]
    · cases h

theorem nilEq_sound {d : TypeDesc} {x y x' y' : Value} {b : Bool} {t : TypeId} (h : nilEq d x y = some b) (hd : P.underlying t = some d)
    (hx : VR φ x x') (hy : VR φ y y') (w : World) : (Op.equal t x' y').run P w = .ok b w := by
  unfold Op.equal Op.maxDepth
  unfold Op.equalIn
  simp only [Sem.run_bind, run_underlying hd, Result.andThen_ok]
  unfold nilEq at h
  split at h <;> cases h <;> cases hx <;> (try cases hy) <;> rfl

theorem eqGuard_int {op : BinOp} {t : TypeId} {x y : Operand} {a b : Value} (w : World) (h1 : ∀ c, a ≠ .agg c) (h2 : a ≠ .nilIface ∨ b ≠ .nilIface) :
    (eqGuard op t x y a b).run P w = .ok () w := by
  unfold eqGuard
  cases op <;> simp <;> (split <;> first | rfl | (simp_all; done))

theorem aBin_sound {op : BinOp} {t : TypeId} {x y : Operand} {a b a' b' v : Value} (h : aBin P op t a b = some v) (ha : VR φ a a') (hb : VR φ b b') (w : World) :
    ∃ v', (do eqGuard op t x y a' b'; binOp op t a' b' : Sem Value).run P w = .ok v' w ∧ VR φ v v' := by
  unfold aBin at h
  split at h
  · rename_i k p k' q
    cases ha; cases hb
    refine ⟨v, ?_⟩
    rw [Sem.run_bind, eqGuard_int w (by simp) (by simp), Result.andThen_ok]
    split at h
    · exact shiftOp_sound h t w
    · split at h
      · rename_i hk; subst hk; exact intOp_sound h t w
      · cases h
  · rename_i s r
    cases ha; cases hb
    refine ⟨v, ?_⟩
    rw [Sem.run_bind, eqGuard_int w (by simp) (by simp), Result.andThen_ok]
    have := strOp_sound (P := P) (φ := φ) h w
    simpa only [binOp] using this
  · rename_i hn1 hn2
    have key : ∀ d c, P.underlying t = some d → nilEq d a b = some c →
        (eqGuard op t x y a' b').run P w = .ok () w ∧ (Op.equal t a' b').run P w = .ok c w := by
      intro d c hd hc
      refine ⟨?_, nilEq_sound hc hd ha hb w⟩
      unfold nilEq at hc
      split at hc <;> cases hc <;> cases ha <;> (try cases hb) <;> exact eqGuard_int w (by simp) (by simp)
    split at h
    · rename_i d hd
      cases hc : nilEq d a b with
      | none => simp [hc] at h
      | some c =>
        simp [hc] at h; subst h
        obtain ⟨k1, k2⟩ := key d c hd hc
        refine ⟨.bool c, ?_, .bool c⟩
        rw [Sem.run_bind, k1, Result.andThen_ok]
        unfold nilEq at hc
        split at hc <;> cases hc <;> cases ha <;> (try cases hb) <;> simp only [binOp, Sem.run_bind, k2, Result.andThen_ok, Sem.run_pure]
    · rename_i d hd
      cases hc : nilEq d a b with
      | none => simp [hc] at h
      | some c =>
        simp [hc] at h; subst h
        obtain ⟨k1, k2⟩ := key d c hd hc
        refine ⟨.bool !c, ?_, .bool _⟩
        rw [Sem.run_bind, k1, Result.andThen_ok]
        unfold nilEq at hc
        split at hc <;> cases hc <;> cases ha <;> (try cases hb) <;> simp only [binOp, Sem.run_bind, k2, Result.andThen_ok, Sem.run_pure]
    · cases h

end Go.Proofs.Ytbcgcnmnblfhmaa.Lin
