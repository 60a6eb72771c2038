/- copy, and stores into maps; all writes. -/
import Derived.Test.YtbcgcnmnblfhmaaLin9
namespace Go.Proofs.Ytbcgcnmnblfhmaa.Lin
variable {P : Program} {φ : Nat → Option Emb} {B0 : Nat → Prop}

theorem copy_sound {o : Oper} {c : Call} (hop : o.op = .call c) {x y : Operand} (hcal : c.callee = .builtin .copy) (hargs : c.args.toList = [x, y]) {e : FEnv} {a : Act} {n N id : Nat} {v : Value} {h h' : AHeap} {w : World}
    (he : ER φ e a.tmps n) (hh : HR B0 φ h w) (hv : aEff P (.call c) e id h = some (v, h')) :
    ∃ v' φ' w', Runs P a o w v' w' ∧ VR φ' v v' ∧ (∀ j, j ≠ id → φ' j = φ j) ∧ Post B0 N φ h w φ' h' w' := by
  have hA : c.args = #[x, y] := Array.toList_inj.1 (by simpa using hargs)
  simp only [aEff, hcal, hargs] at hv
  split at hv
  · rename_i el j off len esz z ht1 hx hy
    rw [Option.bind_eq_some_iff] at ht1
    obtain ⟨t, ht, htu⟩ := ht1
    have hex : ∀ {v' w'}, (Builtin.copy_ c.argTypes o.type #[a.eval x, a.eval y]).run P w = .ok v' w' → Runs P a o w v' w' := by
      intro v' w' g
      left
      unfold execOp
      simp only [hop, resolve, hcal, invoke, builtin, hA, Sem.run_bind, Sem.run_pure, Result.andThen_ok, List.map_toArray, List.map_cons, List.map_nil, g]
    split at hv
    · rename_i sz ty cc hsz hob
      split at hv
      · rename_i news m hsrc
        split at hv
        · rename_i hcnd
          obtain ⟨rfl, hpos, hlen⟩ := hcnd
          cases hv
          obtain ⟨hl, hnl, hone, news', hrel, hfc⟩ := aSrc_sound (P := P) hh hsrc (he.eval hy)
          have hf := hfc (min m len) (Nat.min_le_left _ _) w (SameMem.refl w)
          have hx' := he.eval hx
          have hone' : oneAll (news.take (min m len * esz)) = true := by
            unfold oneAll at *
            rw [List.all_eq_true] at *
            exact fun q hq => hone q (List.mem_of_mem_take hq)
          have hml : min m len * esz ≤ len * esz := Nat.mul_le_mul_right _ (Nat.min_le_right _ _)
          have hmm : min m len * esz ≤ m * esz := Nat.mul_le_mul_right _ (Nat.min_le_left _ _)
          obtain ⟨e', r1, r2⟩ := hh.obj _ _ hob
          have hvl : (news.take (min m len * esz)).length = min m len * esz := by rw [List.length_take]; omega
          have main : ∀ (ad : Addr) (cp : Nat) (w' : World), a.eval x = .slice (some ad) len cp → (storeCells ad (news'.take (min m len * esz))).run P w = .ok () w' → Runs P a o w (.int .i64 (min m len : Nat)) w' := by
            intro ad cp w' hb hst
            refine hex ?_
            rw [hb]
            unfold Builtin.copy_
            simp only [ht, List.getElem?_toArray, List.getElem?_cons_zero, List.getElem?_cons_succ, Sem.run_bind, run_underlying htu, Result.andThen_ok, hl, rSz hsz, Nat.min_def]
            simp only [Nat.min_def] at hf hst
            simp only [hf, Result.andThen_ok, hst, Sem.run_pure, goInt]
          have zero : min m len * esz = 0 → (∀ ad cp, a.eval x = .slice (some ad) len cp →
              ∃ v' φ' w', Runs P a o w v' w' ∧ VR φ' (.int .i64 (min m len : Nat)) v' ∧ (∀ j, j ≠ id → φ' j = φ j) ∧ Post B0 N φ h w φ' (h.put j (.arr true ty (setCells cc off (news.take (min m len * esz))))) w') := by
            intro h0 ad cp hb
            refine ⟨_, φ, w, main ad cp w hb (by rw [h0]; rfl), .int _ _, fun _ _ => rfl, ?_⟩
            rw [h0]
            exact Post.turn hh hob rfl r1 rfl (fun _ _ => rfl) rfl rfl rfl r2
          generalize hux : a.eval x = ux at *
          cases hx' with
          | @slice _ _ _ _ cap e'' g1 g2 g3 =>
            rw [g1] at r1; cases r1
            by_cases h0 : min m len * esz = 0
            · exact zero h0 _ _ rfl
            · obtain ⟨w', q1, q2, q3, q4, q5, q6, q7⟩ := or_over (P := P) (off := off) r2 (hrel.take (min m len * esz)) hone' (by rw [hvl]; omega) (by rw [hvl]; omega)
              exact ⟨_, φ, w', main _ _ w' rfl q1, .int _ _, fun _ _ => rfl, Post.turn hh hob rfl g1 q2 q3 q4 q5 q6 q7⟩
          | sliceZero => exact zero (by simp) _ _ rfl
        · cases hv
      · cases hv
    · cases hv
  · cases hv

theorem bytes_eq {p q : ByteArray} (h : (p == q) = true) : p = q := by
  cases p; cases q
  have : (_ : Array UInt8) == _ := h
  rw [beq_iff_eq] at this
  exact congrArg ByteArray.mk this

theorem bytes_refl (p : ByteArray) : (p == p) = true := by
  cases p
  show ((_ : Array UInt8) == _) = true
  simp

theorem sameNow_bits {d : TypeDesc} {k k' : Value} (h : Instr.sameNow d k k' = some true) (n : Nat) : Instr.sameBits (n + 1) k' k = true := by
  unfold Instr.sameNow at h
  split at h
  · split at h
    · rename_i hk
      subst hk
      simp at h
      subst h
      simp [Instr.sameBits]
    · cases h
  · rename_i p q
    simp only [Option.some.injEq] at h
    have : p = q := bytes_eq h
    subst this
    exact h
  · simp at h; subst h; simp [Instr.sameBits]
  · cases h

theorem map_sound {o : Oper} {t : TypeId} {m k x : Operand} (hop : o.op = .mapUpdate t m k x ∨ o.op = .insert t m k x) {e : FEnv} {a : Act} {n N id : Nat} {v : Value} {h h' : AHeap} {w : World}
    (he : ER φ e a.tmps n) (hh : HR B0 φ h w) (hv : aEff P (.mapUpdate t m k x) e id h = some (v, h')) :
    ∃ v' φ' w', Runs P a o w v' w' ∧ VR φ' v v' ∧ (∀ j, j ≠ id → φ' j = φ j) ∧ Post B0 N φ h w φ' h' w' := by
  simp only [aEff] at hv
  split at hv
  · rename_i kt et i kv u ht hm hk hx
    split at hv
    · rename_i d es hd hob
      split at hv
      · rename_i hkk
        simp only [Bool.and_eq_true] at hkk
        have hk' := plain_eq (he.eval hk) hkk.2
        have hm' := he.eval hm
        have hu' := he.eval hx
        generalize hum : a.eval m = um at *
        cases hm' with
        | @map _ e' g1 =>
          obtain ⟨e'', r1, r2⟩ := hh.obj _ _ hob
          rw [g1] at r1; cases r1
          obtain ⟨hB, es', clock, g3, g4⟩ := r2
          have hg : (getObj e'.blk).run P w = .ok (.map es' clock) w := by simp [getObj, Sem.run, g3]
          have hlt : e'.blk < w.heap.size := (Array.getElem?_eq_some_iff.1 g3).1
          have hck := checkKey_sound (P := P) hd hkk.1 false kv 9999 w
          have hset : ∀ q, (setObj e'.blk q).run P w = .ok () { w with heap := w.heap.setIfInBounds e'.blk q } := fun q => by simp [setObj, Sem.run, g3]
          have hex : ∀ q, (Instr.mapUpdate t (.map (some e'.blk)) kv (a.eval x)).run P w = .ok () { w with heap := w.heap.setIfInBounds e'.blk q } → Runs P a o w undef { w with heap := w.heap.setIfInBounds e'.blk q } := by
            intro q hq
            right
            refine ⟨?_, rfl⟩
            unfold execOp
            rcases hop with hop | hop <;> simp only [hop, hum, hk', Sem.run_bind, hq, Result.andThen_ok, Sem.run_pure]
          have post : ∀ (q : Array MapEntry) (ck : Nat) (es1 : List (Value × Value)), MR φ es1 q.toList →
              Post B0 N φ h w φ (h.put i (.map true es1)) { w with heap := w.heap.setIfInBounds e'.blk (.map q ck) } := by
            intro q ck es1 hmr
            refine Post.turn hh hob rfl g1 (by simp) (fun b hb => by simp [Array.getElem?_setIfInBounds_ne (Ne.symm hb)]) rfl rfl rfl ⟨hB, q, ck, by simp [hlt], hmr⟩
          split at hv
          · rename_i hf
            cases hv
            rcases findE_sound g4 hf with ⟨_, hfn⟩ | ⟨_, _, _, g, _⟩
            · have hfk := findKey_run (P := P) hd hfn w
              refine ⟨undef, φ, _, hex (.map (es'.push { key := kv, val := a.eval x, born := clock }) (clock + 1)) ?_, undef_rel, fun _ _ => rfl, post _ _ _ ?_⟩
              · unfold Instr.mapUpdate
                simp only [Sem.run_bind, run_underlying ht, hg, hck, hfk, Result.andThen_ok, hset]
              · refine ⟨by simp [g4.1], fun j p p' a b => ?_⟩
                have e1 := g4.1
                rw [List.getElem?_append] at a
                simp only [Array.toList_push] at b
                rw [List.getElem?_append] at b
                split at a
                · rw [if_pos (by omega)] at b
                  exact g4.2 j p p' a b
                · rename_i hj
                  rw [if_neg (by omega)] at b
                  have hj0 : j - es.length = 0 := by
                    rcases Nat.eq_zero_or_pos (j - es.length) with h0 | h0
                    · exact h0
                    · rw [List.getElem?_eq_none (by simp; omega)] at a; cases a
                  rw [hj0] at a
                  rw [← e1, hj0] at b
                  simp at a b
                  subst a; subst b
                  exact ⟨rfl, hkk.2, hu'⟩
            · cases g
          · rename_i j q0 hf
            cases hv
            rcases findE_sound g4 hf with ⟨g, _⟩ | ⟨j', v1, v1', g, hfn, _, _, p, p', p1, p2, p3⟩
            · cases g
            · cases g
              have hfk := findKey_run (P := P) hd hfn w
              simp only [Nat.sub_zero] at p1 p2
              have hjl : j < es'.size := by have := (List.getElem?_eq_some_iff.1 p2).1; simpa using this
              have hold : ((es'[j]?).map (·.key)).getD kv = p'.key := by
                rw [← Array.getElem?_toList, p2]; rfl
              have hpk := (g4.2 j p p' p1 p2).1
              have hks : (Instr.keyThatStays p'.key kv).run P w = .ok kv w := by
                unfold Instr.keyThatStays
                rw [← hpk, if_pos (sameNow_bits p3 9999)]
                rfl
              refine ⟨undef, φ, _, hex (.map (es'.modify j fun q => { q with key := kv, val := a.eval x }) clock) ?_, undef_rel, fun _ _ => rfl, post _ _ _ ?_⟩
              · unfold Instr.mapUpdate
                simp only [Sem.run_bind, run_underlying ht, hg, hck, hfk, Result.andThen_ok, hold, hks, hset]
              · refine ⟨by simp [g4.1], fun i q q' a b => ?_⟩
                rw [List.getElem?_set] at a
                simp only [Array.toList_modify] at b
                rw [List.getElem?_modify] at b
                split at a
                · rename_i hji
                  subst hji
                  split at a
                  · simp only [Option.some.injEq] at a
                    subst a
                    rw [p2] at b
                    simp at b
                    subst b
                    exact ⟨rfl, hkk.2, hu'⟩
                  · cases a
                · rename_i hji
                  simp only [hji, if_false] at b
                  cases hq : es'.toList[i]? with
                  | none => rw [hq] at b; cases b
                  | some q1 =>
                    rw [hq] at b
                    simp at b
                    subst b
                    exact g4.2 i q q1 a hq
          · cases hv
      · cases hv
    · cases hv
  · cases hv

/-- All writes. -/
theorem aEff_sound {o : Oper} {e : FEnv} {a : Act} {n N id : Nat} {v : Value} {h h' : AHeap} {w : World}
    (he : ER φ e a.tmps n) (hh : HR B0 φ h w) (hφ : φ id = none) (hid : h.obj id = none) (hlt : id < h.next) (hN : N ≤ id) (hv : aEff P o.op e id h = some (v, h')) :
    ∃ v' φ' w', Runs P a o w v' w' ∧ VR φ' v v' ∧ (∀ j, j ≠ id → φ' j = φ j) ∧ Post B0 N φ h w φ' h' w' := by
  cases hop : o.op with
  | store t x y => rw [hop] at hv; exact store_sound hop he hh hv
  | mapUpdate t m k x => rw [hop] at hv; exact map_sound (.inl hop) he hh hv
  | insert t m k x => rw [hop] at hv; exact map_sound (.inr hop) he hh hv
  | call c =>
    rw [hop] at hv
    cases hcal : c.callee with
    | builtin b =>
      by_cases hb : b = .append ∨ b = .copy
      · rcases hb with rfl | rfl
        · match hargs : c.args.toList with
          | [x, y] => exact append_sound hop hcal hargs he hh hφ hid hlt hN hv
          | [] => simp [aEff, hcal, hargs] at hv
          | [_] => simp [aEff, hcal, hargs] at hv
          | _ :: _ :: _ :: _ => simp [aEff, hcal, hargs] at hv
        · match hargs : c.args.toList with
          | [x, y] => exact copy_sound hop hcal hargs he hh hv
          | [] => simp [aEff, hcal, hargs] at hv
          | [_] => simp [aEff, hcal, hargs] at hv
          | _ :: _ :: _ :: _ => simp [aEff, hcal, hargs] at hv
      · cases b <;> first | (exact absurd (.inl rfl) hb) | (exact absurd (.inr rfl) hb) | simp [aEff, hcal] at hv
    | value f => simp [aEff, hcal] at hv
    | invoke r m => simp [aEff, hcal] at hv
  | _ => rw [hop] at hv; simp [aEff] at hv

end Go.Proofs.Ytbcgcnmnblfhmaa.Lin
