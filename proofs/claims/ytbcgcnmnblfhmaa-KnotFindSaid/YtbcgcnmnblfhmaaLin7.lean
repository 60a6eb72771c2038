/- New memory, and writes, on the abstract heap. -/
import Derived.Test.YtbcgcnmnblfhmaaLin6
import Derived.Laws.MakeOwn
namespace Go.Proofs.Ytbcgcnmnblfhmaa.Lin
variable {P : Program} {φ : Nat → Option Emb} {B0 : Nat → Prop}

def oneAll (l : List Value) : Bool := l.all (·.oneCell')

/-- A new object, and the value that leads to it. -/
def aAlloc (P : Program) (op : Op) (e : FEnv) : Option (AObj × (Nat → Value)) :=
  match op with
  | .alloc t => match (P.info? t).bind (·.zero) with
    | some z => if plainN 6 z && oneAll z.cells.toList then some (.arr true t z.cells.toList, fun id => .pointer (some ⟨id, 0, none⟩)) else none
    | none => none
  | .box t x => match evO e x with
    | some v => if oneAll v.cells.toList then some (.arr true t v.cells.toList, fun id => .pointer (some ⟨id, 0, none⟩)) else none
    | none => none
  | .buildSlice t len parts => match P.underlying t, evParts e parts.toList with
    | some (.slice el), some ps => (match P.info? el with
      | some i => (match i.zero with
        | some z => if plainN 6 z && i.size == z.cells.size && decide (0 < i.size) && decide (len * i.size ≤ 2 ^ 24) then
            (match Instr.fill (fun k => some (k * i.size, i.size)) (madeCells z.cells (len * i.size)) ps with
            | some cs => if oneAll cs.toList then some (.arr true el cs.toList, fun id => .slice (some ⟨id, 0, none⟩) len i.size) else none
            | none => none) else none
        | none => none)
      | none => none)
    | _, _ => none
  | .makeSlice t l c => match P.underlying t, evO e l, evO e c with
    | some (.slice el), some (.int _ l), some (.int _ c) => (match P.info? el with
      | some i => (match i.zero with
        | some z => if plainN 6 z && oneAll z.cells.toList && i.size == z.cells.size && decide (0 < i.size) && decide (0 ≤ l) && decide (l ≤ c) && decide ((i.bytes : Int) * c ≤ 281474976710656) && decide (c ≤ 9223372036854775807) then
            some (.arr true el (List.replicate c.toNat z.cells.toList).flatten, fun id => .slice (some ⟨id, 0, none⟩) l.toNat i.size) else none
        | none => none)
      | none => none)
    | _, _, _ => none
  | .makeMap t r => match r with
    | none => some (.map true [], fun id => .map (some id))
    | some x => (match P.underlying t, evO e x with
      | some (.map _ _), some (.int _ _) => some (.map true [], fun id => .map (some id))
      | _, _ => none)
  | _ => none

theorem or_new {w : World} {c c' : Array Value} {av : Nat} {id : Nat} {t : TypeId} (hs : ¬ B0 w.heap.size) (hc : VRs (upE φ id ⟨w.heap.size, 0, av⟩) c.toList c'.toList) (ho : oneAll c.toList = true) (hav : av = c'.size) :
    OR B0 (upE φ id ⟨w.heap.size, 0, av⟩) (w.alloc (.cells c' t)) ⟨w.heap.size, 0, av⟩ (.arr true t c.toList) := by
  refine ⟨c', t, (0, 0), heap_alloc_new w _, ?_, ?_, fun _ => ⟨hs, rfl, rfl, by simp [hav]⟩, fun h => by cases h⟩
  · intro k v hv
    obtain ⟨v', g1, g2⟩ := hc.get hv
    exact ⟨v', by simpa using g1, g2⟩
  · intro v hv
    exact List.all_eq_true.1 ho v hv

theorem madeCells_flat (z : Array Value) (n : Nat) : (madeCells z (n * z.size)).toList = (List.replicate n z.toList).flatten := by
  induction n with
  | zero => simp [madeCells]
  | succ n ih =>
    rw [List.replicate_succ', List.flatten_append, ← ih]
    simp only [madeCells, Array.toList_map, Array.toList_range, List.flatten_cons, List.flatten_nil, List.append_nil]
    rw [Nat.succ_mul, List.range_add, List.map_append]
    congr 1
    apply List.ext_getElem?
    intro i
    simp only [List.map_map, List.getElem?_map]
    by_cases hi : i < z.size
    · have hm : (n * z.size + i) % z.size = i := by rw [Nat.add_comm, Nat.add_mul_mod_self_right, Nat.mod_eq_of_lt hi]
      simp [hi, hm]
    · simp [hi]

theorem aAlloc_sound {o : Oper} {e : FEnv} {a : Act} {n N id : Nat} {h : AHeap} {w : World} {ob : AObj} {mk : Nat → Value} (he : ER φ e a.tmps n) (hh : HR B0 φ h w)
    (hv : aAlloc P o.op e = some (ob, mk)) (hφ : φ id = none) (hid : h.obj id = none) (hlt : id < h.next) (hN : N ≤ id) :
    ∃ v' φ' w', (execOp a.eval o).run P w = .ok (.value v') w' ∧ VR φ' (mk id) v' ∧ (∀ j, j ≠ id → φ' j = φ j) ∧ Post B0 N φ h w φ' (h.put id ob) w' := by
  unfold aAlloc at hv
  unfold execOp
  have key : ∀ (c c' : Array Value) (t : TypeId), (∀ av, VRs (upE φ id ⟨w.heap.size, 0, av⟩) c.toList c'.toList) → oneAll c.toList = true →
      Post B0 N φ h w (upE φ id ⟨w.heap.size, 0, c'.size⟩) (h.put id (.arr true t c.toList)) (w.alloc (.cells c' t)) := fun c c' t h1 h2 =>
    Post.alloc hh (SameMem.refl w) hφ hid hlt hN (or_new hh.new (h1 _) h2 rfl)
  have le : ∀ av, Le φ (upE φ id ⟨w.heap.size, 0, av⟩) := fun av => upE_le hφ
  split at hv
  · rename_i t hop
    split at hv
    · rename_i z hz
      split at hv
      · rename_i hp
        cases hv
        simp only [Bool.and_eq_true] at hp
        rw [Option.bind_eq_some_iff] at hz
        obtain ⟨i, hi, hz⟩ := hz
        have hk := key z.cells z.cells t (fun av => cells_plain hp.1) hp.2
        refine ⟨.pointer (some ⟨w.heap.size, 0, none⟩), _, _, ?_, ?_, ?_, hk⟩
        · simp only [hop, Instr.alloc, Sem.run_bind, rZero hi hz, Result.andThen_ok, newVar, newRow, run_newObj, Sem.run_pure, World.alloc_eq]
        rotate_left
        · exact fun j hj => upE_ne _ _ hj
        · exact .ptr (upE_same _ _ _)
      · cases hv
    · cases hv
  · rename_i t x hop
    split at hv
    · rename_i v hx
      split at hv
      · rename_i hp
        cases hv
        have hk := key v.cells (a.eval x).cells t (fun av => (he.eval hx).cells.mono (le av)) hp
        refine ⟨.pointer (some ⟨w.heap.size, 0, none⟩), _, _, ?_, ?_, ?_, hk⟩
        · simp only [hop, Instr.box, Sem.run_bind, Result.andThen_ok, newVar, newRow, run_newObj, Sem.run_pure, World.alloc_eq]
        rotate_left
        · exact fun j hj => upE_ne _ _ hj
        · exact .ptr (upE_same _ _ _)
      · cases hv
    · cases hv
  · rename_i t len parts hop
    split at hv
    · rename_i el ps hd hps
      split at hv
      · rename_i i hi
        split at hv
        · rename_i z hz
          split at hv
          · rename_i hc
            simp only [Bool.and_eq_true, beq_iff_eq, decide_eq_true_eq] at hc
            obtain ⟨⟨⟨hp, hsz⟩, hpos⟩, hlen⟩ := hc
            split at hv
            · rename_i cs hf
              split at hv
              · rename_i hone
                cases hv
                obtain ⟨h1, h2⟩ := evParts_sound he hps
                have hz0 : VRs φ (madeCells z.cells (len * i.size)).toList (madeCells z.cells (len * i.size)).toList := by
                  refine ⟨rfl, fun j v v' g1 g2 => ?_⟩
                  rw [g1] at g2; cases g2
                  simp only [madeCells, Array.toList_map, Array.toList_range, List.getElem?_map, Option.map_eq_some_iff] at g1
                  obtain ⟨m, hm, rfl⟩ := g1
                  have hlt' : m % z.cells.size < z.cells.size := Nat.mod_lt _ (by omega)
                  have := (cells_plain (φ := φ) hp).2 (m % z.cells.size) z.cells[m % z.cells.size]! z.cells[m % z.cells.size]! (by simp [hlt']) (by simp [hlt'])
                  exact this
                obtain ⟨cs', h3, h4⟩ := fill_sound (φ := φ) (ps' := parts.toList.map fun p => (p.1, a.eval p.2)) (by rw [List.map_map]; exact h1) (by rw [List.map_map]; exact h2) hz0 hf
                have hcl : cs'.size = len * i.size := by
                  have e1 : cs'.size = cs.size := by have := h4.1; simpa using this.symm
                  rw [e1]
                  have : ∀ (l : List (Nat × Value)) (c out : Array Value), Instr.fill (fun k => some (k * i.size, i.size)) c l = some out → out.size = c.size := by
                    intro l
                    induction l with
                    | nil => intro c out g; simp [Instr.fill] at g; rw [g]
                    | cons p r ih =>
                      intro c out g
                      obtain ⟨k, v⟩ := p
                      simp only [Instr.fill] at g
                      split at g
                      · cases g
                      · rw [ih _ _ g]
                        have : ∀ (l : List (Value × Nat)) (c : Array Value), (l.foldl (fun cs (c, j) => cs.setIfInBounds (k * i.size + j) c) c).size = c.size := by
                          intro l
                          induction l with
                          | nil => intro c; rfl
                          | cons q r ih => intro c; rw [List.foldl_cons, ih]; simp
                        rw [← Array.foldl_toList]
                        exact this _ _
                  rw [this _ _ _ hf, size_madeCells]
                have hk := key cs cs' el (fun av => h4.mono (le av)) hone
                refine ⟨.slice (some ⟨w.heap.size, 0, none⟩) len len, _, _, ?_, ?_, ?_, hk⟩
                · have hpm : (parts.map fun (i, x) => (i, a.eval x)) = (parts.toList.map fun p => (p.1, a.eval p.2)).toArray := by apply Array.ext'; simp
                  have hn : ¬ (len * i.size > 2 ^ 24) := by omega
                  simp only [hop, hpm, Instr.buildSlice, Sem.run_bind, run_underlying hd, Result.andThen_ok, rSizeOf hi, hn, if_false]
                  by_cases h0 : len * i.size = 0
                  · have hmc : (Array.map (fun x => (#[] : Array Value)[x % (#[] : Array Value).size]!) (Array.range (len * i.size))) = madeCells z.cells (len * i.size) := by rw [h0]; simp [madeCells]
                    rw [if_pos h0]
                    simp only [Sem.run_bind, Sem.run_pure, Result.andThen_ok, hmc, h3, newRow, run_newObj, World.alloc_eq]
                  · have hmc : (Array.map (fun x => z.cells[x % z.cells.size]!) (Array.range (len * i.size))) = madeCells z.cells (len * i.size) := rfl
                    rw [if_neg h0]
                    simp only [Sem.run_bind, rZero hi hz, Sem.run_pure, Result.andThen_ok, hmc, h3, newRow, run_newObj, World.alloc_eq]
                rotate_left
                · exact fun j hj => upE_ne _ _ hj
                · have := VR.slice (φ := upE φ id ⟨w.heap.size, 0, cs'.size⟩) (off := 0) (len := len) (cap := len) (esz := i.size) (upE_same φ id _) (Nat.le_refl _) (by simp [hcl])
                  simpa using this
              · cases hv
            · cases hv
          · cases hv
        · cases hv
      · cases hv
    · cases hv
  · rename_i t l c hop
    split at hv
    · rename_i el kl l' kc c' hd hl hc
      split at hv
      · rename_i i hi
        split at hv
        · rename_i z hz
          split at hv
          · rename_i hcnd
            simp only [Bool.and_eq_true, beq_iff_eq, decide_eq_true_eq] at hcnd
            obtain ⟨⟨⟨⟨⟨⟨⟨hp, hone⟩, hsz⟩, hpos⟩, h0⟩, hlc⟩, hby⟩, h63⟩ := hcnd
            cases hv
            have e1 := (he.eval hl).int_inv
            have e2 := (he.eval hc).int_inv
            have hr := run_make (P := P) w t el i z hd hi hz kl kc l' c' h0 hlc hby h63
            have hfl := madeCells_flat z.cells c'.toNat
            rw [← hsz] at hfl
            have hrel : ∀ av, VRs (upE φ id ⟨w.heap.size, 0, av⟩) (madeCells z.cells (c'.toNat * i.size)).toList (madeCells z.cells (c'.toNat * i.size)).toList := by
              intro av
              refine ⟨rfl, fun j v v' g1 g2 => ?_⟩
              rw [g1] at g2; cases g2
              simp only [madeCells, Array.toList_map, Array.toList_range, List.getElem?_map, Option.map_eq_some_iff] at g1
              obtain ⟨m, hm, rfl⟩ := g1
              have hlt' : m % z.cells.size < z.cells.size := Nat.mod_lt _ (by omega)
              exact (cells_plain (φ := upE φ id ⟨w.heap.size, 0, av⟩) hp).2 (m % z.cells.size) z.cells[m % z.cells.size]! z.cells[m % z.cells.size]! (by simp [hlt']) (by simp [hlt'])
            have hone' : oneAll (madeCells z.cells (c'.toNat * i.size)).toList = true := by
              rw [hfl]
              unfold oneAll at *
              rw [List.all_eq_true] at *
              intro x hx
              rw [List.mem_flatten] at hx
              obtain ⟨l, hl, hx⟩ := hx
              rw [List.eq_of_mem_replicate hl] at hx
              exact hone x hx
            have hk := key (madeCells z.cells (c'.toNat * i.size)) (madeCells z.cells (c'.toNat * i.size)) el hrel hone'
            rw [hfl] at hk
            refine ⟨.slice (some ⟨w.heap.size, 0, none⟩) l'.toNat c'.toNat, _, _, ?_, ?_, ?_, hk⟩
            · simp only [hop, e1, e2, Sem.run_bind, hr, Result.andThen_ok, Sem.run_pure]
            rotate_left
            · exact fun j hj => upE_ne _ _ hj
            · have := VR.slice (φ := upE φ id ⟨w.heap.size, 0, (madeCells z.cells (c'.toNat * i.size)).size⟩) (off := 0) (len := l'.toNat) (cap := c'.toNat) (esz := i.size) (upE_same φ id _) (by omega) (by simp [size_madeCells])
              simpa using this
          · cases hv
        · cases hv
      · cases hv
    · cases hv
  · rename_i t r hop
    have hmap : ∀ (w1 : World), w1 = w → Post B0 N φ h w (upE φ id ⟨w.heap.size, 0, 0⟩) (h.put id (.map true [])) (w.alloc (.map #[] 0)) := by
      intro _ _
      refine Post.alloc hh (SameMem.refl w) hφ hid hlt hN ⟨⟨fun _ => hh.new, fun h => by cases h⟩, #[], 0, heap_alloc_new w _, rfl, by simp⟩
    have hrel : VR (upE φ id ⟨w.heap.size, 0, 0⟩) (.map (some id)) (.map (some w.heap.size)) := .map (e := ⟨w.heap.size, 0, 0⟩) (upE_same _ _ _)
    split at hv
    · cases hv
      refine ⟨.map (some w.heap.size), upE φ id ⟨w.heap.size, 0, 0⟩, _, ?_, hrel, fun j hj => upE_ne _ _ hj, hmap w rfl⟩
      simp only [hop, Instr.makeMap, Option.map_none, Sem.run_bind, run_newObj, Result.andThen_ok, Sem.run_pure, World.alloc_eq]
    · rename_i x
      split at hv
      · rename_i kt et k m hd hx
        cases hv
        have e1 := (he.eval hx).int_inv
        refine ⟨.map (some w.heap.size), upE φ id ⟨w.heap.size, 0, 0⟩, _, ?_, hrel, fun j hj => upE_ne _ _ hj, hmap w rfl⟩
        simp only [hop, Instr.makeMap, Option.map_some, e1, Sem.run_bind, run_underlying hd, asInt, asIntOf, run_newObj, Result.andThen_ok, Sem.run_pure, World.alloc_eq]
      · cases hv
  · cases hv

end Go.Proofs.Ytbcgcnmnblfhmaa.Lin
