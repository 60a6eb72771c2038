/- What a new block, a turned block, a row taken over leave of the description. -/
import Derived.Test.YtbcgcnmnblfhmaaLin4
namespace Go.Proofs.Ytbcgcnmnblfhmaa.Lin

def upE (φ : Nat → Option Emb) (i : Nat) (e : Emb) : Nat → Option Emb := fun j => if j = i then some e else φ j
theorem upE_same (φ : Nat → Option Emb) (i : Nat) (e : Emb) : upE φ i e i = some e := by simp [upE]
theorem upE_ne (φ : Nat → Option Emb) {i j : Nat} (e : Emb) (h : j ≠ i) : upE φ i e j = φ j := by simp [upE, h]
theorem upE_le {φ : Nat → Option Emb} {i : Nat} {e : Emb} (h : φ i = none) : Le φ (upE φ i e) := by
  intro j e' hj
  by_cases hji : j = i
  · subst hji; rw [h] at hj; cases hj
  · rw [upE_ne φ e hji]; exact hj

/-- Two worlds that hold the same memory. -/
structure SameMem (w w' : World) : Prop where
  heap : w'.heap = w.heap
  os : w'.os = w.os
  tape : w'.tape = w.tape
  output : w'.output = w.output

theorem SameMem.refl (w : World) : SameMem w w := ⟨rfl, rfl, rfl, rfl⟩
theorem SameMem.drew (w : World) : SameMem w w.drew := ⟨rfl, rfl, rfl, rfl⟩
theorem SameMem.trans {a b c : World} (h : SameMem a b) (k : SameMem b c) : SameMem a c :=
  ⟨k.heap.trans h.heap, k.os.trans h.os, k.tape.trans h.tape, k.output.trans h.output⟩

theorem OR.same {B0 : Nat → Prop} {φ : Nat → Option Emb} {w w' : World} {e : Emb} {o : AObj} (hs : SameMem w w') (h : OR B0 φ w e o) : OR B0 φ w' e o := h.keep (Le.refl _) (by rw [hs.heap])

theorem HR.same {B0 : Nat → Prop} {φ : Nat → Option Emb} {h : AHeap} {w w' : World} (hs : SameMem w w') (hh : HR B0 φ h w) : HR B0 φ h w' :=
  ⟨by rw [hs.heap]; exact hh.size, hh.fresh, fun i o ho => let ⟨e, a, b⟩ := hh.obj i o ho; ⟨e, a, b.same hs⟩, hh.sep⟩

theorem Post.same {B0 : Nat → Prop} {N : Nat} {φ : Nat → Option Emb} {h : AHeap} {w w' : World} (hs : SameMem w w') (hh : HR B0 φ h w) : Post B0 N φ h w φ h w' :=
  ⟨hh.same hs, Le.refl _, fun _ _ => rfl, Nat.le_refl _, fun _ _ e => e, by rw [hs.heap]; exact Nat.le_refl _, fun _ _ _ => by rw [hs.heap], fun i _ o => .inl ⟨i, o⟩, hs.os, hs.tape, hs.output⟩

theorem HR.del {B0 : Nat → Prop} {φ : Nat → Option Emb} {h : AHeap} {w : World} (hh : HR B0 φ h w) (i : Nat) : HR B0 φ (h.del i) w := by
  have sub : ∀ j o, (h.del i).obj j = some o → h.obj j = some o := by
    intro j o ho
    rw [AHeap.del_obj] at ho
    split at ho
    · cases ho
    · exact ho
  have own : ∀ j b, Owns φ (h.del i) j b → Owns φ h j b := fun j b ⟨e, o, a, b', c, d⟩ => ⟨e, o, sub j o a, b', c, d⟩
  refine ⟨hh.size, fun j hj => ⟨(hh.fresh j hj).1, ?_⟩, fun j o ho => hh.obj j o (sub j o ho), fun j k b a c => hh.sep j k b (own j b a) (own k b c)⟩
  rw [AHeap.del_obj]
  split
  · rfl
  · exact (hh.fresh j hj).2

theorem Post.del {B0 : Nat → Prop} {N : Nat} {φ : Nat → Option Emb} {h : AHeap} {w : World} (hh : HR B0 φ h w) (i : Nat) : Post B0 N φ h w φ (h.del i) w := by
  refine ⟨hh.del i, Le.refl _, fun _ _ => rfl, Nat.le_refl _, ?_, Nat.le_refl _, fun _ _ _ => rfl, ?_, rfl, rfl, rfl⟩
  · intro j _ hj
    rw [AHeap.del_obj]
    split
    · rfl
    · exact hj
  · rintro j b ⟨e, o, a, b', c, d⟩
    refine .inl ⟨j, e, o, ?_, b', c, d⟩
    rw [AHeap.del_obj] at a
    split at a
    · cases a
    · exact a

theorem alloc_heap_new (w : World) (o : Obj) : (w.alloc o).heap[w.heap.size]? = some o := heap_alloc_new w o

/-- A new block. -/
theorem Post.alloc {B0 : Nat → Prop} {N : Nat} {φ : Nat → Option Emb} {h : AHeap} {w w1 : World} {id : Nat} {o : AObj} {av : Nat} {o' : Obj} (hh : HR B0 φ h w) (hs : SameMem w w1)
    (hφ : φ id = none) (hid : h.obj id = none) (hlt : id < h.next) (hN : N ≤ id)
    (hor : OR B0 (upE φ id ⟨w.heap.size, 0, av⟩) (w1.alloc o') ⟨w.heap.size, 0, av⟩ o) :
    Post B0 N φ h w (upE φ id ⟨w.heap.size, 0, av⟩) (h.put id o) (w1.alloc o') := by
  have hle : Le φ (upE φ id ⟨w.heap.size, 0, av⟩) := upE_le hφ
  have hold : ∀ b, b < w.heap.size → (w1.alloc o').heap[b]? = w.heap[b]? := fun b hb => by
    rw [heap_alloc_old w1 o' b (by rw [hs.heap]; exact hb), hs.heap]
  have hsz : (w1.alloc o').heap.size = w.heap.size + 1 := by rw [World.size_alloc, hs.heap]
  have own : ∀ j b, Owns (upE φ id ⟨w.heap.size, 0, av⟩) (h.put id o) j b → (j = id ∧ b = w.heap.size) ∨ (j ≠ id ∧ Owns φ h j b) := by
    rintro j b ⟨e, q, a, b', c, d⟩
    by_cases hj : j = id
    · subst hj; rw [upE_same] at c; cases c; exact .inl ⟨rfl, d.symm⟩
    · rw [AHeap.put_ne _ _ hj] at a; rw [upE_ne _ _ hj] at c; exact .inr ⟨hj, e, q, a, b', c, d⟩
  refine ⟨⟨fun b hb => by have := hh.size b hb; omega, ?_, ?_, ?_⟩, hle, fun i hi => upE_ne _ _ (by omega), Nat.le_refl _, ?_, by omega, ?_, ?_, by rw [← hs.os]; rfl, by rw [← hs.tape]; rfl, by rw [← hs.output]; rfl⟩
  · intro i hi
    rw [AHeap.put_next] at hi
    have hne : i ≠ id := by omega
    rw [upE_ne _ _ hne, AHeap.put_ne _ _ hne]
    exact hh.fresh i hi
  · intro i q hq
    by_cases hi : i = id
    · subst hi
      rw [AHeap.put_same] at hq; cases hq
      exact ⟨_, upE_same _ _ _, hor⟩
    · rw [AHeap.put_ne _ _ hi] at hq
      obtain ⟨e, he, ho⟩ := hh.obj i q hq
      exact ⟨e, hle i e he, ho.keep hle (hold _ ho.blk_lt)⟩
  · intro i j b hi hj
    rcases own i b hi with ⟨rfl, rfl⟩ | ⟨hne, hi'⟩ <;> rcases own j _ hj with ⟨g, h2⟩ | ⟨hne', hj'⟩
    · exact g.symm
    · have := (owned_ge hh hj').2; omega
    · have := (owned_ge hh hi').2; omega
    · exact hh.sep i j b hi' hj'
  · intro i hi ho
    rw [AHeap.put_ne _ _ (by omega)]; exact ho
  · intro b hb _
    exact hold b hb
  · intro i b hi
    rcases own i b hi with ⟨rfl, rfl⟩ | ⟨hne, hi⟩
    · exact .inr (Nat.le_refl _)
    · exact .inl ⟨i, hi⟩

/-- A block of its own is turned. -/
theorem Post.turn {B0 : Nat → Prop} {N : Nat} {φ : Nat → Option Emb} {h : AHeap} {w w' : World} {i : Nat} {o o1 : AObj} {e : Emb} (hh : HR B0 φ h w)
    (ho : h.obj i = some o) (hown : o.owned = true) (he : φ i = some e)
    (hsize : w'.heap.size = w.heap.size) (hother : ∀ b, b ≠ e.blk → w'.heap[b]? = w.heap[b]?) (hos : w'.os = w.os) (htape : w'.tape = w.tape) (hout : w'.output = w.output)
    (hor : OR B0 φ w' e o1) : Post B0 N φ h w φ (h.put i o1) w' := by
  have hme : Owns φ h i e.blk := ⟨e, o, ho, hown, he, rfl⟩
  have own : ∀ j b, Owns φ (h.put i o1) j b → Owns φ h j b := by
    rintro j b ⟨e', q, a, b', c, d⟩
    by_cases hj : j = i
    · subst hj; rw [he] at c; cases c; exact ⟨e, o, ho, hown, he, d⟩
    · rw [AHeap.put_ne _ _ hj] at a; exact ⟨e', q, a, b', c, d⟩
  have hni : i < h.next := by
    rcases Nat.lt_or_ge i h.next with g | g
    · exact g
    · rw [(hh.fresh i g).1] at he; cases he
  refine ⟨⟨fun b hb => by have := hh.size b hb; omega, ?_, ?_, fun j k b a c => hh.sep j k b (own j b a) (own k b c)⟩, Le.refl _, fun _ _ => rfl, Nat.le_refl _, ?_, by omega, ?_, fun j b hj => .inl ⟨j, own j b hj⟩, hos, htape, hout⟩
  · intro j hj
    rw [AHeap.put_next] at hj
    rw [AHeap.put_ne _ _ (by omega)]
    exact hh.fresh j hj
  · intro j q hq
    by_cases hj : j = i
    · subst hj
      rw [AHeap.put_same] at hq; cases hq
      exact ⟨e, he, hor⟩
    · rw [AHeap.put_ne _ _ hj] at hq
      obtain ⟨e', he', ho'⟩ := hh.obj j q hq
      refine ⟨e', he', ho'.keep (Le.refl _) (hother _ ?_)⟩
      intro heq
      cases hq' : q.owned with
      | true => exact hj (hh.sep j i _ ⟨e', q, hq, hq', he', heq⟩ hme)
      | false =>
        cases q with
        | map own es =>
          simp only [AObj.owned] at hq'
          have g1 := ho'.1.2 hq'
          rw [heq] at g1
          exact (owned_ge hh hme).1 g1
        | arr own ty c =>
          simp only [AObj.owned] at hq'
          obtain ⟨_, _, _, _, _, _, _, h5⟩ := ho'
          have g1 := h5 hq'
          rw [heq] at g1
          exact (owned_ge hh hme).1 g1
  · intro j _ hj
    have : j ≠ i := fun g => by rw [g, ho] at hj; cases hj
    rw [AHeap.put_ne _ _ this]; exact hj
  · intro b hb hn
    exact hother b (fun g => hn i (g ▸ hme))

/-- A block of its own goes over to another number, turned. -/
theorem Post.move {B0 : Nat → Prop} {N : Nat} {φ : Nat → Option Emb} {h : AHeap} {w w' : World} {i id : Nat} {o o1 : AObj} {e e1 : Emb} (hh : HR B0 φ h w)
    (ho : h.obj i = some o) (hown : o.owned = true) (he : φ i = some e) (hb : e1.blk = e.blk)
    (hφ : φ id = none) (hid : h.obj id = none) (hlt : id < h.next) (hN : N ≤ id)
    (hsize : w'.heap.size = w.heap.size) (hother : ∀ b, b ≠ e.blk → w'.heap[b]? = w.heap[b]?) (hos : w'.os = w.os) (htape : w'.tape = w.tape) (hout : w'.output = w.output)
    (hor : OR B0 (upE φ id e1) w' e1 o1) : Post B0 N φ h w (upE φ id e1) ((h.del i).put id o1) w' := by
  have hme : Owns φ h i e.blk := ⟨e, o, ho, hown, he, rfl⟩
  have hle : Le φ (upE φ id e1) := upE_le hφ
  have hii : id ≠ i := fun g => by rw [g, ho] at hid; cases hid
  have own : ∀ j b, Owns (upE φ id e1) ((h.del i).put id o1) j b → (j = id ∧ b = e.blk) ∨ (j ≠ id ∧ j ≠ i ∧ Owns φ h j b) := by
    rintro j b ⟨e', q, a, b', c, d⟩
    by_cases hj : j = id
    · subst hj; rw [upE_same] at c; cases c; exact .inl ⟨rfl, by omega⟩
    · rw [AHeap.put_ne _ _ hj, AHeap.del_obj] at a
      split at a
      · cases a
      · rename_i hji
        rw [upE_ne _ _ hj] at c; exact .inr ⟨hj, hji, e', q, a, b', c, d⟩
  refine ⟨⟨fun b hb => by have := hh.size b hb; omega, ?_, ?_, ?_⟩, hle, fun j hj => upE_ne _ _ (by omega), Nat.le_refl _, ?_, by omega, ?_, ?_, hos, htape, hout⟩
  · intro j hj
    have hj' : h.next ≤ j := hj
    have hne : j ≠ id := by omega
    rw [upE_ne _ _ hne, AHeap.put_ne _ _ hne, AHeap.del_obj]
    refine ⟨(hh.fresh j hj').1, ?_⟩
    split
    · rfl
    · exact (hh.fresh j hj').2
  · intro j q hq
    by_cases hj : j = id
    · subst hj
      rw [AHeap.put_same] at hq; cases hq
      exact ⟨e1, upE_same _ _ _, hor⟩
    · rw [AHeap.put_ne _ _ hj, AHeap.del_obj] at hq
      split at hq
      · cases hq
      · rename_i hji
        obtain ⟨e', he', ho'⟩ := hh.obj j q hq
        refine ⟨e', hle _ _ he', ho'.keep hle (hother _ ?_)⟩
        intro heq
        cases hq' : q.owned with
        | true => exact hji (hh.sep j i _ ⟨e', q, hq, hq', he', heq⟩ hme)
        | false =>
          cases q with
          | map own es =>
            simp only [AObj.owned] at hq'
            have g1 := ho'.1.2 hq'
            rw [heq] at g1
            exact (owned_ge hh hme).1 g1
          | arr own ty c =>
            simp only [AObj.owned] at hq'
            obtain ⟨_, _, _, _, _, _, _, h5⟩ := ho'
            have g1 := h5 hq'
            rw [heq] at g1
            exact (owned_ge hh hme).1 g1
  · intro j k b hj hk
    rcases own j b hj with ⟨g0, g⟩ | ⟨g1, g2, hj'⟩ <;> rcases own k _ hk with ⟨g3, g4⟩ | ⟨g3, g4, hk'⟩
    · rw [g0, g3]
    · exact absurd (hh.sep k i _ (g ▸ hk') hme) g4
    · exact absurd (hh.sep j i _ (g4 ▸ hj') hme) g2
    · exact hh.sep j k b hj' hk'
  · intro j hj hn
    rw [AHeap.put_ne _ _ (by omega), AHeap.del_obj]
    split
    · rfl
    · exact hn
  · intro b hb hn
    exact hother b (fun g => hn i (g ▸ hme))
  · intro j b hj
    rcases own j b hj with ⟨rfl, rfl⟩ | ⟨g1, g2, hj⟩
    · exact .inl ⟨i, hme⟩
    · exact .inl ⟨j, hj⟩

end Go.Proofs.Ytbcgcnmnblfhmaa.Lin
