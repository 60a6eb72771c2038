/- Rows of one's own, some at a time, beside what is only read. -/
import Derived.Test.YtbcgcnmnblfhmaaDat0
namespace Go.Proofs.Ytbcgcnmnblfhmaa.Lin

/-- None of these rows. -/
def NotIn (vs : List Value) (j : Nat) : Prop := ∀ v ∈ vs, ¬ idOf v j
/-- What is not turned any more. -/
def Fz (vs : List Value) (h : AHeap) (j : Nat) : Prop := NotIn vs j ∧ j < h.next

/-- Rows that are built beside h0. -/
structure Mine (h0 h : AHeap) (vs : List Value) : Prop where
  on : On h0 h
  lo : ∀ v ∈ vs, ∀ j, idOf v j → h0.next ≤ j ∧ j < h.next
  sep : vs.Pairwise fun a b => ∀ j, idOf a j → ¬ idOf b j

theorem mine_none {h0 h : AHeap} (on : On h0 h) {vs : List Value} (hv : ∀ v ∈ vs, ∀ j, ¬ idOf v j) : Mine h0 h vs := by
  refine ⟨on, fun v hm j hj => (hv v hm j hj).elim, ?_⟩
  refine List.pairwise_of_forall_mem_list (fun a ha b hb j hj => (hv a ha j hj).elim)

theorem Mine.sees {h0 h : AHeap} {vs : List Value} (L : Mine h0 h vs) : Sees (· < h0.next) h0 (Fz vs h) h :=
  Sees.same (fun j hj => ⟨fun v hv q => by have := (L.lo v hv j q).1; omega, Nat.lt_of_lt_of_le hj L.on.nxt⟩) (fun j hj => L.on.obj j hj)

theorem Mine.same {h0 h h' : AHeap} {vs : List Value} (L : Mine h0 h vs) (hn : h.next ≤ h'.next) (ho : h'.obj = h.obj) : Mine h0 h' vs :=
  ⟨⟨Nat.le_trans L.on.nxt hn, fun i hi => by rw [ho]; exact L.on.obj i hi⟩, fun v hv j hj => ⟨(L.lo v hv j hj).1, Nat.lt_of_lt_of_le (L.lo v hv j hj).2 hn⟩, L.sep⟩
theorem bld_same {α : Type} {c : Cod α} {ty : TypeId} {S : Nat → Prop} {h h' : AHeap} {v : Value} {l : List α} (B : Bld c ty S h v l) (hn : h.next ≤ h'.next) (ho : h'.obj = h.obj) : Bld c ty S h' v l :=
  bld_keep B hn (fun _ _ q => q) (fun _ _ _ => by rw [ho])

theorem mem_set {vs : List Value} {k : Nat} {v' w : Value} (h : w ∈ vs.set k v') : w = v' ∨ ∃ i, i ≠ k ∧ vs[i]? = some w := by
  obtain ⟨i, hi⟩ := List.mem_iff_getElem?.1 h
  rw [List.getElem?_set] at hi
  split at hi
  · split at hi
    · exact .inl (Option.some.inj hi).symm
    · cases hi
  · rename_i hne
    exact .inr ⟨i, Ne.symm hne, hi⟩

theorem Mine.ne {h0 h : AHeap} {vs : List Value} (L : Mine h0 h vs) {i k : Nat} {w v : Value} (hi : vs[i]? = some w) (hk : vs[k]? = some v) (hne : i ≠ k) : ∀ j, idOf w j → ¬ idOf v j := by
  have hs := L.sep
  rw [List.pairwise_iff_getElem] at hs
  obtain ⟨hil, hi⟩ := List.getElem?_eq_some_iff.1 hi
  obtain ⟨hkl, hk⟩ := List.getElem?_eq_some_iff.1 hk
  rcases Nat.lt_or_gt_of_ne hne with g | g
  · have := hs i k hil hkl g
    rw [hi, hk] at this; exact this
  · have := hs k i hkl hil g
    rw [hi, hk] at this
    exact fun j a b => this j b a

/-- A row is laid anew. -/
theorem Mine.step {h0 h h' : AHeap} {vs : List Value} (L : Mine h0 h vs) {k : Nat} {v : Value} (hk : vs[k]? = some v) (g : Grew h h' v) {id : Nat} (hid : h.next ≤ id) (hlt : id < h'.next) (m sz : Nat) :
    Mine h0 h' (vs.set k (.slice (some ⟨id, 0, none⟩) m sz)) ∧ Sees (Fz vs h) h (Fz (vs.set k (.slice (some ⟨id, 0, none⟩) m sz)) h') h' ∧
    ∀ (i : Nat) (w : Value), i ≠ k → vs[i]? = some w → ∀ {α : Type} {c : Cod α} {ty : TypeId} {l : List α}, Bld c ty (NotIn vs) h w l → Bld c ty (NotIn (vs.set k (.slice (some ⟨id, 0, none⟩) m sz))) h' w l := by
  have hmem := List.mem_of_getElem? hk
  have hni : ∀ j, j < h.next → NotIn vs j → NotIn (vs.set k (.slice (some ⟨id, 0, none⟩) m sz)) j := by
    intro j hj hn w hw q
    rcases mem_set hw with rfl | ⟨i, _, hi⟩
    · have q' : j = id := q; omega
    · exact hn w (List.mem_of_getElem? hi) q
  refine ⟨⟨g.on L.on (fun j q => (L.lo v hmem j q).1), fun w hw j q => ?_, ?_⟩, ?_, fun i w hne hi α c ty l B => ?_⟩
  · rcases mem_set hw with rfl | ⟨i, _, hi⟩
    · have q' : j = id := q
      have := L.on.nxt
      omega
    · have := L.lo w (List.mem_of_getElem? hi) j q
      have := g.nxt
      omega
  · rw [List.pairwise_iff_getElem]
    intro a b ha hb hab j qa qb
    rw [List.length_set] at ha hb
    rw [List.getElem_set] at qa qb
    have hs := L.sep
    rw [List.pairwise_iff_getElem] at hs
    split at qa
    · split at qb
      · omega
      · have q' : j = id := qa
        have := (L.lo _ (List.getElem_mem hb) j qb).2
        omega
    · split at qb
      · have q' : j = id := qb
        have := (L.lo _ (List.getElem_mem ha) j qa).2
        omega
      · exact hs a b ha hb hab j qa qb
  · exact Sees.same (fun j hj => ⟨hni j hj.2 hj.1, Nat.lt_of_lt_of_le hj.2 g.nxt⟩) (fun j hj => g.obj j hj.2 (hj.1 v hmem))
  · exact g.keep B (fun j q => by
      rcases q with q | q
      · exact q v hmem
      · exact L.ne hi hk hne j q) hni

/-- One more in a row: what is met, and what it leaves. -/
theorem Mine.push {h0 h : AHeap} {vs : List Value} (L : Mine h0 h vs) {k : Nat} {v : Value} (hk : vs[k]? = some v) {α : Type} {c : Cod α} {ty : TypeId} {l : List α} (B : Bld c ty (NotIn vs) h v l) : ∃ C, C.length = l.length * c.n ∧
    ((v = .slice none 0 0 ∧ C = [] ∧ l = []) ∨ ∃ id t, v = .slice (some ⟨id, 0, none⟩) l.length c.n ∧ id < h.next ∧ h.obj id = some (.arr true ty (C ++ t))) ∧
    ∀ (h' : AHeap) (id m sz : Nat) (x : α) (cs t : List Value), Grew h h' v → m = l.length + 1 → sz = c.n → h.next ≤ id → id < h'.next → h'.obj id = some (.arr true ty (C ++ (cs ++ t))) →
      (Sees (Fz vs h) h (Fz (vs.set k (.slice (some ⟨id, 0, none⟩) m sz)) h') h' → c.R (Fz (vs.set k (.slice (some ⟨id, 0, none⟩) m sz)) h') h' cs x) →
      Mine h0 h' (vs.set k (.slice (some ⟨id, 0, none⟩) m sz)) ∧ Bld c ty (NotIn (vs.set k (.slice (some ⟨id, 0, none⟩) m sz))) h' (.slice (some ⟨id, 0, none⟩) m sz) (l ++ [x]) ∧
      Sees (Fz vs h) h (Fz (vs.set k (.slice (some ⟨id, 0, none⟩) m sz)) h') h' ∧
      ∀ (i : Nat) (w : Value), i ≠ k → vs[i]? = some w → ∀ {β : Type} {d : Cod β} {ty : TypeId} {l : List β}, Bld d ty (NotIn vs) h w l → Bld d ty (NotIn (vs.set k (.slice (some ⟨id, 0, none⟩) m sz))) h' w l := by
  obtain ⟨C, h1, h2, h3⟩ := bld_open B
  refine ⟨C, h1, h2, fun h' id m sz x cs t g hm hsz hid hlt ho hx => ?_⟩
  obtain ⟨a, b, e⟩ := L.step hk g hid hlt m sz
  have hkl := (List.getElem?_eq_some_iff.1 hk).1
  refine ⟨a, g.app h1 h3 id m sz x cs t hm hsz hid hlt ho ?_ (c.mono (Sees.sub ?_) (hx b)), b, e⟩
  · intro j hj hn w hw q
    rcases mem_set hw with rfl | ⟨i, _, hi⟩
    · have q' : j = id := q; omega
    · exact hn w (List.mem_of_getElem? hi) q
  · rintro j ⟨q1, q2⟩
    refine ⟨q1, q2, fun e => ?_⟩
    exact q1 (.slice (some ⟨id, 0, none⟩) m sz) (List.mem_iff_getElem?.2 ⟨k, by rw [List.getElem?_set]; simp [hkl]⟩) e

/-- A row that is built goes in among them. -/
theorem Mine.cons {h0 h h' : AHeap} {vs : List Value} (L : Mine h0 h vs) (on : On h h') {w : Value} (lo : ∀ j, idOf w j → h.next ≤ j ∧ j < h'.next) : Mine h0 h' (w :: vs) := by
  refine ⟨L.on.trans on, fun v hv j q => ?_, List.pairwise_cons.2 ⟨fun b hb j q r => ?_, L.sep⟩⟩
  · rcases List.mem_cons.1 hv with rfl | hv
    · have := lo j q; have := L.on.nxt; omega
    · have := L.lo v hv j q; have := on.nxt; omega
  · have := lo j q; have := (L.lo b hb j r).2; omega
theorem Mine.later {h0 h h' : AHeap} {vs : List Value} (L : Mine h0 h vs) (on : On h h') : Mine h0 h' vs :=
  ⟨L.on.trans on, fun v hv j q => by have := L.lo v hv j q; have := on.nxt; omega, L.sep⟩
theorem Mine.tail {h0 h : AHeap} {w : Value} {vs : List Value} (L : Mine h0 h (w :: vs)) : Mine h0 h vs := ⟨L.on, fun v hv => L.lo v (List.mem_cons_of_mem _ hv), (List.pairwise_cons.1 L.sep).2⟩
theorem sees_later {h h' : AHeap} {vs ws : List Value} (on : On h h') (hw : ∀ j, j < h.next → NotIn vs j → NotIn ws j) : Sees (Fz vs h) h (Fz ws h') h' :=
  Sees.same (fun j hj => ⟨hw j hj.2 hj.1, Nat.lt_of_lt_of_le hj.2 on.nxt⟩) (fun j hj => on.obj j hj.2)
/-- What was there before others were begun. -/
theorem bld_later {α : Type} {c : Cod α} {ty : TypeId} {h h' : AHeap} {vs ws : List Value} {v : Value} {l : List α} (B : Bld c ty (NotIn vs) h v l) (on : On h h') (hw : ∀ j, j < h.next → NotIn vs j → NotIn ws j) : Bld c ty (NotIn ws) h' v l :=
  bld_keep B on.nxt hw (fun j hj _ => on.obj j hj)
theorem notIn_cons {w : Value} {vs : List Value} {n : Nat} (lo : ∀ j, idOf w j → n ≤ j) : ∀ j, j < n → NotIn vs j → NotIn (w :: vs) j := by
  intro j hj hn v hv q
  rcases List.mem_cons.1 hv with rfl | hv
  · have := lo j q; omega
  · exact hn v hv q
theorem notIn_tail {w : Value} {vs : List Value} {j : Nat} (h : NotIn (w :: vs) j) : NotIn vs j := fun v hv => h v (List.mem_cons_of_mem _ hv)
/-- A row that is done is data. -/
theorem Mine.done {h0 h : AHeap} {w : Value} {vs : List Value} (L : Mine h0 h (w :: vs)) {α : Type} {c : Cod α} {ty : TypeId} {l : List α} (B : Bld c ty (NotIn (w :: vs)) h w l) : (cSlc c).R (Fz vs h) h [w] l := by
  refine (cSlc c).mono (Sees.sub ?_) (bld_done2 B)
  rintro j ⟨q | q, hj⟩
  · exact ⟨fun v hv r => by
      obtain ⟨i, hi⟩ := List.mem_iff_getElem?.1 hv
      exact L.ne (i := 0) (k := i + 1) rfl (by simpa using hi) (by omega) j q r, hj⟩
  · exact ⟨notIn_tail q, hj⟩
end Go.Proofs.Ytbcgcnmnblfhmaa.Lin
