/- slices.Sort of ints, as a contract over abstract heaps. -/
import Derived.Test.YtbcgcnmnblfhmaaKn2
import Derived.Test.YtbcgcnmnblfhmaaSo0
import Derived.KernelRfl
namespace Go.Proofs.Ytbcgcnmnblfhmaa
open Lin Tar

theorem sort_callable : Callable Try.prog 13 := ⟨Try.f13, Try.func13, by kernel_rfl, by kernel_rfl⟩

/-- New blocks behind the others. -/
theorem Post.grow {B0 : Nat → Prop} {N : Nat} {φ : Nat → Option Emb} {h : AHeap} {w : World} (hh : HR B0 φ h w) (os : Array Obj) : Post B0 N φ h w φ h (Go.Sort.grow w os) := by
  have hold : ∀ b, b < w.heap.size → (Go.Sort.grow w os).heap[b]? = w.heap[b]? := fun b hb => Go.Sort.heap_grow_old w os hb
  refine ⟨⟨fun b hb => by rw [Go.Sort.size_grow]; have := hh.size b hb; omega, hh.fresh, fun i o ho => ?_, hh.sep⟩, Le.refl _, fun _ _ => rfl, Nat.le_refl _, fun _ _ e => e, by rw [Go.Sort.size_grow]; omega, fun b hb _ => hold b hb, fun i b o => .inl ⟨i, o⟩, rfl, rfl, rfl⟩
  obtain ⟨e, he, hor⟩ := hh.obj i o ho
  exact ⟨e, he, hor.keep (Le.refl _) (hold _ hor.blk_lt)⟩

theorem nats_map (l : List Nat) : nats l = (l.map Int.ofNat).map (Value.int .i64) := by
  unfold nats
  rw [List.map_map]
  exact List.map_congr_left (fun _ _ => rfl)

theorem sortC : SortC := by
  intro h id n l Q hn hid hob hlt hlen hq hw
  subst hn
  let zs : List Int := l.map Int.ofNat
  let srt : List Int := zs.mergeSort fun x y => decide (x ≤ y)
  let l' : List Nat := srt.map Int.toNat
  have hperm : srt.Perm zs := List.mergeSort_perm _ _
  have hnn : ∀ x ∈ srt, 0 ≤ x := by
    intro x hx
    obtain ⟨y, _, rfl⟩ := List.mem_map.1 (hperm.mem_iff.1 hx)
    exact Int.natCast_nonneg y
  have hl' : (l'.map Int.ofNat) = srt := by
    show ((srt.map Int.toNat).map Int.ofNat) = srt
    rw [List.map_map]
    conv => rhs; rw [← List.map_id srt]
    exact List.map_congr_left (fun x hx => by have := hnn x hx; simp; omega)
  have hperm' : l'.Perm l := by
    have h1 := hperm.map Int.toNat
    have h2 : zs.map Int.toNat = l := by
      show (l.map Int.ofNat).map Int.toNat = l
      rw [List.map_map]
      conv => rhs; rw [← List.map_id l]
      exact List.map_congr_left (fun x _ => by simp)
    rw [h2] at h1; exact h1
  have hsorted : l'.Pairwise (· ≤ ·) := by
    have h1 : srt.Pairwise (fun x y => decide (x ≤ y) = true) := List.pairwise_mergeSort (fun a b c h1 h2 => by simp at *; omega) (fun a b => by simp; omega) zs
    refine List.pairwise_map.2 (h1.imp (fun {a b} h => ?_))
    have : a ≤ b := by simpa using h
    omega
  have hlen' : l'.length = l.length := hperm'.length_eq
  refine ⟨.tuple #[], h.put id (.arr true 3 (nats l')), ⟨sort_callable, ?_, Nat.le_refl _, ?_, ?_, ?_⟩, ?_⟩
  · intro i hi ho
    have : i ≠ id := fun e => by subst e; rw [hob] at ho; cases ho
    rw [AHeap.put_ne _ _ this]
  · intro hwf i hi
    rw [AHeap.put_next] at hi
    rw [AHeap.put_ne _ _ (by omega)]; exact hwf i hi
  · intro i o ho hown
    by_cases hi : i = id
    · subst hi; rw [AHeap.put_same] at ho; cases ho; cases hown
    · rwa [AHeap.put_ne _ _ hi] at ho
  · intro B0 φ args' w ha hh
    obtain ⟨a, rfl⟩ : ∃ a, args' = [a] := by
      have := ha.1
      match args', this with
      | [a], _ => exact ⟨a, rfl⟩
    have hv : VR φ (.slice (some ⟨id, 0, none⟩) l.length 1) a := ha.2 0 _ _ rfl rfl
    by_cases h0 : l = []
    · subst h0
      have hl0 : l' = [] := List.eq_nil_of_length_eq_zero hlen'
      have hput : h.put id (.arr true 3 (nats l')) = h := by
        rw [hl0]
        obtain ⟨nx, ob⟩ := h
        unfold AHeap.put
        congr 1
        funext j
        by_cases e : j = id
        · subst e; simp; exact hob.symm
        · simp [e]
      obtain ⟨p, c, rfl⟩ : ∃ p c, a = .slice p 0 c := by
        cases hv with
        | slice h1 h2 h3 => exact ⟨_, _, rfl⟩
        | sliceZero => exact ⟨_, _, rfl⟩
      refine (sort_none p c w).mono ?_
      rintro e w' ⟨rfl, rfl⟩
      rw [hput]
      exact ⟨_, φ, rfl, .tuple rfl (by simp), Post.refl hh⟩
    · obtain ⟨e, cap, he, rfl⟩ : ∃ e cap, φ id = some e ∧ a = .slice (some ⟨e.blk, e.base + 0, none⟩) l.length cap := by
        cases hl0 : l.length with
        | zero => exact absurd (List.eq_nil_of_length_eq_zero hl0) h0
        | succ m =>
          rw [hl0] at hv
          cases hv with
          | slice h1 h2 h3 => exact ⟨_, _, h1, rfl⟩
      obtain ⟨e', he', cur, ty', fr, hheap, hcells, hone, hown, _⟩ := hh.obj id _ hob
      rw [he] at he'; cases he'
      obtain ⟨hB, rfl, rfl, hav⟩ := hown rfl
      have hblk : e.blk < w.heap.size := (Array.getElem?_eq_some_iff.1 hheap).1
      have hcur : ∀ k, k < l.length → ∀ x, l[k]? = some x → cur[e.base + k]? = some (.int .i64 x) := by
        intro k hk x hx
        obtain ⟨v', g1, g2⟩ := hcells k (.int .i64 x) (by simp [nats, hx, iv])
        cases g2
        exact g1
      have hzl : zs.length = l.length := by simp [zs]
      have hH : Go.Sort.Holds (Value.int .i64) w e.blk (e.base + 0) zs.toArray := by
        intro j hj
        have hj' : j < l.length := by simpa [zs] using hj
        refine ⟨?_, ?_⟩
        · have := hcur j hj' l[j] (by simp [hj'])
          simp only [World.cell?, hheap]
          simp [this, zs, hj']
        · simp only [World.frozen?, hheap]
          simp
      have hc := sort_ints e.blk (e.base + 0) cap zs w hH hblk (by rw [hzl]; omega)
      rw [hzl] at hc
      refine hc.mono ?_
      rintro en w' ⟨rfl, m, os, rfl⟩
      refine ⟨_, φ, rfl, .tuple rfl (by simp), ?_⟩
      have hs1 : SameMem w (Go.Sort.ahead w m) := ⟨rfl, rfl, rfl, rfl⟩
      have p1 : Post B0 h.next φ h w φ h (Go.Sort.ahead w m) := Post.same hs1 hh
      have hheap1 : (Go.Sort.ahead w m).heap[e.blk]? = some (.cells cur 3 (0, 0)) := hheap
      have hsz1 : (Go.Sort.putRow (Value.int .i64) (Go.Sort.ahead w m) e.blk (e.base + 0) srt.toArray).heap.size = (Go.Sort.ahead w m).heap.size := by simp
      have p2 : Post B0 h.next φ h (Go.Sort.ahead w m) φ (h.put id (.arr true 3 (nats l'))) (Go.Sort.putRow (Value.int .i64) (Go.Sort.ahead w m) e.blk (e.base + 0) srt.toArray) := by
        refine Post.turn (e := e) p1.hr hob rfl he hsz1 ?_ rfl rfl rfl ?_
        · intro b hb
          simp only [Go.Sort.putRow, Go.Sort.mapBlock, Array.getElem?_modify]
          rw [if_neg (Ne.symm hb)]
        · refine ⟨Go.Sort.putCells (Value.int .i64) (e.base + 0) srt.toArray cur, 3, (0, 0), ?_, ?_, ?_, fun _ => ⟨hB, rfl, rfl, by simp [Go.Sort.putCells, hav]⟩, fun q => by cases q⟩
          · simp only [Go.Sort.putRow, Go.Sort.mapBlock, Array.getElem?_modify, if_true, hheap1, Option.map_some, Go.Sort.onCells]
          · intro k v hk
            have hkl : k < l'.length := by
              have := (List.getElem?_eq_some_iff.1 hk).1
              rwa [nats_len] at this
            have hks : k < srt.length := by simpa [l'] using hkl
            refine ⟨.int .i64 srt[k], ?_, ?_⟩
            · simp only [Go.Sort.putCells, Array.getElem?_mapIdx]
              have hc' := hcur k (by omega) l[k] (by simp <;> omega)
              rw [hc']
              simp [hks]
            · rw [nats_map, hl'] at hk
              have : v = .int .i64 srt[k] := by
                rw [List.getElem?_map, List.getElem?_eq_getElem hks] at hk
                exact (Option.some.inj hk).symm
              rw [this]; exact .int _ _
          · intro v hv'
            obtain ⟨x, _, rfl⟩ := List.mem_map.1 hv'
            rfl
      exact (p1.trans p2).trans (Post.grow p2.hr os)
  · exact hq _ l' hperm' hsorted (Nat.le_refl _) (AHeap.put_same _ _ _) (fun i _ hne => AHeap.put_ne _ _ hne)

#print axioms sortC
end Go.Proofs.Ytbcgcnmnblfhmaa
