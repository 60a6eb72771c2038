/- append, copy, and stores into maps: the model does what aEff says. -/
import Derived.Test.YtbcgcnmnblfhmaaLin8
namespace Go.Proofs.Ytbcgcnmnblfhmaa.Lin
variable {P : Program} {φ : Nat → Option Emb} {B0 : Nat → Prop}

/-- append, where there is room. -/
theorem run_room {t u ty el : TypeId} {i : TypeInfo} {d : TypeDesc} (ht : P.underlying t = some (.slice el)) (hu : P.underlying u = some d) (hd : (∃ q, d = .slice q) ∨ d = .string) (hi : P.info? el = some i)
    {b : Option Addr} {sLen sCap m : Nat} {x' : Value} {w w' : World} {news' : List Value} (hl : (Builtin.lenOf x').run P w = .ok m w) (hf : (Builtin.firstCells i.size m x').run P w = .ok news'.toArray w)
    (hroom : sLen + m ≤ sCap) (hs : ∀ a, b = some a → (storeCells (a.add (sLen * i.size)) news').run P w = .ok () w') (hn : b = none → w' = w) :
    (Builtin.append_ #[t, u] ty #[.slice b sLen sCap, x']).run P w = .ok (.slice b (sLen + m) sCap) w' := by
  cases b with
  | none =>
    have := hn rfl
    subst this
    rcases hd with ⟨q, rfl⟩ | rfl <;> simp [Builtin.append_, run_underlying ht, run_underlying hu, sizeOf, typeInfo, hi, hl, hroom, hf]
  | some a =>
    have := hs a rfl
    rcases hd with ⟨q, rfl⟩ | rfl <;> simp [Builtin.append_, run_underlying ht, run_underlying hu, sizeOf, typeInfo, hi, hl, hroom, hf, this]

/-- append, where there is none. -/
theorem run_grow {t u ty el : TypeId} {i : TypeInfo} {d : TypeDesc} {z : Value} (ht : P.underlying t = some (.slice el)) (hu : P.underlying u = some d) (hd : (∃ q, d = .slice q) ∨ d = .string) (hi : P.info? el = some i)
    (hz0 : i.zero = some z) {b : Option Addr} {sLen sCap m : Nat} {x' : Value} {w : World} {news' olds' : List Value} (hl : (Builtin.lenOf x').run P w = .ok m w)
    (hf : ∀ w1, SameMem w w1 → (Builtin.firstCells i.size m x').run P w1 = .ok news'.toArray w1) (ho : ∀ w1, SameMem w w1 → (Builtin.firstCells i.size sLen (.slice b sLen sCap)).run P w1 = .ok olds'.toArray w1)
    (hroom : sCap < sLen + m) (hby : 0 < i.bytes) (h47 : (sLen + m) * i.bytes ≤ 140737488355328) :
    (Builtin.append_ #[t, u] ty #[.slice b sLen sCap, x']).run P w =
      .ok (.slice (some ⟨w.heap.size, 0, none⟩) (sLen + m) (grownCap w (sLen + m) sCap el))
        (w.drew.alloc (.cells (olds'.toArray ++ news'.toArray ++ Builtin.zeroCells z.cells (grownCap w (sLen + m) sCap el - (sLen + m))) el)) := by
  have hn : ¬ (sLen + m ≤ sCap) := by omega
  have hb0 : i.bytes ≠ 0 := by omega
  have hfit := growslice_fits (bytes := i.bytes) hroom h47
  have h48 : ¬ (281474976710656 < Builtin.nextslicecap (sLen + m) sCap * i.bytes) := by omega
  have hf' := hf w.drew (SameMem.drew w)
  have ho' := ho w.drew (SameMem.drew w)
  rcases hd with ⟨q, rfl⟩ | rfl
  all_goals
    simp [Builtin.append_, run_underlying ht, run_underlying hu, sizeOf, typeInfo, zeroValue, hi, hz0, hl, hn, hb0, h48, Question.forced, hf', ho', newRow, grownCap]
    congr 2
    apply Array.ext'
    simp [List.append_assoc]

theorem zeroCells_size (z : Array Value) (n : Nat) : (Builtin.zeroCells z n).size = n * z.size := by simp [Builtin.zeroCells]

/-- A new row, of which the beginning is told. -/
theorem grown_post {h : AHeap} {w : World} {N id : Nat} {el : TypeId} {cells : List Value} {cells' rest : List Value} {cap len sz : Nat} (hh : HR B0 φ h w) (hφ : φ id = none) (hid : h.obj id = none) (hlt : id < h.next) (hN : N ≤ id)
    (hc : VRs φ cells cells') (hone : oneAll cells = true) (hlen : cells.length = len * sz) (hcap : len ≤ cap) (hrest : rest.length = (cap - len) * sz) :
    VR (upE φ id ⟨w.heap.size, 0, cap * sz⟩) (.slice (some ⟨id, 0, none⟩) len sz) (.slice (some ⟨w.heap.size, 0, none⟩) len cap) ∧
      Post B0 N φ h w (upE φ id ⟨w.heap.size, 0, cap * sz⟩) (h.put id (.arr true el cells)) (w.drew.alloc (.cells (cells' ++ rest).toArray el)) := by
  have hsize : cap * sz = (cells' ++ rest).toArray.size := by
    rw [List.size_toArray, List.length_append, ← hc.1, hlen, hrest, ← Nat.add_mul]
    congr 1; omega
  refine ⟨?_, ?_⟩
  · have := VR.slice (φ := upE φ id ⟨w.heap.size, 0, cap * sz⟩) (off := 0) (len := len) (cap := cap) (esz := sz) (upE_same φ id _) hcap (by simp)
    simpa using this
  · refine Post.alloc hh (SameMem.drew w) hφ hid hlt hN ?_
    refine ⟨(cells' ++ rest).toArray, el, (0, 0), ?_, ?_, ?_, fun _ => ⟨hh.new, rfl, rfl, by simp only [Nat.zero_add]; exact hsize⟩, fun h => by cases h⟩
    · exact heap_alloc_new w.drew _
    · intro k v hk
      obtain ⟨v', q1, q2⟩ := hc.get hk
      refine ⟨v', ?_, q2.mono (upE_le hφ)⟩
      have : k < cells'.length := (List.getElem?_eq_some_iff.1 q1).1
      simp only [Nat.zero_add, List.getElem?_toArray]
      rw [List.getElem?_append_left this]; exact q1
    · intro v hv
      exact List.all_eq_true.1 hone v hv

/-- A stretch of a row goes on in its own block. -/
theorem room_post {h : AHeap} {w : World} {N id i : Nat} {ty : TypeId} {c news news' : List Value} {e : Emb} {off len m sz cap : Nat} (hh : HR B0 φ h w) (ho : h.obj i = some (.arr true ty c)) (he : φ i = some e)
    (hφ : φ id = none) (hid : h.obj id = none) (hlt : id < h.next) (hN : N ≤ id)
    (hc : off + len * sz ≤ c.length) (hnews : VRs φ news news') (hone : oneAll news = true) (hnl : news.length = m * sz) (hroom : len + m ≤ cap) (hav : off + cap * sz ≤ e.avail) :
    ∃ w', (storeCells ((⟨e.blk, e.base + off, none⟩ : Addr).add (len * sz)) news').run P w = .ok () w' ∧
      VR (upE φ id ⟨e.blk, e.base + off, e.avail - off⟩) (.slice (some ⟨id, 0, none⟩) (len + m) sz) (.slice (some ⟨e.blk, e.base + off, none⟩) (len + m) cap) ∧
      Post B0 N φ h w (upE φ id ⟨e.blk, e.base + off, e.avail - off⟩) ((h.del i).put id (.arr true ty ((c.drop off).take (len * sz) ++ news))) w' := by
  obtain ⟨e', q1, q2⟩ := hh.obj _ _ ho
  rw [he] at q1; cases q1
  obtain ⟨cur, ty', fr, h1, h2, h3, h4, h5⟩ := q2
  obtain ⟨g1, rfl, rfl, g4⟩ := h4 rfl
  have hcapsz : (len + m) * sz ≤ cap * sz := Nat.mul_le_mul_right _ hroom
  rw [Nat.add_mul] at hcapsz
  have hfit : e.base + off + len * sz + news'.length ≤ cur.size := by rw [← hnews.1, hnl]; omega
  have hone' : ∀ v ∈ news', v.oneCell' = true := by
    intro v hv'
    obtain ⟨k, hk, rfl⟩ := List.mem_iff_getElem.1 hv'
    have hl := hnews.1
    have hk' : k < news.length := by omega
    rw [(hnews.2 k news[k] news'[k] (by simp [hk']) (by simp [hk])).one]
    exact List.all_eq_true.1 hone _ (by simp)
  have hst := run_storeCells_at P e.blk (e.base + off + len * sz) ty' news' 0 cur w h1 (by simpa using hfit) hone'
  simp only [Nat.add_zero] at hst
  rw [add_eq]
  refine ⟨_, hst, ?_, ?_⟩
  · have := VR.slice (φ := upE φ id ⟨e.blk, e.base + off, e.avail - off⟩) (off := 0) (len := len + m) (cap := cap) (esz := sz) (upE_same φ id _) hroom (by simp; omega)
    simpa using this
  · refine Post.move hh ho rfl he rfl hφ hid hlt hN (size_setRow _ _ _) (fun b hb => setRow_other w _ b _ hb) rfl rfl rfl ?_
    refine ⟨_, ty', (0, 0), setRow_heap w e.blk cur _ ty' (0, 0) h1, ?_, ?_, fun _ => ⟨g1, rfl, rfl, ?_⟩, fun h => by cases h⟩
    · intro k v hk
      show ∃ v', (_ : Array Value)[e.base + off + k]? = some v' ∧ _
      rw [over_get cur (e.base + off + len * sz) news' hfit]
      have htl : ((c.drop off).take (len * sz)).length = len * sz := by rw [List.length_take, List.length_drop]; omega
      by_cases hk1 : k < len * sz
      · rw [List.getElem?_append_left (by omega), List.getElem?_take, if_pos hk1, List.getElem?_drop] at hk
        obtain ⟨v', r1, r2⟩ := h2 (off + k) v hk
        exact ⟨v', by rw [if_pos (by omega), Nat.add_assoc]; exact r1, r2.mono (upE_le hφ)⟩
      · rw [List.getElem?_append_right (by omega), htl] at hk
        obtain ⟨v', r1, r2⟩ := hnews.get hk
        have hk2 : k - len * sz < news'.length := (List.getElem?_eq_some_iff.1 r1).1
        refine ⟨v', ?_, r2.mono (upE_le hφ)⟩
        rw [if_neg (by omega), if_pos (by omega), show e.base + off + k - (e.base + off + len * sz) = k - len * sz by omega]
        exact r1
    · intro v hv
      rcases List.mem_append.1 hv with hv | hv
      · exact h3 v (List.mem_of_mem_drop (List.mem_of_mem_take hv))
      · exact List.all_eq_true.1 hone v hv
    · simp only [List.size_toArray, List.length_append, List.length_take, List.length_drop, Array.length_toList]
      omega

theorem append_sound {o : Oper} {c : Call} (hop : o.op = .call c) {x y : Operand} (hcal : c.callee = .builtin .append) (hargs : c.args.toList = [x, y]) {e : FEnv} {a : Act} {n N id : Nat} {v : Value} {h h' : AHeap} {w : World}
    (he : ER φ e a.tmps n) (hh : HR B0 φ h w) (hφ : φ id = none) (hid : h.obj id = none) (hlt : id < h.next) (hN : N ≤ id) (hv : aEff P (.call c) e id h = some (v, h')) :
    ∃ v' φ' w', Runs P a o w v' w' ∧ VR φ' v v' ∧ (∀ j, j ≠ id → φ' j = φ j) ∧ Post B0 N φ h w φ' h' w' := by
  have hA : c.args = #[x, y] := Array.toList_inj.1 (by simpa using hargs)
  simp only [aEff, hcal, hargs] at hv
  split at hv
  · rename_i el d s z ht1 ht2 hx hy
    rw [Option.bind_eq_some_iff] at ht1 ht2
    obtain ⟨t, ht, htu⟩ := ht1
    obtain ⟨u, hu, huu⟩ := ht2
    have hex : ∀ {v' w'}, (Builtin.append_ c.argTypes o.type #[a.eval x, a.eval y]).run P w = .ok v' w' → Runs P a o w v' w' := by
      intro v' w' g
      left
      unfold execOp
      simp only [hop, resolve, hcal, invoke, builtin, hA, Sem.run_bind, Sem.run_pure, Result.andThen_ok, List.map_toArray, List.map_cons, List.map_nil, g]
    have hty : (Builtin.append_ c.argTypes o.type #[a.eval x, a.eval y]) = Builtin.append_ #[t, u] o.type #[a.eval x, a.eval y] := by
      unfold Builtin.append_
      simp only [ht, hu, List.getElem?_toArray, List.getElem?_cons_zero, List.getElem?_cons_succ]
    rw [hty] at hex
    split at hv
    · rename_i i hi
      split at hv
      · rename_i zv hz
        split at hv
        · rename_i hc
          simp only [Bool.and_eq_true, decide_eq_true_eq, beq_iff_eq] at hc
          obtain ⟨⟨⟨hd, hsz⟩, hby⟩, hzs⟩ := hc
          have hd : (∃ q, d = .slice q) ∨ d = .string := by cases d <;> simp_all [srcOk]
          split at hv
          · rename_i news m hsrc
            obtain ⟨hl, hnl, hone, news', hrel, hfc⟩ := aSrc_sound (P := P) hh hsrc (he.eval hy)
            have hnl' : news'.length = m * i.size := by rw [← hrel.1, hnl]
            have hfc' : ∀ w1, SameMem w w1 → (Builtin.firstCells i.size m (a.eval y)).run P w1 = .ok news'.toArray w1 := fun w1 hs => by
              rw [hfc m (Nat.le_refl _) w1 hs, List.take_of_length_le (by omega)]
            have hx' := he.eval hx
            split at hv
            · rename_i hm
              have hm0 : m = 0 := by simpa using hm
              subst hm0
              have hn0 : news' = [] := List.eq_nil_of_length_eq_zero (by omega)
              subst hn0
              have hsame : ∀ b l cp, a.eval x = .slice b l cp → l ≤ cp → Runs P a o w (.slice b l cp) w := by
                intro b l cp hb hle
                refine hex ?_
                rw [hb]
                exact run_room htu huu hd hi hl (hfc' w (SameMem.refl w)) (by omega) (fun a _ => rfl) (fun _ => rfl)
              split at hv
              · cases hv
                generalize hux : a.eval x = ux at *
                cases hx'
                exact ⟨_, φ, w, hsame none 0 0 rfl (Nat.le_refl _), .sliceNil, fun _ _ => rfl, Post.refl hh⟩
              · cases hv
                generalize hux : a.eval x = ux at *
                cases hx' with
                | slice g1 g2 g3 => exact ⟨_, φ, w, hsame _ _ _ rfl g2, .slice g1 g2 g3, fun _ _ => rfl, Post.refl hh⟩
                | sliceZero => exact ⟨_, φ, w, hsame _ _ _ rfl (Nat.le_refl _), .sliceZero, fun _ _ => rfl, Post.refl hh⟩
              · cases hv
            · rename_i hm
              have hm0 : m ≠ 0 := by simpa using hm
              have hgrow : ∀ (b : Option Addr) (len cap : Nat) (olds olds' : List Value) (h1 : AHeap), a.eval x = .slice b len cap → cap < len + m → (len + m) * i.bytes ≤ 140737488355328 → VRs φ olds olds' → oneAll olds = true → olds.length = len * i.size →
                  (∀ w1, SameMem w w1 → (Builtin.firstCells i.size len (.slice b len cap)).run P w1 = .ok olds'.toArray w1) →
                  HR B0 φ h1 w → h1.obj id = none → h1.next = h.next →
                  ∃ v' φ' w', Runs P a o w v' w' ∧ VR φ' (.slice (some ⟨id, 0, none⟩) (len + m) i.size) v' ∧ (∀ j, j ≠ id → φ' j = φ j) ∧ Post B0 N φ h1 w φ' (h1.put id (.arr true el (olds ++ news))) w' := by
                intro b len cap olds olds' h1 hb hcap h47 holds hone2 holen hfo hh1 hid1 hnx
                have hr := run_grow (ty := o.type) htu huu hd hi hz hl hfc' hfo hcap hby h47
                have hge := grownCap_ge w (len + m) cap el
                obtain ⟨p1, p2⟩ := grown_post (N := N) (id := id) (el := el) (cells := olds ++ news) (cells' := olds' ++ news') (rest := (Builtin.zeroCells zv.cells (grownCap w (len + m) cap el - (len + m))).toList)
                  (cap := grownCap w (len + m) cap el) (len := len + m) (sz := i.size) hh1 hφ hid1 (by omega) hN (holds.append hrel)
                  (by unfold oneAll at *; rw [List.all_append, hone2, hone]; rfl) (by rw [List.length_append, holen, hnl, Nat.add_mul]) hge (by rw [Array.length_toList, zeroCells_size, hzs])
                have harr : (olds'.toArray ++ news'.toArray ++ Builtin.zeroCells zv.cells (grownCap w (len + m) cap el - (len + m))) = (olds' ++ news' ++ (Builtin.zeroCells zv.cells (grownCap w (len + m) cap el - (len + m))).toList).toArray := by
                  apply Array.ext'; simp
                rw [harr] at hr
                exact ⟨_, _, _, hex (by rw [hb]; exact hr), p1, fun j hj => upE_ne _ _ hj, p2⟩
              split at hv
              · split at hv
                · rename_i h47
                  cases hv
                  have hux : a.eval x = .slice none 0 0 := by cases hg : a.eval x <;> rw [hg] at hx' <;> cases hx' <;> rfl
                  have := hgrow none 0 0 [] [] h hux (by omega) (by simpa using h47) VRs.nil rfl (by simp) (fun w1 _ => by simp [Builtin.firstCells]) hh hid rfl
                  simpa using this
                · cases hv
              · rename_i j off len esz
                split at hv
                · rename_i ty cc hob
                  split at hv
                  · rename_i hcnd
                    obtain ⟨rfl, rfl, hlen, h47⟩ := hcnd
                    cases hv
                    have hne : id ≠ j := fun g => by rw [g, hob] at hid; cases hid
                    have hd1 : (h.del j).obj id = none := by rw [AHeap.del_ne _ hne]; exact hid
                    have hpd := Post.del (N := N) hh j
                    generalize hux : a.eval x = ux at *
                    cases hx' with
                    | @slice _ _ _ _ cap e' g1 g2 g3 =>
                      by_cases hroom : len + m ≤ cap
                      · obtain ⟨w', q1, q2, q3⟩ := room_post (P := P) (N := N) (id := id) hh hob g1 hφ hid hlt hN hlen hrel hone hnl hroom g3
                        refine ⟨_, _, w', hex ?_, q2, fun j hj => upE_ne _ _ hj, q3⟩
                        exact run_room htu huu hd hi hl (hfc' w (SameMem.refl w)) hroom (fun a ha => by cases ha; exact q1) (fun h => by cases h)
                      · obtain ⟨e'', r1, r2⟩ := hh.obj _ _ hob
                        rw [g1] at r1; cases r1
                        obtain ⟨l', s1, s2, s3, s4⟩ := row_cells r2 hlen
                        have hone2 : oneAll ((cc.drop off).take (len * i.size)) = true := by
                          unfold oneAll
                          rw [List.all_eq_true]
                          obtain ⟨_, _, _, _, _, h3, _⟩ := r2
                          exact fun x hx => h3 x (List.mem_of_mem_drop (List.mem_of_mem_take hx))
                        obtain ⟨v', φ', w', p1, p2, p3, p4⟩ := hgrow (some ⟨e'.blk, e'.base + off, none⟩) len cap ((cc.drop off).take (len * i.size)) l' (h.del j) rfl (by omega) h47 s2 hone2 (by rw [List.length_take, List.length_drop]; omega)
                          (fun w1 hs => run_firstCells_some (P := P) w1 i.size len _ len cap l' s1 (fun k u hu => by have := s3 k u hu; simp only [World.cell?, hs.heap] at this ⊢; exact this)) hpd.hr hd1 rfl
                        exact ⟨v', φ', w', p1, p2, p3, hpd.trans p4⟩
                    | @sliceZero _ _ _ a0 =>
                      obtain ⟨v', φ', w', p1, p2, p3, p4⟩ := hgrow (some a0) 0 0 [] [] (h.del j) rfl (by omega) (by simpa using h47) VRs.nil rfl (by simp)
                        (fun w1 hs => by simp [Builtin.firstCells, loadCells, loadCellsFrom]) hpd.hr hd1 rfl
                      refine ⟨v', φ', w', p1, p2, p3, ?_⟩
                      simpa using hpd.trans p4
                  · cases hv
                · cases hv
              · cases hv
          · cases hv
        · cases hv
      · cases hv
    · cases hv
  · cases hv

end Go.Proofs.Ytbcgcnmnblfhmaa.Lin
