/- KnotFind: the whole. -/
import Derived.Test.YtbcgcnmnblfhmaaFd5
namespace Go.Proofs.Ytbcgcnmnblfhmaa
open Lin Tar
set_option maxRecDepth 10000
set_option linter.unusedSimpArgs false

set_option maxHeartbeats 4000000 in
theorem kfind_spec {h : AHeap} {G : List (List Int)} {inv : Value} (D : (cSlc (cSlc cZ)).R (· < h.next) h [inv] G) (near : Bool) : ACallW Try.prog 3 [inv, .bool near] h (fun r _ => r = .bool true) := by
  refine acall_begin (fun h0 hn0 st sees => ?_)
  replace D := (cSlc (cSlc cZ)).mono sees D
  clear sees hn0
  refine enter3 ?_
  rw [c3_eq]
  obtain ⟨ip, iq, rfl⟩ := slc_val D
  (refine sw_seq ?_; refine sw_reg mixed ?_; simp [Nat.add_assoc, iv, tab_len, tab_getE, tab_set, Nat.add_one_le_iff, p3_0, params, List.range_succ, *])
  unfold c3_1
  refine sw_seq (sw_seq (sw_reg mixed ?_))
  simp [p3_1]
  refine run_callI 8 [] (by simp) (awake_at ?_)
  by_cases hN : G.length ≤ 25
  · have hN' : ¬ (25 < (G.length : Int)) := by omega
    simp [hN']
    refine sw_cond (b := false) (by simp) ?_
    simp
    refine sw_skip ?_
    simp
    unfold c3_2
    (refine sw_seq ?_; refine sw_reg mixed ?_; simp [Nat.add_assoc, iv, tab_len, tab_getE, tab_set, Nat.add_one_le_iff, p3_3, *])
    unfold c3_3
    (refine sw_seq ?_; refine sw_reg mixed ?_; simp [Nat.add_assoc, iv, tab_len, tab_getE, tab_set, Nat.add_one_le_iff, p3_4, *])
    unfold c3_4
    refine sw_seq (sw_seq ?_)
    (refine sw_reg mixed ?_; simp [Nat.add_assoc, iv, tab_len, tab_getE, tab_set, Nat.add_one_le_iff, p3_5, *])
    refine sw_block ?_
    refine sw_loopB st (by (repeat' first | assumption | exact On.refl _ | refine On.bump ?_ _ | refine On.put ?_ _ ?_ | refine On.del ?_ ?_) <;> (try simp only [AHeap.bump_next, AHeap.put_next, AHeap.del_next]) <;> omega) (fun x : KA => [(0, .slice ip G.length iq), (1, .bool near), (5, iv G.length), (6, x.gv), (7, iv x.i)])
      (fun x h' => x.i ≤ G.length ∧ (∀ l ∈ G.take x.i, l.length ≤ 30) ∧ Mine h0 h' [x.gv] ∧ Bld (cSlc cZ) 24 (NotIn [x.gv]) h' x.gv (fL G.length near G x.i))
      (fun x => G.length - x.i) ⟨0, 0, .slice none 0 0, .slice none 0 0⟩ ?_ ⟨Nat.zero_le _, by simp, mine_none (by (repeat' first | assumption | exact On.refl _ | refine On.bump ?_ _ | refine On.put ?_ _ ?_ | refine On.del ?_ ?_) <;> (try simp only [AHeap.bump_next, AHeap.put_next, AHeap.del_next]) <;> omega) (fun v hv j => by simp at hv; subst hv; exact fun q => q.elim), bld_nil⟩ ?_
    · simp [Covers, iv]
    · rintro ⟨i, _, gv, _⟩ h2 on ⟨hi, hle, Lo, Bg⟩
      simp only at hi hle Lo Bg
      have hnx := on.nxt
      have hwi : IntKind.i64.wrap ((i : Int) + 1) = ((i + 1 : Nat) : Int) := by rw [wrap_in (by omega)]; omega
      have hleH := Hid.mk hle
      clear hle
      refine sw_seq (sw_seq ?_)
      (refine sw_reg mixed ?_; simp [Nat.add_assoc, iv, tab_len, tab_getE, tab_set, Nat.add_one_le_iff, p3_6, *])
      by_cases hlt : i < G.length
      · refine sw_cond (b := true) (by simp; omega) ?_
        simp
        refine sw_skip ?_
        simp
        obtain ⟨r, o, own, ty, k, e1, hr, ho, hk, hrow⟩ := slc_open1 rfl D (by omega)
        cases e1
        obtain ⟨row, hrw⟩ : ∃ row, G[i]? = some row := ⟨_, List.getElem?_eq_getElem hlt⟩
        obtain ⟨u, hu, Du⟩ := hrow i row hrw
        have hu2 := (List.getElem?_eq_some_iff.1 hu).2
        clear hrow
        obtain ⟨p, q, rfl⟩ := slc_val Du
        have ho2 := (on.obj r hr).trans ho
        refine sw_seq (sw_block (sw_seq (sw_seq ?_)))
        (refine sw_reg mixed ?_; simp [Nat.add_assoc, iv, tab_len, tab_getE, tab_set, Nat.add_one_le_iff, p3_8, *])
        by_cases h30 : row.length ≤ 30
        · refine sw_cond (b := false) (by simp; omega) ?_
          simp
          refine sw_skip ?_
          simp
          (refine sw_seq ?_; refine sw_reg mixed ?_; simp [Nat.add_assoc, iv, tab_len, tab_getE, tab_set, Nat.add_one_le_iff, p3_10, *])
          refine sw_cut (fun lv => [(0, .slice (some ⟨r, o, none⟩) G.length 1), (1, .bool near), (5, iv G.length), (6, gv), (7, iv i), (8, lv)]) (fun lv h' => On h2 h' ∧ Bld cZ 3 (fun _ => False) h' lv (fPart G.length near row row.length) ∧ ∀ j, idOf lv j → h2.next ≤ j) (sw_apart (fun h3 hn3 st3 sees3 => ?_)) ?_
          · have hr3 : r < h3.next := by simp at hn3; omega
            obtain ⟨w3, ho3⟩ := sees3.arr (i := r) (by simp; omega) ho2
            have Du3 := (cSlc cZ).mono sees3 (dat_on Du (h := ((h2.bump 3).bump 6).bump 1) (by (repeat' first | assumption | exact On.refl _ | refine On.bump ?_ _ | refine On.put ?_ _ ?_ | refine On.del ?_ ?_) <;> (try simp only [AHeap.bump_next, AHeap.put_next, AHeap.del_next]) <;> omega))
            (refine sw_seq ?_; refine sw_reg mixed ?_; simp [Nat.add_assoc, iv, tab_len, tab_getE, tab_set, Nat.add_one_le_iff, p3_11, *])
            refine sw_block ?_
            refine sw_loopB st3 (by (repeat' first | assumption | exact On.refl _ | refine On.bump ?_ _ | refine On.put ?_ _ ?_ | refine On.del ?_ ?_) <;> (try simp only [AHeap.bump_next, AHeap.put_next, AHeap.del_next]) <;> omega) (fun x : KA => [(0, .slice (some ⟨r, o, none⟩) G.length 1), (1, .bool near), (5, iv G.length), (6, gv), (7, iv i), (8, x.lv), (9, iv x.k)])
              (fun x h' => x.k ≤ row.length ∧ Bld cZ 3 (fun _ => False) h' x.lv (fPart G.length near row x.k))
              (fun x => row.length - x.k) ⟨i, 0, gv, .slice none 0 0⟩ ?_ ⟨Nat.zero_le _, bld_nil⟩ ?_
            · simp [Covers, iv]
            · rintro ⟨_, k1, _, lv⟩ h4 on4 ⟨hk1, Bl⟩
              simp only at hk1 Bl
              have ho4 := (on4.obj r hr3).trans ho3
              have hwk : IntKind.i64.wrap ((k1 : Int) + 1) = ((k1 + 1 : Nat) : Int) := by rw [wrap_in (by omega)]; omega
              refine sw_seq (sw_seq ?_)
              (refine sw_reg mixed ?_; simp [Nat.add_assoc, iv, tab_len, tab_getE, tab_set, Nat.add_one_le_iff, p3_12, *])
              by_cases hk2 : k1 < row.length
              · refine sw_cond (b := true) (by simp; omega) ?_
                simp
                refine sw_skip ?_
                simp
                rcases row_ints Du3 with ⟨_, e⟩ | ⟨e, _⟩ | ⟨_, s, w, _, _, c, e, hs, hso, hsl, _, hget⟩
                · rw [e] at hk2; simp at hk2
                · rw [e] at hk2; simp at hk2
                cases e
                have hg1 := hget k1 (row[k1]) (by simp [hk2])
                have hg3 := (List.getElem?_eq_some_iff.1 hg1).2
                have hso4 := (on4.obj s hs).trans hso
                have hz1 : IntKind.u64.wrap (G.length : Int) = G.length := u64_in (by omega)
                have hz2 : ¬ ((G.length : Int) = 0) := by omega
                have hz2' : ¬ G = [] := by intro e; rw [e] at hlt; simp at hlt
                have hz3 := modn_eq (n := G.length) (by omega) (by omega) (row[k1])
                have hss := hsl
                clear hget
                obtain ⟨L, hL, hA, hr4⟩ := bld_open Bl
                have hi' := fPart_succ (n := G.length) (near := near) hk2
                have hlen := fPart_len (n := G.length) (near := near) hk1
                have fin : Hid _ := ⟨fun h' id m => bld_app (ty := 3) (S' := fun _ => False) (h' := h') (id := id) (m := m) (sz := 1) (x := nearW G.length near row[k1]) (cs := [.int .i64 (nearW G.length near row[k1])]) hL hr4⟩
                rw [← hi', hlen] at fin
                rw [hlen] at hL hA
                replace hL : L.length = k1 := by rw [hL]; simp
                have hb1 : (k1 + 1) * 8 ≤ 140737488355328 := by omega
                replace hi' : Hid _ := ⟨hi'⟩
                clear hr4 hlen Bl
                refine sw_seq (sw_block (sw_seq ?_))
                (refine sw_reg mixed ?_; simp [Nat.add_assoc, iv, tab_len, tab_getE, tab_set, Nat.add_one_le_iff, p3_14, *])
                refine sw_cut (fun _ : Unit => [(0, .slice (some ⟨r, o, none⟩) G.length 1), (1, .bool near), (5, iv G.length), (6, gv), (7, iv i), (8, lv), (9, iv k1), (10, .int .i64 (nearW G.length near row[k1]))]) (fun _ h' => h4.next ≤ h'.next ∧ h'.obj = h4.obj) ?_ ?_
                · refine sw_seq ?_
                  (refine sw_reg mixed ?_; simp [Nat.add_assoc, iv, tab_len, tab_getE, tab_set, Nat.add_one_le_iff, p3_15, *])
                  cases near with
                  | true =>
                    refine sw_cond (b := true) (by simp) ?_
                    simp
                    (refine sw_reg mixed ?_; simp [Nat.add_assoc, iv, tab_len, tab_getE, tab_set, Nat.add_one_le_iff, p3_16, *])
                    refine Cut.mk () (by simp [Covers, nearW]) ⟨by simp; omega, rfl⟩
                  | false =>
                    refine sw_cond (b := false) (by simp) ?_
                    simp
                    refine sw_skip ?_
                    simp
                    refine Cut.mk () (by simp [Covers, nearW]) ⟨by simp; omega, rfl⟩
                · rintro _ h5 ⟨hn5, ho5⟩
                  generalize nearW G.length near row[k1] = wv at *
                  rcases hA with ⟨rfl, rfl, hA⟩ | ⟨wid, c', rfl, hwl, hwo⟩
                  · replace hL : Hid _ := ⟨hL⟩
                    (refine sw_reg mixed ?_; simp [Nat.add_assoc, iv, tab_len, tab_getE, tab_set, Nat.add_one_le_iff, p3_17, *])
                    intro z1
                    (refine sw_reg mixed ?_; simp [Nat.add_assoc, iv, tab_len, tab_getE, tab_set, Nat.add_one_le_iff, p3_13, *])
                    have hk0 : k1 = 0 := by have := hL.out; simpa using this.symm
                    refine ⟨⟨i, k1 + 1, gv, _⟩, by simp [Covers]; rfl, ⟨by simp; omega, ?_⟩, by simp; omega⟩
                    refine fin.out _ _ _ ?_ rfl ?_ ?_ ?_ ⟨[], ?_⟩ (fun _ _ q => q) ?_ rfl
                    · omega
                    · omega
                    · simp; try omega
                    · simp; try omega
                    · simp
                    exact fun _ _ q => q.elim
                  · obtain rfl : L.length = k1 := hL
                    have fw := ne_fresh (Nat.lt_of_lt_of_le hwl hn5)
                    (refine sw_reg mixed ?_; simp [Nat.add_assoc, iv, tab_len, tab_getE, tab_set, Nat.add_one_le_iff, p3_17, *])
                    intro z1
                    (refine sw_reg mixed ?_; simp [Nat.add_assoc, iv, tab_len, tab_getE, tab_set, Nat.add_one_le_iff, p3_13, *])
                    refine ⟨⟨i, L.length + 1, gv, _⟩, by simp [Covers]; rfl, ⟨by simp; omega, ?_⟩, by simp; omega⟩
                    refine fin.out _ _ _ ?_ rfl ?_ ?_ ?_ ⟨[], ?_⟩ (fun _ _ q => q) ?_ rfl
                    · omega
                    · omega
                    · simp; try omega
                    · simp; try omega
                    · simp
                    exact fun _ _ q => q.elim
              · refine sw_cond (b := false) (by simp; omega) ?_
                simp
                refine sw_exit ?_
                simp
                obtain rfl : k1 = row.length := by omega
                intro h5 e1 on5 e2 e3
                obtain ⟨B5, id5⟩ := bld_apart (bld_keep (h' := h4.bump 7) Bl (by simp) (fun _ _ q => q) (fun _ _ _ => rfl)) st3 hn3 (on4.bump 7) e1 (fun i hi => e2 i (by simp at hi; omega)) e3
                exact Cut.mk lv (by simp [Covers]) ⟨((((On.refl h2).bump 3).bump 6).bump 1).trans on5, B5, fun j hj => by have := id5 j hj; simp at this; omega⟩
          · rintro lv h3 ⟨on3, Bl, idl⟩
            have hgl := fL_succ (n := G.length) (near := near) hrw
            have hgn := fL_len (n := G.length) (near := near) hi
            have Lo3 := Lo.cons on3 (w := lv) (fun j hj => ⟨idl j hj, bld_lt Bl j hj⟩)
            have Bg3 := bld_later Bg on3 (notIn_cons idl)
            have Dl := Lo3.done (bld_keep Bl (Nat.le_refl _) (fun _ _ q => q.elim) (fun _ _ _ => rfl))
            obtain ⟨C, hC, hA, hpush⟩ := Lo3.tail.push (k := 0) rfl (bld_keep (S' := NotIn [gv]) Bg3 (Nat.le_refl _) (fun _ _ q => notIn_tail q) (fun _ _ _ => rfl))
            obtain ⟨lp, lq, rfl⟩ := bld_val Bl
            have hfl := fPart_len (n := G.length) (near := near) (Nat.le_refl row.length)
            clear Bl idl Lo3 Bg3 Bg Lo
            generalize hfr : fPart G.length near row row.length = fr at *
            rw [hfl] at Dl ⊢
            have fin : Hid _ := ⟨fun h' id m g hm hid hlt ho => hpush h' id m 1 fr [.slice lp row.length lq] [] g hm rfl hid hlt ho (fun s => (cSlc cZ).mono s Dl)⟩
            rw [← hgl, hgn] at fin
            rw [hgn] at hC hA
            replace hC : C.length = i := by rw [hC]; simp
            have hb1 : (i + 1) * 24 ≤ 140737488355328 := by omega
            have hle2 : Hid (∀ l ∈ G.take (i + 1), l.length ≤ 30) := ⟨fun l hl => by
              rw [List.take_add_one, hrw, Option.toList_some, List.mem_append, List.mem_singleton] at hl
              rcases hl with hl | rfl
              · exact hleH.out l hl
              · exact h30⟩
            replace hgl := Hid.mk hgl
            replace hgn := Hid.mk hgn
            replace hfr := Hid.mk hfr
            clear hpush Dl
            rcases hA with ⟨rfl, rfl, hA⟩ | ⟨wid, c', rfl, hwl, hwo⟩
            · replace hC : Hid _ := ⟨hC⟩
              clear hA
              (refine sw_reg mixed ?_; simp [Nat.add_assoc, iv, tab_len, tab_getE, tab_set, Nat.add_one_le_iff, p3_18, *])
              intro z1
              (refine sw_reg mixed ?_; simp [Nat.add_assoc, iv, tab_len, tab_getE, tab_set, Nat.add_one_le_iff, p3_7, *])
              have q := fin.out ((((h3.bump 5).put (h3.next + 2) (.arr true 24 [.slice lp row.length lq])).put (h3.next + 3) (.arr true 24 [.slice lp row.length lq]))) (h3.next + 3) 1 (by refine ⟨by simp; try omega, fun j hj hne => ?_⟩; have fj := ne_fresh hj; simp [fj, Nat.add_assoc]; try (intro e; exact absurd e hne)) (by have := hC.out; simp at this; omega) (by omega) (by simp; try omega) (by simp)
              exact ⟨⟨i + 1, 0, .slice (some ⟨h3.next + 3, 0, none⟩) 1 1, .slice none 0 0⟩, by simp [Covers], ⟨by simp <;> omega, hle2.out, q.1.same (by simp) rfl, bld_same q.2.1 (by simp) rfl⟩, by simp; omega⟩
            · obtain rfl : C.length = i := hC
              have fw := ne_fresh hwl
              (refine sw_reg mixed ?_; simp [Nat.add_assoc, iv, tab_len, tab_getE, tab_set, Nat.add_one_le_iff, p3_18, *])
              intro z1
              (refine sw_reg mixed ?_; simp [Nat.add_assoc, iv, tab_len, tab_getE, tab_set, Nat.add_one_le_iff, p3_7, *])
              have q := fin.out ((((h3.bump 5).put (h3.next + 2) (.arr true 24 [.slice lp row.length lq])).del wid).put (h3.next + 3) (.arr true 24 (C ++ [.slice lp row.length lq]))) (h3.next + 3) (C.length + 1) (by refine ⟨by simp; try omega, fun j hj hne => ?_⟩; have fj := ne_fresh hj; simp [fj, Nat.add_assoc]; try (intro e; exact absurd e hne)) rfl (by omega) (by simp; try omega) (by simp)
              exact ⟨⟨C.length + 1, 0, .slice (some ⟨h3.next + 3, 0, none⟩) (C.length + 1) 1, .slice none 0 0⟩, by simp [Covers], ⟨by simp <;> omega, hle2.out, q.1.same (by simp) rfl, bld_same q.2.1 (by simp) rfl⟩, by simp; omega⟩
        · refine sw_cond (b := true) (by simp; omega) ?_
          simp
          (refine sw_seq ?_; refine sw_reg mixed ?_; simp [Nat.add_assoc, iv, tab_len, tab_getE, tab_set, Nat.add_one_le_iff, p3_9, *])
          refine sw_ret ?_
          simp
      · refine sw_cond (b := false) (by simp; omega) ?_
        simp
        refine sw_exit ?_
        simp
        obtain rfl : i = G.length := by omega
        have hgn := fL_len (n := G.length) (near := near) (Nat.le_refl G.length)
        refine sw_begin (fun h3 hn3 st3 sees3 => ?_)
        have Dg := (cSlc (cSlc cZ)).mono sees3 (bld_done (bld_same (h' := h2.bump 3) Bg (by simp) rfl))
        have key := find_t5 st3 (On.refl h3) (by omega) Dg (fun l hl => by
          obtain ⟨row, hm, rfl⟩ := List.mem_map.1 hl
          have := hleH.out row hm
          rw [fPart_len (Nat.le_refl _)]; omega)
        rw [hgn] at key
        exact key.sub (Covers.sub (by simp [Covers, iv]))
  · have hN' : (25 : Int) < G.length := by omega
    simp [hN']
    refine sw_cond (b := true) (by simp) ?_
    simp
    refine sw_seq (sw_reg mixed ?_)
    simp [p3_2]
    refine run_callI 8 [] (by simp) (awake_at ?_)
    simp
    refine sw_ret ?_
    simp

end Go.Proofs.Ytbcgcnmnblfhmaa
