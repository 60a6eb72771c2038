/- KnotKeeps. -/
import Derived.Test.YtbcgcnmnblfhmaaRl2
import Derived.Test.YtbcgcnmnblfhmaaK5
namespace Go.Proofs.Ytbcgcnmnblfhmaa
open Lin Tar
set_option maxRecDepth 10000
set_option linter.unusedSimpArgs false

/-- A row of ints that is read, whole. -/
theorem row_ints {S : Nat → Prop} {h : AHeap} {v : Value} {l : List Int} (D : (cSlc cZ).R S h [v] l) : (v = .slice none 0 0 ∧ l = []) ∨ (l = [] ∧ ∃ r o, v = .slice (some ⟨r, o, none⟩) 0 1) ∨
    0 < l.length ∧ ∃ r o own ty k, v = .slice (some ⟨r, o, none⟩) l.length 1 ∧ S r ∧ h.obj r = some (.arr own ty k) ∧ o + l.length ≤ k.length ∧ (k.drop o).take l.length = l.map (Value.int .i64) ∧ ∀ i x, l[i]? = some x → k[o + i]? = some (.int .i64 x) := by
  rcases slc_cases D with ⟨rfl, rfl⟩ | ⟨rfl, r, o, rfl⟩ | ⟨hl, _⟩
  · exact .inl ⟨rfl, rfl⟩
  · exact .inr (.inl ⟨rfl, r, o, rfl⟩)
  · obtain ⟨r, o, own, ty, k, rfl, h2, h3, h4, h5⟩ := slc_open1 rfl D hl
    have h6 : ∀ i x, l[i]? = some x → k[o + i]? = some (.int .i64 x) := by
      intro i x hx
      obtain ⟨u, h6, h7⟩ := h5 i x hx
      have h8 : u = .int .i64 x := by simpa [cZ] using h7
      rw [h6, h8]
    refine .inr (.inr ⟨hl, r, o, own, ty, k, rfl, h2, h3, h4, ?_, h6⟩)
    apply List.ext_getElem?
    intro i
    rw [List.getElem?_take, List.getElem?_map]
    by_cases hi : i < l.length
    · rw [if_pos hi, List.getElem?_drop, h6 i l[i] (by simp [hi]), List.getElem?_eq_getElem hi]; rfl
    · rw [if_neg hi, List.getElem?_eq_none (by omega)]; rfl

theorem ints_mk {S : Nat → Prop} {h : AHeap} {r m : Nat} {l : List Int} {own : Bool} {ty : TypeId} (t : List Value) (hs : S r) (ho : h.obj r = some (.arr own ty (l.map (Value.int .i64) ++ t))) (hm : m = l.length) :
    (cSlc cZ).R S h [.slice (some ⟨r, 0, none⟩) m 1] l := by
  subst hm
  refine ⟨_, _, rfl, .inr ⟨r, 0, rfl, rfl, fun _ => ⟨hs, own, ty, _, ho, by simp, fun i x hx => ?_⟩⟩⟩
  have hi := (List.getElem?_eq_some_iff.1 hx).1
  show ((l.map (Value.int .i64) ++ t).drop (0 + i * 1)).take 1 = _
  rw [Nat.zero_add, Nat.mul_one, take_one (by simp; omega), List.getElem_append_left (by simpa using hi), List.getElem_map]
  rw [(List.getElem?_eq_some_iff.1 hx).2]

structure KG where
  i : Nat
  wv : Value

theorem keeps_spec {h : AHeap} {G : List (List Int)} {inv : Value} (D : (cSlc (cSlc cZ)).R (· < h.next) h [inv] G) : ACallW Try.prog 5 [inv] h (fun r _ => r = .bool true) := by
  refine acall_begin (fun h0 hn0 st sees => ?_)
  replace D := (cSlc (cSlc cZ)).mono sees D
  clear sees hn0
  refine enter5 ?_
  unfold c5
  obtain ⟨ip, iq, rfl⟩ := slc_val D
  (refine sw_seq ?_; refine sw_reg mixed ?_; simp [Nat.add_assoc, iv, tab_len, tab_getE, tab_set, Nat.add_one_le_iff, p5_0, params, List.range_succ, *])
  refine sw_seq (sw_seq (sw_reg mixed ?_))
  simp [p5_1]
  refine run_callI 8 [] (by simp) (awake_at ?_)
  by_cases hN : G.length ≤ 20
  · have hN' : ¬ (20 < (G.length : Int)) := by omega
    simp [hN']
    refine sw_cond (b := false) (by simp) ?_
    simp
    refine sw_skip ?_
    simp
    (refine sw_seq ?_; refine sw_reg mixed ?_; simp [Nat.add_assoc, iv, tab_len, tab_getE, tab_set, Nat.add_one_le_iff, p5_3, *])
    refine sw_seq (sw_seq ?_)
    (refine sw_reg mixed ?_; simp [Nat.add_assoc, iv, tab_len, tab_getE, tab_set, Nat.add_one_le_iff, p5_4, *])
    refine sw_block ?_
    refine sw_loopB st (by (repeat' first | assumption | exact On.refl _ | refine On.bump ?_ _ | refine On.put ?_ _ ?_ | refine On.del ?_ ?_) <;> (try simp only [AHeap.bump_next, AHeap.put_next, AHeap.del_next]) <;> omega) (fun x : KG => [(0, .slice ip G.length iq), (2, .bool false), (3, x.wv), (4, iv x.i)])
      (fun x h' => x.i ≤ G.length ∧ (∀ l ∈ G.take x.i, l.length ≤ 30) ∧ Bld (cSlc cZ) 24 (h0.next ≤ ·) h' x.wv (G.take x.i))
      (fun x => G.length - x.i) ⟨0, .slice none 0 0⟩ ?_ ⟨Nat.zero_le _, by simp, by simpa using bld_nil⟩ ?_
    · simp [Covers, iv]
    · rintro ⟨i, wv⟩ h2 on ⟨hi, hle, B⟩
      simp only at hi hle B
      have hwi : IntKind.i64.wrap ((i : Int) + 1) = ((i + 1 : Nat) : Int) := by rw [wrap_in (by omega)]; omega
      refine sw_seq (sw_seq ?_)
      (refine sw_reg mixed ?_; simp [Nat.add_assoc, iv, tab_len, tab_getE, tab_set, Nat.add_one_le_iff, p5_5, *])
      have hnx := on.nxt
      by_cases hlt : i < G.length
      · refine sw_cond (b := true) (by simp; omega) ?_
        simp
        refine sw_skip ?_
        simp
        obtain ⟨r, o, own, ty, k, e1, hr, ho, hk, hrow⟩ := slc_open1 rfl D (by omega)
        cases e1
        obtain ⟨u, hu, Du⟩ := hrow i G[i] (by simp [hlt])
        obtain ⟨p, q, rfl⟩ := slc_val Du
        have ho2 : h2.obj r = some (.arr own ty k) := (on.obj r hr).trans ho
        have hu2 := (List.getElem?_eq_some_iff.1 hu).2
        have hH : Hid _ := ⟨And.intro hrow hle⟩
        clear hrow hle
        refine sw_seq (sw_block (sw_seq (sw_seq ?_)))
        (refine sw_reg mixed ?_; simp [Nat.add_assoc, iv, tab_len, tab_getE, tab_set, Nat.add_one_le_iff, p5_7, *])
        by_cases h30 : G[i].length ≤ 30
        · refine sw_cond (b := false) (by simp; omega) ?_
          simp
          refine sw_skip ?_
          simp
          obtain ⟨L, hL, hA, hr⟩ := bld_open B
          have hi' : G.take (i + 1) = G.take i ++ [G[i]] := by rw [List.take_add_one, List.getElem?_eq_getElem hlt]; rfl
          have fin : Hid _ := ⟨fun (u : Value) h' id m => bld_app (ty := 24) (S' := (h0.next ≤ ·)) (h' := h') (id := id) (m := m) (sz := 1) (x := G[i]) (cs := [u]) hL hr⟩
          rw [← hi'] at fin
          have hle' : Hid (∀ l ∈ G.take (i + 1), l.length ≤ 30) := ⟨fun l hl => by
            rw [hi', List.mem_append, List.mem_singleton] at hl
            rcases hl with hl | rfl
            · exact hH.out.2 l hl
            · exact h30⟩
          replace hi' : Hid _ := ⟨hi'⟩
          clear hr
          have hlen : (G.take i).length = i := by simp; omega
          rw [hlen] at hA
          replace hL : L.length = i := by rw [hL, hlen]; simp
          generalize hg : G[i] = row at *
          have hb1 : (i + 1) * 24 ≤ 140737488355328 := by omega
          have hb2 : row.length * 8 ≤ 140737488355328 := by omega
          rcases hA with ⟨rfl, rfl, hA⟩ | ⟨wid, c, rfl, hwl, hwo⟩ <;> rcases row_ints Du with ⟨e, rfl⟩ | ⟨rfl, r', o', e⟩ | ⟨hpos, r', o', own', ty', k', e, hr', ho', hk', htk, _⟩ <;> cases e
          all_goals first | (obtain rfl : L.length = i := hL) | (replace hL : Hid _ := ⟨hL⟩)
          all_goals try (have fr' := ne_fresh (t := r') (n := h2.next) (by omega); have ho2' := (on.obj r' hr').trans ho')
          all_goals try (have fw := ne_fresh hwl)
          all_goals try (have hne : ¬ row = [] := List.length_pos_iff.1 hpos)
          all_goals (refine sw_reg mixed ?_; simp [Nat.add_assoc, iv, tab_len, tab_getE, tab_set, Nat.add_one_le_iff, p5_9, *])
          all_goals intros
          all_goals (refine sw_reg mixed ?_; simp [Nat.add_assoc, iv, tab_len, tab_getE, tab_set, Nat.add_one_le_iff, p5_6, *])
          all_goals refine ⟨⟨_ + 1, _⟩, by simp [Covers]; rfl, ⟨by simp; omega, hle'.out, ?_⟩, by simp; omega⟩
          all_goals first
            | refine fin.out (.slice none 0 0) _ _ _ (by first | (rw [hlen]; done) | (rw [hlen]; have := hL.out; simp at this; omega)) rfl (by omega) (by simp; try omega) (by simp; try omega) ⟨[], by simp⟩ (fun _ q => q) ?_ slc_nil
            | refine fin.out (.slice (some ⟨h2.next + 15, 0, none⟩) row.length 1) _ _ _ (by first | (rw [hlen]; done) | (rw [hlen]; have := hL.out; simp at this; omega)) rfl (by omega) (by simp; try omega) (by simp; try omega) ⟨[], by simp [Nat.add_assoc]⟩ (fun _ q => q) ?_ (ints_mk [] (by simp; omega) (by simp [Nat.add_assoc, *]; exact ⟨rfl, rfl⟩) rfl)
          all_goals intro j hj _ hne
          all_goals have fj := ne_fresh hj
          all_goals simp [fj, Nat.add_assoc]
          all_goals (intro e; exact absurd e hne)
        · refine sw_cond (b := true) (by simp; omega) ?_
          simp
          (refine sw_seq ?_; refine sw_reg mixed ?_; simp [Nat.add_assoc, iv, tab_len, tab_getE, tab_set, Nat.add_one_le_iff, p5_8, *])
          refine sw_ret ?_
          simp
      · refine sw_cond (b := false) (by simp; omega) ?_
        simp
        refine sw_exit ?_
        simp
        obtain rfl : i = G.length := by omega
        rw [List.take_length] at B hle
        refine sw_begin (fun h3 hn3 st3 sees3 => ?_)
        have D1 := (cSlc (cSlc cZ)).mono sees3 (bld_done (h := h2.bump 4) (bld_keep B (by simp) (fun _ q => q) (fun _ _ _ => rfl)))
        have D0 := (cSlc (cSlc cZ)).mono (Sees.same (S' := (· < (h2.bump 4).next)) (h' := h2.bump 4) (fun j hj => Nat.lt_of_lt_of_le hj (Nat.le_trans hnx (Nat.le_add_right _ _))) (fun j hj => on.obj j hj)) D
        replace D0 := (cSlc (cSlc cZ)).mono sees3 D0
        clear sees3 B D hnx on hwi st hn3
        refine sw_seq (sw_reg mixed ?_)
        simp [p5_10]
        refine run_callI 9 [.slice ip G.length iq] (by simp) ?_
        refine find_spec sortC (dat_graph (fun j hj => hj) (dat_on D0 (by (repeat' first | assumption | exact On.refl _ | refine On.bump ?_ _ | refine On.put ?_ _ ?_ | refine On.del ?_ ?_) <;> (try simp only [AHeap.bump_next, AHeap.put_next, AHeap.del_next]) <;> omega))) (by omega) (fun v hv => ?_) ?_
        · have : getG G v = G[v] := by simp [getG, List.getD_eq_getElem?_getD, hv]
          rw [this]
          have := hle _ (List.getElem_mem hv)
          omega
        intro h4 _ _ _ _ _ hn4 ho4 _ _ _ _ _ _ _
        simp
        have on4 : On h3 h4 := ⟨by simp at hn4; omega, fun i hi => (ho4 i (by simp; omega)).trans rfl⟩
        clear hn4 ho4
        refine sw_seq (sw_seq ?_)
        (refine sw_reg mixed ?_; simp [Nat.add_assoc, iv, tab_len, tab_getE, tab_set, Nat.add_one_le_iff, p5_11, *])
        refine sw_block ?_
        refine sw_loopB st3 (by (repeat' first | assumption | exact On.refl _ | refine On.bump ?_ _ | refine On.put ?_ _ ?_ | refine On.del ?_ ?_) <;> (try simp only [AHeap.bump_next, AHeap.put_next, AHeap.del_next]) <;> omega) (fun x : Nat => [(0, .slice ip G.length iq), (2, .bool false), (3, wv), (5, iv x)]) (fun x h' => x ≤ G.length) (fun x => G.length - x) 0 ?_ (Nat.zero_le _) ?_
        · simp [Covers, iv]
        · rintro i h5 on5 hi5
          change i ≤ G.length at hi5
          have hnx := on5.nxt
          have hwi : IntKind.i64.wrap ((i : Int) + 1) = ((i + 1 : Nat) : Int) := by rw [wrap_in (by omega)]; omega
          refine sw_seq (sw_seq ?_)
          (refine sw_reg mixed ?_; simp [Nat.add_assoc, iv, tab_len, tab_getE, tab_set, Nat.add_one_le_iff, p5_12, *])
          by_cases hlt : i < G.length
          · refine sw_cond (b := true) (by simp; omega) ?_
            simp
            refine sw_skip ?_
            simp
            obtain ⟨r, o, own, ty, k, e1, hr, ho, hk, hrow⟩ := slc_open1 rfl D0 (by omega)
            cases e1
            obtain ⟨u, hu, Du⟩ := hrow i G[i] (by simp [hlt])
            obtain ⟨r', o', own', ty', k', rfl, hr', ho', hk', hrow'⟩ := slc_open1 rfl D1 (by omega)
            obtain ⟨u', hu', Du'⟩ := hrow' i G[i] (by simp [hlt])
            obtain ⟨p, q, rfl⟩ := slc_val Du
            obtain ⟨p', q', rfl⟩ := slc_val Du'
            have hle' : ∀ i (h : i < G.length), G[i].length ≤ 30 := fun i h => hle _ (List.getElem_mem h)
            clear hrow hrow' hle
            replace hle' := Hid.mk hle'
            refine sw_seq (sw_block (sw_seq ?_))
            (refine sw_reg mixed ?_; simp [Nat.add_assoc, iv, tab_len, tab_getE, tab_set, Nat.add_one_le_iff, p5_14, *])
            refine sw_block ?_
            refine sw_loopB st3 (by (repeat' first | assumption | exact On.refl _ | refine On.bump ?_ _ | refine On.put ?_ _ ?_ | refine On.del ?_ ?_) <;> (try simp only [AHeap.bump_next, AHeap.put_next, AHeap.del_next]) <;> omega) (fun x : Nat => [(0, .slice (some ⟨r, o, none⟩) G.length 1), (2, .bool false), (3, .slice (some ⟨r', o', none⟩) G.length 1), (5, iv i), (6, iv x)]) (fun x h' => x ≤ G[i].length) (fun x => G[i].length - x) 0 ?_ (Nat.zero_le _) ?_
            · simp [Covers, iv]
            · rintro k1 h6 on6 hk1
              have hu2 := (List.getElem?_eq_some_iff.1 hu).2
              have hu2' := (List.getElem?_eq_some_iff.1 hu').2
              have ho6 := (on6.obj r hr).trans ho
              have ho6' := (on6.obj r' hr').trans ho'
              refine sw_seq (sw_seq ?_)
              (refine sw_reg mixed ?_; simp [Nat.add_assoc, iv, tab_len, tab_getE, tab_set, Nat.add_one_le_iff, p5_15, *])
              by_cases hk2 : k1 < G[i].length
              · refine sw_cond (b := true) (by simp; omega) ?_
                simp
                refine sw_skip ?_
                simp
                rcases row_ints Du with ⟨_, e⟩ | ⟨e, _⟩ | ⟨_, s, w, _, _, c, e, hs, hso, hsl, _, hget⟩
                · rw [e] at hk2; simp at hk2
                · rw [e] at hk2; simp at hk2
                rcases row_ints Du' with ⟨_, e'⟩ | ⟨e', _⟩ | ⟨_, s', w', _, _, c', e', hs', hso', hsl', _, hget'⟩
                · rw [e'] at hk2; simp at hk2
                · rw [e'] at hk2; simp at hk2
                cases e
                cases e'
                have hg1 := hget k1 (G[i][k1]) (by simp [hk2])
                have hg2 := hget' k1 (G[i][k1]) (by simp [hk2])
                have hg3 := (List.getElem?_eq_some_iff.1 hg1).2
                have hg4 := (List.getElem?_eq_some_iff.1 hg2).2
                have hso6 := (on6.obj s hs).trans hso
                have hso6' := (on6.obj s' hs').trans hso'
                clear hget hget'
                have hwk : IntKind.i64.wrap ((k1 : Int) + 1) = ((k1 + 1 : Nat) : Int) := by have := hle'.out i hlt; rw [wrap_in (by omega)]; omega
                refine sw_seq (sw_block (sw_seq ?_))
                (refine sw_reg mixed ?_; simp [Nat.add_assoc, iv, tab_len, tab_getE, tab_set, Nat.add_one_le_iff, p5_17, *])
                refine sw_cond (b := false) (by simp) ?_
                simp
                refine sw_skip ?_
                simp
                (refine sw_reg mixed ?_; simp [Nat.add_assoc, iv, tab_len, tab_getE, tab_set, Nat.add_one_le_iff, p5_16, *])
                exact ⟨k1 + 1, by simp [Covers], hk2, by omega⟩
              · refine sw_cond (b := false) (by simp; omega) ?_
                simp
                refine sw_exit ?_
                simp
                (refine sw_reg mixed ?_; simp [Nat.add_assoc, iv, tab_len, tab_getE, tab_set, Nat.add_one_le_iff, p5_13, *])
                exact ⟨i + 1, by simp [Covers], hlt, by omega⟩
          · refine sw_cond (b := false) (by simp; omega) ?_
            simp
            refine sw_exit ?_
            simp
            refine sw_seq (sw_reg mixed ?_)
            simp [p5_19]
            refine run_callI 9 [.slice none 0 0] (by simp) ?_
            refine find_spec sortC (graph_none _ (fun _ => [])) (by omega) (fun v hv => by omega) ?_
            intro h6 _ kv oid rows of _ _ _ R each _ _ _ D
            have e1 : rows = [] := by
              have := D.len_le
              simpa using this
            subst e1
            rcases row_inv R with ⟨rfl, _⟩ | ⟨_, _, rfl, _⟩
            · simp
              (refine sw_seq ?_; refine sw_reg mixed ?_; simp [Nat.add_assoc, iv, tab_len, tab_getE, tab_set, Nat.add_one_le_iff, p5_20, *])
              refine sw_ret ?_
              simp
            · simp
              (refine sw_seq ?_; refine sw_reg mixed ?_; simp [Nat.add_assoc, iv, tab_len, tab_getE, tab_set, Nat.add_one_le_iff, p5_20, *])
              refine sw_ret ?_
              simp
  · have hN' : (20 : Int) < G.length := by omega
    simp [hN']
    refine sw_cond (b := true) (by simp) ?_
    simp
    refine sw_seq (sw_reg mixed ?_)
    simp [p5_2]
    refine run_callI 8 [] (by simp) (awake_at ?_)
    simp
    refine sw_ret ?_
    simp

end Go.Proofs.Ytbcgcnmnblfhmaa
