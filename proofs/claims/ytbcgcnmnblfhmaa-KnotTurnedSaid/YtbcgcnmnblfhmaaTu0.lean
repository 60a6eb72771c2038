/- KnotTurned. -/
import Derived.Test.YtbcgcnmnblfhmaaFi0
import Derived.Test.YtbcgcnmnblfhmaaTb0
import Derived.Test.YtbcgcnmnblfhmaaK6
namespace Go.Proofs.Ytbcgcnmnblfhmaa
open Lin Tar
set_option maxRecDepth 10000
set_option linter.unusedSimpArgs false

/-- A list of rows, out of a function. -/
def lOf (n : Nat) (f : Nat → List Int) : List (List Int) := (List.range n).map f
theorem lOf_len (n : Nat) (f : Nat → List Int) : (lOf n f).length = n := by simp [lOf]
theorem get_lOf {n v : Nat} {f : Nat → List Int} (h : v < n) : getG (lOf n f) v = f v := by simp [getG, lOf, List.getD_eq_getElem?_getD, h]
theorem get_lOf_out {n v : Nat} {f : Nat → List Int} (h : ¬ v < n) : getG (lOf n f) v = [] := by simp [getG, lOf, List.getD_eq_getElem?_getD, Nat.not_lt.1 h]

/-- What is turned about has the same knots. -/
theorem turn_same {n : Nat} {gl bl : Nat → List Int} (h1 : ∀ v w, v < n → w < n → (w : Int) ∈ gl v → (v : Int) ∈ bl w) (h2 : ∀ v w, v < n → w < n → (v : Int) ∈ bl w → (w : Int) ∈ gl v) {k1 k2 : List (List Nat)} {o1 o2 : Nat → Nat}
    (D1 : Done n (getG (lOf n gl)) k1 o1) (D2 : Done n (getG (lOf n bl)) k2 o2) : k1.length = k2.length ∧ ∀ x y, x < n → y < n → (o1 x = o1 y ↔ o2 x = o2 y) := by
  have e1 : ∀ {x y}, Tar.Edge n (getG (lOf n gl)) x y → Tar.Reach n (getG (lOf n bl)) y x := by
    intro x y e
    obtain ⟨a, b⟩ := e
    by_cases hx : x < n
    · rw [get_lOf hx] at b
      exact .one ⟨hx, by rw [get_lOf a]; exact h1 x y hx a b⟩
    · rw [get_lOf_out hx] at b; cases b
  have e2 : ∀ {x y}, Tar.Edge n (getG (lOf n bl)) x y → Tar.Reach n (getG (lOf n gl)) y x := by
    intro x y e
    obtain ⟨a, b⟩ := e
    by_cases hx : x < n
    · rw [get_lOf hx] at b
      exact .one ⟨hx, by rw [get_lOf a]; exact h2 y x a hx b⟩
    · rw [get_lOf_out hx] at b; cases b
  exact same_knots D1 D2 (fun x y _ _ => ⟨fun h => ⟨h.2.turn (fun _ _ e => e1 e), h.1.turn (fun _ _ e => e1 e)⟩, fun h => ⟨h.2.turn (fun _ _ e => e2 e), h.1.turn (fun _ _ e => e2 e)⟩⟩)

def conT (gl bl : Nat → List Int) : Nat → Nat → List Value := fun k v => ((if k = 0 then gl v else if k = 1 then bl v else []).map (Value.int .i64))
theorem conT_g (gl bl : Nat → List Int) (v : Nat) (x : Int) : upd2 (conT gl bl) 0 v (conT gl bl 0 v ++ [.int .i64 x]) = conT (upd gl v (gl v ++ [x])) bl := by
  funext k u
  by_cases hk : k = 0 <;> by_cases hu : u = v <;> simp [upd2, conT, upd, hk, hu]
theorem conT_b (gl bl : Nat → List Int) (v : Nat) (x : Int) : upd2 (conT gl bl) 1 v (conT gl bl 1 v ++ [.int .i64 x]) = conT gl (upd bl v (bl v ++ [x])) := by
  funext k u
  by_cases hk : k = 1
  · subst hk
    by_cases hu : u = v <;> simp [upd2, conT, upd, hu]
  · by_cases hk0 : k = 0 <;> simp [upd2, conT, upd, hk, hk0]

/-- The one is the other turned about. -/
structure Inv2 (n c : Nat) (gl bl : Nat → List Int) : Prop where
  turn : ∀ v w, v < n → w < n → ((w : Int) ∈ gl v ↔ (v : Int) ∈ bl w)
  bound : ∀ v, (gl v).length ≤ c ∧ (bl v).length ≤ c
theorem Inv2.none (n : Nat) : Inv2 n 0 (fun _ => []) (fun _ => []) := ⟨by simp, by simp⟩
theorem Inv2.push {n c : Nat} {gl bl : Nat → List Int} (I : Inv2 n c gl bl) {v w : Nat} (hv : v < n) (hw : w < n) : Inv2 n (c + 1) (upd gl v (gl v ++ [(w : Int)])) (upd bl w (bl w ++ [(v : Int)])) := by
  refine ⟨fun a b ha hb => ?_, fun a => ?_⟩
  · have := I.turn a b ha hb
    simp only [upd]
    by_cases h1 : a = v <;> by_cases h2 : b = w
    · subst h1; subst h2; simp
    · subst h1; simp only [if_true, if_neg h2, List.mem_append, List.mem_singleton, this]; constructor
      · rintro (h | h)
        · exact h
        · omega
      · exact .inl
    · subst h2; simp only [if_true, if_neg h1, List.mem_append, List.mem_singleton, this]; constructor
      · exact .inl
      · rintro (h | h)
        · exact h
        · omega
    · simp only [if_neg h1, if_neg h2, this]
  · have b1 := I.bound a
    have b2 := I.bound v
    have b3 := I.bound w
    simp only [upd]
    constructor
    · split
      · simp; omega
      · omega
    · split
      · simp; omega
      · omega
theorem Inv2.more {n c c' : Nat} {gl bl : Nat → List Int} (I : Inv2 n c gl bl) (h : c ≤ c') : Inv2 n c' gl bl := ⟨I.turn, fun v => by have := I.bound v; omega⟩

structure KT where
  i : Nat
  k : Nat
  val : Nat → Nat → Value
  ρ : Nat → Nat
  gl : Nat → List Int
  bl : Nat → List Int

set_option maxHeartbeats 2000000 in
theorem turned_spec {h : AHeap} {G : List (List Int)} {inv : Value} (D : (cSlc (cSlc cZ)).R (· < h.next) h [inv] G) : ACallW Try.prog 6 [inv] h (fun r _ => r = .bool true) := by
  refine acall_begin (fun h0 hn0 st sees => ?_)
  replace D := (cSlc (cSlc cZ)).mono sees D
  clear sees hn0
  refine enter6 ?_
  unfold c6
  obtain ⟨ip, iq, rfl⟩ := slc_val D
  (refine sw_seq ?_; refine sw_reg mixed ?_; simp [Nat.add_assoc, iv, tab_len, tab_getE, tab_set, Nat.add_one_le_iff, p6_0, params, List.range_succ, *])
  refine sw_seq (sw_seq (sw_reg mixed ?_))
  simp [p6_1]
  refine run_callI 8 [] (by simp) (awake_at ?_)
  by_cases hN : G.length ≤ 20
  · have hN' : ¬ (20 < (G.length : Int)) := by omega
    simp [hN']
    refine sw_cond (b := false) (by simp) ?_
    simp
    refine sw_skip ?_
    simp
    have hb1 : 24 * (G.length : Int) ≤ 281474976710656 := by omega
    have hb2 : (G.length : Int) ≤ 9223372036854775807 := by omega
    (refine sw_seq ?_; refine sw_reg mixed ?_; simp [Nat.add_assoc, iv, tab_len, tab_getE, tab_set, Nat.add_one_le_iff, p6_3, *])
    (refine sw_seq ?_; refine sw_reg mixed ?_; simp [Nat.add_assoc, iv, tab_len, tab_getE, tab_set, Nat.add_one_le_iff, p6_4, rep_tab, *])
    intro z1
    (refine sw_seq ?_; refine sw_reg mixed ?_; simp [Nat.add_assoc, iv, tab_len, tab_getE, tab_set, Nat.add_one_le_iff, p6_5, rep_tab, *])
    intro z2
    have T0 : Tabs h0 ((((((h0.bump 1).bump 7).bump 3).bump 3).put (h0.next + 12) (.arr true 24 (tab G.length fun x => .slice none 0 0))) |>.bump 3 |>.put (h0.next + 15) (.arr true 24 (tab G.length fun x => .slice none 0 0))) 2 (fun _ => G.length) 24 3 (fun k => if k = 0 then h0.next + 12 else h0.next + 15) (fun _ _ => .slice none 0 0) (conT (fun _ => []) (fun _ => []))
        (fun j => if j = h0.next + 12 then 1 else if j = h0.next + 15 then 2 else 0) := by
      refine ⟨(by (repeat' first | assumption | exact On.refl _ | refine On.bump ?_ _ | refine On.put ?_ _ ?_ | refine On.del ?_ ?_) <;> (try simp only [AHeap.bump_next, AHeap.put_next, AHeap.del_next]) <;> omega), fun i hi => by have fi := ne_fresh hi; simp [fi], fun k hk => ?_, fun k hk => ?_, fun k hk => ?_, fun k v hk hv => ?_⟩
      · rcases (show k = 0 ∨ k = 1 by omega) with rfl | rfl <;> simp
      · rcases (show k = 0 ∨ k = 1 by omega) with rfl | rfl <;> simp
      · rcases (show k = 0 ∨ k = 1 by omega) with rfl | rfl <;> simp
      · have : conT (fun _ => []) (fun _ => []) k v = [] := by simp [conT]
        rw [this]; exact .none
    generalize (((((((h0.bump 1).bump 7).bump 3).bump 3).put (h0.next + 12) (AObj.arr true 24 (tab G.length fun x => .slice none 0 0))).bump 3).put (h0.next + 15) (AObj.arr true 24 (tab G.length fun x => .slice none 0 0))) = h1 at *
    generalize h0.next + 12 = gid at *
    generalize h0.next + 15 = bid at *
    clear z1 z2 hb1 hb2
    refine sw_seq (sw_seq ?_)
    (refine sw_reg mixed ?_; simp [Nat.add_assoc, iv, tab_len, tab_getE, tab_set, Nat.add_one_le_iff, p6_6, *])
    refine sw_block ?_
    refine sw_loopB st (T0.on.bump 1) (fun x : KT => [(0, .slice ip G.length iq), (2, .bool false), (3, iv G.length), (4, .slice (some ⟨gid, 0, none⟩) G.length 1), (5, .slice (some ⟨bid, 0, none⟩) G.length 1), (6, iv x.i)])
      (fun x h' => x.i ≤ G.length ∧ Tabs h0 h' 2 (fun _ => G.length) 24 3 (fun k => if k = 0 then gid else bid) x.val (conT x.gl x.bl) x.ρ ∧ Inv2 G.length (6 * x.i) x.gl x.bl)
      (fun x => G.length - x.i) ⟨0, 0, _, _, _, _⟩ ?_ ⟨Nat.zero_le _, T0.same (by simp) rfl, Inv2.none _⟩ ?_
    · simp [Covers, iv]
    · rintro ⟨i, _, val, ρ, gl, bl⟩ h2 on ⟨hi, T, I⟩
      simp only at hi T I
      have hnx := on.nxt
      have hwi : IntKind.i64.wrap ((i : Int) + 1) = ((i + 1 : Nat) : Int) := by rw [wrap_in (by omega)]; omega
      refine sw_seq (sw_seq ?_)
      (refine sw_reg mixed ?_; simp [Nat.add_assoc, iv, tab_len, tab_getE, tab_set, Nat.add_one_le_iff, p6_7, *])
      by_cases hlt : i < G.length
      · refine sw_cond (b := true) (by simp; omega) ?_
        simp
        refine sw_skip ?_
        simp
        obtain ⟨r, o, own, ty, k, e1, hr, ho, hk, hrow⟩ := slc_open1 rfl D (by omega)
        cases e1
        obtain ⟨u, hu, Du⟩ := hrow i G[i] (by simp [hlt])
        clear hrow
        obtain ⟨p, q, rfl⟩ := slc_val Du
        refine sw_seq (sw_block (sw_seq ?_))
        (refine sw_reg mixed ?_; simp [Nat.add_assoc, iv, tab_len, tab_getE, tab_set, Nat.add_one_le_iff, p6_9, *])
        refine sw_block ?_
        refine sw_loopB st (by (repeat' first | assumption | exact On.refl _ | refine On.bump ?_ _ | refine On.put ?_ _ ?_ | refine On.del ?_ ?_) <;> (try simp only [AHeap.bump_next, AHeap.put_next, AHeap.del_next]) <;> omega) (fun x : KT => [(0, .slice (some ⟨r, o, none⟩) G.length 1), (2, .bool false), (3, iv G.length), (4, .slice (some ⟨gid, 0, none⟩) G.length 1), (5, .slice (some ⟨bid, 0, none⟩) G.length 1), (6, iv i), (7, iv x.k)])
          (fun x h' => x.k ≤ G[i].length ∧ x.k ≤ 6 ∧ Tabs h0 h' 2 (fun _ => G.length) 24 3 (fun k => if k = 0 then gid else bid) x.val (conT x.gl x.bl) x.ρ ∧ Inv2 G.length (6 * i + x.k) x.gl x.bl)
          (fun x => 6 - x.k) ⟨i, 0, val, ρ, gl, bl⟩ ?_ ⟨Nat.zero_le _, Nat.zero_le _, T.same (by simp; omega) rfl, I⟩ ?_
        · simp [Covers, iv]
        · clear T I val ρ gl bl
          rintro ⟨_, k1, val, ρ, gl, bl⟩ h4 on4 ⟨hk1, hk6, T4, I4⟩
          simp only at hk1 hk6 T4 I4
          have hu2 := (List.getElem?_eq_some_iff.1 hu).2
          have ho4 := (on4.obj r hr).trans ho
          have hwk : IntKind.i64.wrap ((k1 : Int) + 1) = ((k1 + 1 : Nat) : Int) := by rw [wrap_in (by omega)]; omega
          refine sw_seq (sw_seq ?_)
          by_cases hk : k1 < G[i].length ∧ k1 < 6
          · obtain ⟨hk2, hk3⟩ := hk
            have hk3' : (k1 : Int) < 6 := by omega
            (refine sw_reg mixed ?_; simp [Nat.add_assoc, iv, tab_len, tab_getE, tab_set, Nat.add_one_le_iff, p6_10, *])
            refine sw_cond (b := true) (by simp) ?_
            simp
            refine sw_skip ?_
            simp
            rcases row_ints Du with ⟨_, e⟩ | ⟨e, _⟩ | ⟨_, s, w, _, _, c, e, hs, hso, hsl, _, hget⟩
            · rw [e] at hk2; simp at hk2
            · rw [e] at hk2; simp at hk2
            cases e
            have hg1 := hget k1 (G[i][k1]) (by simp [hk2])
            have hg3 := (List.getElem?_eq_some_iff.1 hg1).2
            have hso4 := (T4.on.obj s hs).trans hso
            have hz1 : IntKind.u64.wrap (G.length : Int) = G.length := u64_in (by omega)
            have hz2 : ¬ ((G.length : Int) = 0) := by omega
            have hz2' : ¬ G = [] := by intro e; rw [e] at hlt; simp at hlt
            have hz3 := modn_eq (n := G.length) (by omega) (by omega) (G[i][k1])
            have hss := hsl
            clear hget
            have hwlt := modn_lt (n := G.length) (by omega) G[i][k1]
            have hkk : k1 ≤ 5 := by omega
            generalize hw0 : modn G.length G[i][k1] = w at *
            have hcut : Hid (gid < h4.next ∧ bid < h4.next ∧ ρ gid = 1 ∧ ρ bid = 2) := ⟨by have := T4.lt 0 (by omega); simpa using this, by have := T4.lt 1 (by omega); simpa using this, by have := T4.role 0 (by omega); simpa using this, by have := T4.role 1 (by omega); simpa using this⟩
            refine sw_seq (sw_block (sw_seq ?_))
            (refine sw_reg mixed ?_; simp [Nat.add_assoc, iv, tab_len, tab_getE, tab_set, Nat.add_one_le_iff, p6_12, *])
            obtain ⟨hg1', hg2', hg3', hg4'⟩ := hcut.out
            have hgb : gid ≠ bid := fun e => by rw [e, hg4'] at hg3'; cases hg3'
            refine sw_cut (fun x : KT => [(0, .slice (some ⟨r, o, none⟩) G.length 1), (2, .bool false), (3, iv G.length), (4, .slice (some ⟨gid, 0, none⟩) G.length 1), (5, .slice (some ⟨bid, 0, none⟩) G.length 1), (6, iv i), (7, iv k1), (8, iv w)])
              (fun x h' => Tabs h0 h' 2 (fun _ => G.length) 24 3 (fun k => if k = 0 then gid else bid) x.val (conT (upd gl i (gl i ++ [(w : Int)])) bl) x.ρ) ?_ ?_
            · have hb1 : ((gl i).length + 1) * 8 ≤ 140737488355328 := by have := (I4.bound i).1; omega
              have hob : h4.obj gid = some (.arr true 24 (tab G.length (val 0))) := by simpa using T4.out 0 (by omega)
              have hcl : (conT gl bl 0 i).length = (gl i).length := by simp [conT]
              have fg := ne_fresh hg1'
              have hpush : Hid _ := ⟨fun h' id m hn hid hlt' hm hrow hout hoth => (conT_g gl bl i w) ▸ T4.push (k := 0) (v := i) (by omega) hlt (.int .i64 w) (h' := h') (id := id) (m := m) hn hid hlt' hm hrow hout hoth⟩
              have hcon : conT gl bl 0 i = (gl i).map (Value.int .i64) := by simp [conT]
              have htk : ∀ c : List Value, List.take (gl i).length ((gl i).map (Value.int .i64) ++ c) = (gl i).map (Value.int .i64) := fun c => List.take_left' (by simp)
              rcases T4.get (k := 0) (v := i) (by omega) hlt with ⟨hval, hc0⟩ | ⟨wid, c', hval, hwr, hwne, hwl, hwo⟩
              · have T4H : Hid _ := ⟨And.intro T4 (And.intro I4 hc0)⟩
                rw [hcon] at hc0
                have hc1 : Hid (gl i = []) := ⟨by simpa using hc0⟩
                clear T4 I4 hc0
                (refine sw_reg mixed ?_; simp [Nat.add_assoc, iv, tab_len, tab_getE, tab_set, Nat.add_one_le_iff, p6_13, *])
                intro z1
                refine Cut.mk ⟨i, k1, _, _, gl, bl⟩ (by simp [Covers]) (hpush.out _ (h4.next + 32) 1 ?_ ?_ ?_ ?_ ?_ ?_ ?_)
                · simp; try omega
                · omega
                · simp; try omega
                · rw [hcl, hc1.out]; rfl
                · exact ⟨[], by simp [fg, hc1.out, *]⟩
                · simp
                · intro j hj hr1 hr2
                  have fj := ne_fresh hj
                  have e1 : ¬ j = gid := fun e => hr2 (by rw [e, hg3'])
                  simp [fj, e1, Nat.add_assoc]
              · have T4H : Hid _ := ⟨And.intro T4 I4⟩
                clear T4 I4
                simp at hwne
                have fw := ne_fresh hwl
                have hwne2 : ¬ gid = wid := fun e => hwne e.symm
                (refine sw_reg mixed ?_; simp [Nat.add_assoc, iv, tab_len, tab_getE, tab_set, Nat.add_one_le_iff, p6_13, *])
                intro z1
                refine Cut.mk ⟨i, k1, _, _, gl, bl⟩ (by simp [Covers]) (hpush.out _ (h4.next + 32) ((gl i).length + 1) ?_ ?_ ?_ ?_ ?_ ?_ ?_)
                · simp; try omega
                · omega
                · simp; try omega
                · rw [hcl]
                · exact ⟨[], by simp [fg, *]⟩
                · simp
                · intro j hj hr1 hr2
                  have fj := ne_fresh hj
                  have e2 : ¬ j = wid := fun e => hr1 (by rw [e, hwr])
                  have e1 : ¬ j = gid := fun e => hr2 (by rw [e, hg3'])
                  simp [fj, e1, e2, Nat.add_assoc]
            · rintro ⟨_, _, val', ρ', _, _⟩ h5 T5
              simp only at T5
              have I5 : Hid _ := ⟨I4.push hlt hwlt⟩
              have hg2'' : bid < h5.next := by have := T5.lt 1 (by omega); simpa using this
              have hg4'' : ρ' bid = 2 := by have := T5.role 1 (by omega); simpa using this
              generalize hgl' : upd gl i (gl i ++ [(w : Int)]) = gl' at *
              clear hgl' T4 hcut
              have hb1 : ((bl w).length + 1) * 8 ≤ 140737488355328 := by have := (I4.bound w).2; omega
              have hob : h5.obj bid = some (.arr true 24 (tab G.length (val' 1))) := by simpa using T5.out 1 (by omega)
              have hcl : (conT gl' bl 1 w).length = (bl w).length := by simp [conT]
              have fg := ne_fresh hg2''
              have hpush : Hid _ := ⟨fun h' id m hn hid hlt' hm hrow hout hoth => (conT_b gl' bl w i) ▸ T5.push (k := 1) (v := w) (by omega) hwlt (.int .i64 i) (h' := h') (id := id) (m := m) hn hid hlt' hm hrow hout hoth⟩
              have hcon : conT gl' bl 1 w = (bl w).map (Value.int .i64) := by simp [conT]
              have htk : ∀ c : List Value, List.take (bl w).length ((bl w).map (Value.int .i64) ++ c) = (bl w).map (Value.int .i64) := fun c => List.take_left' (by simp)
              rcases T5.get (k := 1) (v := w) (by omega) hwlt with ⟨hval, hc0⟩ | ⟨wid, c', hval, hwr, hwne, hwl, hwo⟩
              · have T4H : Hid _ := ⟨And.intro T5 hc0⟩
                rw [hcon] at hc0
                have hc1 : Hid (bl w = []) := ⟨by simpa using hc0⟩
                clear T5 hc0
                (refine sw_reg mixed ?_; simp [Nat.add_assoc, iv, tab_len, tab_getE, tab_set, Nat.add_one_le_iff, p6_14, *])
                intro z1
                (refine sw_reg mixed ?_; simp [Nat.add_assoc, iv, tab_len, tab_getE, tab_set, Nat.add_one_le_iff, p6_11, *])
                refine ⟨⟨i, k1 + 1, _, _, gl', _⟩, by simp [Covers], ⟨by simp; omega, by simp; omega, (hpush.out _ (h5.next + 8) 1 ?_ ?_ ?_ ?_ ?_ ?_ ?_).same (by simp) rfl, I5.out⟩, by simp; omega⟩
                · simp; try omega
                · omega
                · simp; try omega
                · rw [hcl, hc1.out]; rfl
                · exact ⟨[], by simp [fg, hc1.out, *]⟩
                · simp
                · intro j hj hr1 hr2
                  have fj := ne_fresh hj
                  have e1 : ¬ j = bid := fun e => hr2 (by rw [e, hg4''])
                  simp [fj, e1, Nat.add_assoc]
              · have T4H : Hid _ := ⟨T5⟩
                clear T5
                simp at hwne
                have fw := ne_fresh hwl
                have hwne2 : ¬ bid = wid := fun e => hwne e.symm
                (refine sw_reg mixed ?_; simp [Nat.add_assoc, iv, tab_len, tab_getE, tab_set, Nat.add_one_le_iff, p6_14, *])
                intro z1
                (refine sw_reg mixed ?_; simp [Nat.add_assoc, iv, tab_len, tab_getE, tab_set, Nat.add_one_le_iff, p6_11, *])
                refine ⟨⟨i, k1 + 1, _, _, gl', _⟩, by simp [Covers], ⟨by simp; omega, by simp; omega, (hpush.out _ (h5.next + 8) ((bl w).length + 1) ?_ ?_ ?_ ?_ ?_ ?_ ?_).same (by simp) rfl, I5.out⟩, by simp; omega⟩
                · simp; try omega
                · omega
                · simp; try omega
                · rw [hcl]
                · exact ⟨[], by simp [fg, *]⟩
                · simp
                · intro j hj hr1 hr2
                  have fj := ne_fresh hj
                  have e2 : ¬ j = wid := fun e => hr1 (by rw [e, hwr])
                  have e1 : ¬ j = bid := fun e => hr2 (by rw [e, hg4''])
                  simp [fj, e1, e2, Nat.add_assoc]
          · by_cases hk2 : k1 < G[i].length
            all_goals
              have hk4 : k1 < G[i].length → ¬ (k1 < 6) := fun a b => hk ⟨a, b⟩
            · have hk5 : ¬ (k1 < 6) := hk4 hk2
              have hk6' : ¬ ((k1 : Int) < 6) := by omega
              clear hk4
              (refine sw_reg mixed ?_; simp [Nat.add_assoc, iv, tab_len, tab_getE, tab_set, Nat.add_one_le_iff, p6_10, *])
              refine sw_cond (b := false) (by simp) ?_
              simp
              refine sw_exit ?_
              simp
              (refine sw_reg mixed ?_; simp [Nat.add_assoc, iv, tab_len, tab_getE, tab_set, Nat.add_one_le_iff, p6_8, *])
              exact ⟨⟨i + 1, 0, val, ρ, gl, bl⟩, by simp [Covers], ⟨hlt, T4.same (by simp; omega) rfl, I4.more (by simp; omega)⟩, by simp; omega⟩
            · clear hk4
              (refine sw_reg mixed ?_; simp [Nat.add_assoc, iv, tab_len, tab_getE, tab_set, Nat.add_one_le_iff, p6_10, *])
              refine sw_cond (b := false) (by simp) ?_
              simp
              refine sw_exit ?_
              simp
              (refine sw_reg mixed ?_; simp [Nat.add_assoc, iv, tab_len, tab_getE, tab_set, Nat.add_one_le_iff, p6_8, *])
              exact ⟨⟨i + 1, 0, val, ρ, gl, bl⟩, by simp [Covers], ⟨hlt, T4.same (by simp; omega) rfl, I4.more (by simp; omega)⟩, by simp; omega⟩
      · refine sw_cond (b := false) (by simp; omega) ?_
        simp
        refine sw_exit ?_
        simp
        obtain rfl : i = G.length := by omega
        have T' := T.same (h' := h2.bump 3) (by simp) rfl
        have hP := I.turn
        have hbd : ∀ v, v < G.length → (gl v).length ≤ 1000000000 ∧ (bl v).length ≤ 1000000000 := fun v _ => by have := I.bound v; omega
        have Dg0 := T'.data (c := cZ) rfl (k := 0) (by omega) (l := lOf G.length gl) (lOf_len _ _) (fun v r hr => by
          have hv : v < G.length := by have := (List.getElem?_eq_some_iff.1 hr).1; simpa [lOf] using this
          have e : r = gl v := by simp [lOf, hv] at hr; exact hr.symm
          subst e
          exact ⟨by simp [conT], fun i x hx => ⟨.int .i64 x, by simp [conT, hx], rfl⟩⟩)
        have Db0 := T'.data (c := cZ) rfl (k := 1) (by omega) (l := lOf G.length bl) (lOf_len _ _) (fun v r hr => by
          have hv : v < G.length := by have := (List.getElem?_eq_some_iff.1 hr).1; simpa [lOf] using this
          have e : r = bl v := by simp [lOf, hv] at hr; exact hr.symm
          subst e
          exact ⟨by simp [conT], fun i x hx => ⟨.int .i64 x, by simp [conT, hx], rfl⟩⟩)
        simp only [if_true, show ¬ ((1 : Nat) = 0) by omega, if_false] at Dg0 Db0
        refine sw_begin (fun h3 hn3 st3 sees3 => ?_)
        have Dg := (cSlc (cSlc cZ)).mono sees3 Dg0
        have Dh := (cSlc (cSlc cZ)).mono sees3 Db0
        have hgn : (lOf G.length gl).length = G.length := lOf_len _ _
        have hhn : (lOf G.length bl).length = G.length := lOf_len _ _
        clear sees3 T T' I T0 Dg0 Db0 on hnx hwi st hn3 D
        replace hP : Hid _ := ⟨hP⟩
        replace hbd : Hid _ := ⟨hbd⟩
        refine sw_seq (sw_reg mixed ?_)
        simp [p6_15]
        refine run_callI 9 [.slice (some ⟨gid, 0, none⟩) G.length 1] (by simp) (find_at (dat_on Dg (by (repeat' first | assumption | exact On.refl _ | refine On.bump ?_ _ | refine On.put ?_ _ ?_ | refine On.del ?_ ?_) <;> (try simp only [AHeap.bump_next, AHeap.put_next, AHeap.del_next]) <;> omega)) (by omega) (fun l hl => ?_) ?_)
        · obtain ⟨v, hv, rfl⟩ := List.mem_map.1 hl
          have := hbd.out v (List.mem_range.1 hv); omega
        intro h4 kp kq oid knots of on4 olt oobj Dn
        simp
        refine sw_seq (sw_reg mixed ?_)
        simp [p6_16]
        refine run_callI 9 [.slice (some ⟨bid, 0, none⟩) G.length 1] (by simp) (find_at (dat_on Dh (((((On.refl h3).bump 7).trans on4)).bump 7)) (by omega) (fun l hl => ?_) ?_)
        · obtain ⟨v, hv, rfl⟩ := List.mem_map.1 hl
          have := hbd.out v (List.mem_range.1 hv); omega
        intro h5 kp2 kq2 oid2 knots2 of2 on5 olt2 oobj2 Dn2
        rw [hgn] at oobj Dn
        rw [hhn] at oobj2 Dn2
        obtain ⟨hkl, hsm⟩ := turn_same (fun v w a b => (hP.out v w a b).1) (fun v w a b => (hP.out v w a b).2) Dn Dn2
        have hsmH : Hid _ := ⟨hsm⟩
        have oobj' : h5.obj oid = some (.arr true 3 (tab G.length fun i => iv (of i))) := (on5.obj oid (by simp; omega)).trans oobj
        have olt' : oid < h5.next := by have := on5.nxt; simp at this; omega
        clear hsm Dn Dn2 Dg Dh on5 on4 oobj olt
        simp
        refine sw_seq (sw_seq ?_)
        (refine sw_reg mixed ?_; simp [Nat.add_assoc, iv, tab_len, tab_getE, tab_set, Nat.add_one_le_iff, p6_17, *])
        refine sw_cond (b := false) (by simp) ?_
        simp
        refine sw_skip ?_
        simp
        refine sw_begin (fun h6 hn6 st6 sees6 => ?_)
        obtain ⟨w6, o6⟩ := sees6.arr (i := oid) (by simp; omega) (own := true) (ty := 3) (by simpa using oobj')
        obtain ⟨w6', o6'⟩ := sees6.arr (i := oid2) (by simp; omega) (own := true) (ty := 3) (by simpa using oobj2)
        simp at hn6
        have l6 : oid < h6.next := by omega
        have l6' : oid2 < h6.next := by omega
        clear sees6 oobj' oobj2 olt' olt2 hn6
        refine sw_seq (sw_seq ?_)
        (refine sw_reg mixed ?_; simp [Nat.add_assoc, iv, tab_len, tab_getE, tab_set, Nat.add_one_le_iff, p6_19, *])
        refine sw_block ?_
        refine sw_loopB st6 (by (repeat' first | assumption | exact On.refl _ | refine On.bump ?_ _ | refine On.put ?_ _ ?_ | refine On.del ?_ ?_) <;> (try simp only [AHeap.bump_next, AHeap.put_next, AHeap.del_next]) <;> omega) (fun x : Nat => [(3, iv G.length), (10, .slice (some ⟨oid, 0, none⟩) G.length 1), (12, .slice (some ⟨oid2, 0, none⟩) G.length 1), (13, iv x)]) (fun x h' => x ≤ G.length) (fun x => G.length - x) 0 ?_ (Nat.zero_le _) ?_
        · simp [Covers, iv]
        · rintro v h7 on7 hv7
          change v ≤ G.length at hv7
          have hwv : IntKind.i64.wrap ((v : Int) + 1) = ((v + 1 : Nat) : Int) := by rw [wrap_in (by omega)]; omega
          have hnx := on7.nxt
          refine sw_seq (sw_seq ?_)
          (refine sw_reg mixed ?_; simp [Nat.add_assoc, iv, tab_len, tab_getE, tab_set, Nat.add_one_le_iff, p6_20, *])
          by_cases hlv : v < G.length
          · refine sw_cond (b := true) (by simp; omega) ?_
            simp
            refine sw_skip ?_
            simp
            refine sw_seq (sw_block (sw_seq ?_))
            (refine sw_reg mixed ?_; simp [Nat.add_assoc, iv, tab_len, tab_getE, tab_set, Nat.add_one_le_iff, p6_22, *])
            refine sw_block ?_
            refine sw_loopB st6 (by (repeat' first | assumption | exact On.refl _ | refine On.bump ?_ _ | refine On.put ?_ _ ?_ | refine On.del ?_ ?_) <;> (try simp only [AHeap.bump_next, AHeap.put_next, AHeap.del_next]) <;> omega) (fun x : Nat => [(3, iv G.length), (10, .slice (some ⟨oid, 0, none⟩) G.length 1), (12, .slice (some ⟨oid2, 0, none⟩) G.length 1), (13, iv v), (14, iv x)]) (fun x h' => x ≤ G.length) (fun x => G.length - x) 0 ?_ (Nat.zero_le _) ?_
            · simp [Covers, iv]
            · rintro u h8 on8 hu8
              change u ≤ G.length at hu8
              have hwu : IntKind.i64.wrap ((u : Int) + 1) = ((u + 1 : Nat) : Int) := by rw [wrap_in (by omega)]; omega
              have q1 := (on8.obj oid l6).trans o6
              have q2 := (on8.obj oid2 l6').trans o6'
              refine sw_seq (sw_seq ?_)
              (refine sw_reg mixed ?_; simp [Nat.add_assoc, iv, tab_len, tab_getE, tab_set, Nat.add_one_le_iff, p6_23, *])
              by_cases hlu : u < G.length
              · refine sw_cond (b := true) (by simp; omega) ?_
                simp
                refine sw_skip ?_
                simp
                have heq : ((of v : Int) == (of u : Int)) = ((of2 v : Int) == (of2 u : Int)) := by
                  have := hsmH.out v u hlv hlu
                  rw [Bool.eq_iff_iff]; simp only [beq_iff_eq]; omega
                refine sw_seq (sw_block (sw_seq ?_))
                (refine sw_reg mixed ?_; simp [Nat.add_assoc, iv, tab_len, tab_getE, tab_set, Nat.add_one_le_iff, p6_25, *])
                refine sw_cond (b := false) (by simp [heq]) ?_
                simp
                refine sw_skip ?_
                simp
                (refine sw_reg mixed ?_; simp [Nat.add_assoc, iv, tab_len, tab_getE, tab_set, Nat.add_one_le_iff, p6_24, *])
                exact ⟨u + 1, by simp [Covers], hlu, by omega⟩
              · refine sw_cond (b := false) (by simp; omega) ?_
                simp
                refine sw_exit ?_
                simp
                (refine sw_reg mixed ?_; simp [Nat.add_assoc, iv, tab_len, tab_getE, tab_set, Nat.add_one_le_iff, p6_21, *])
                exact ⟨v + 1, by simp [Covers], hlv, by omega⟩
          · refine sw_cond (b := false) (by simp; omega) ?_
            simp
            refine sw_exit ?_
            simp
            (refine sw_seq ?_; refine sw_reg mixed ?_; simp [Nat.add_assoc, iv, tab_len, tab_getE, tab_set, Nat.add_one_le_iff, p6_27, *])
            refine sw_ret ?_
            simp
  · have hN' : (20 : Int) < G.length := by omega
    simp [hN']
    refine sw_cond (b := true) (by simp) ?_
    simp
    refine sw_seq (sw_reg mixed ?_)
    simp [p6_2]
    refine run_callI 8 [] (by simp) (awake_at ?_)
    simp
    refine sw_ret ?_
    simp

end Go.Proofs.Ytbcgcnmnblfhmaa
