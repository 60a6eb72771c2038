/- KnotSelf. -/
import Derived.Test.YtbcgcnmnblfhmaaFi0
import Derived.Test.YtbcgcnmnblfhmaaK7
namespace Go.Proofs.Ytbcgcnmnblfhmaa
open Lin Tar
set_option maxRecDepth 10000
set_option linter.unusedSimpArgs false

def gPart (n : Nat) (row : List Int) (k : Nat) : List Int := (row.take k).map fun w => ((modn n w : Nat) : Int)
def gRow (n : Nat) (row : List Int) : List Int := gPart n row 6
theorem gPart_zero (n : Nat) (row : List Int) : gPart n row 0 = [] := rfl
theorem gPart_succ {n : Nat} {row : List Int} {k : Nat} (h : k < row.length) : gPart n row (k + 1) = gPart n row k ++ [((modn n row[k] : Nat) : Int)] := by
  unfold gPart
  rw [List.take_add_one, List.getElem?_eq_getElem h, Option.toList_some, List.map_append]; rfl
theorem gPart_len {n : Nat} {row : List Int} {k : Nat} (h : k ≤ row.length) : (gPart n row k).length = k := by simp [gPart]; omega
def gL (n : Nat) (G : List (List Int)) (i : Nat) : List (List Int) := (List.range i).map fun v => gRow n (getG G v)
def hRow (n : Nat) (at_ : Int) (v : Nat) (row : List Int) : List Int := ((v : Int) :: gRow n row ++ gRow n row) ++ [-1, n + at_]
def hL (n : Nat) (at_ : Int) (G : List (List Int)) (i : Nat) : List (List Int) := (List.range i).map fun v => hRow n at_ v (getG G v)
theorem gL_len (n : Nat) (G : List (List Int)) (i : Nat) : (gL n G i).length = i := by simp [gL]
theorem hL_len (n : Nat) (at_ : Int) (G : List (List Int)) (i : Nat) : (hL n at_ G i).length = i := by simp [hL]

theorem get_gL {n v : Nat} {G : List (List Int)} {i : Nat} (h : v < i) : getG (gL n G i) v = gRow n (getG G v) := by simp [getG, gL, List.getD_eq_getElem?_getD, h]
theorem get_gL_out {n v : Nat} {G : List (List Int)} {i : Nat} (h : ¬ v < i) : getG (gL n G i) v = [] := by simp [getG, gL, List.getD_eq_getElem?_getD, Nat.not_lt.1 h]
theorem get_hL {n v : Nat} {a : Int} {G : List (List Int)} {i : Nat} (h : v < i) : getG (hL n a G i) v = hRow n a v (getG G v) := by simp [getG, hL, List.getD_eq_getElem?_getD, h]
theorem get_hL_out {n v : Nat} {a : Int} {G : List (List Int)} {i : Nat} (h : ¬ v < i) : getG (hL n a G i) v = [] := by simp [getG, hL, List.getD_eq_getElem?_getD, Nat.not_lt.1 h]
theorem self_edge {n : Nat} {a : Int} {G : List (List Int)} (ha : 0 ≤ a) {x y : Nat} (e : Tar.Edge n (getG (hL n a G n)) x y) : x = y ∨ Tar.Edge n (getG (gL n G n)) x y := by
  obtain ⟨h1, h2⟩ := e
  by_cases hx : x < n
  · rw [get_hL hx] at h2
    unfold hRow at h2
    simp only [List.cons_append, List.mem_cons, List.mem_append, List.append_assoc, List.not_mem_nil, or_false] at h2
    rcases h2 with h2 | h2 | h2 | h2 | h2
    · left; omega
    · right; exact ⟨h1, by rw [get_gL hx]; exact h2⟩
    · right; exact ⟨h1, by rw [get_gL hx]; exact h2⟩
    · omega
    · omega
  · rw [get_hL_out hx] at h2; cases h2
theorem self_edge2 {n : Nat} {a : Int} {G : List (List Int)} {x y : Nat} (e : Tar.Edge n (getG (gL n G n)) x y) : Tar.Edge n (getG (hL n a G n)) x y := by
  obtain ⟨h1, h2⟩ := e
  by_cases hx : x < n
  · rw [get_gL hx] at h2
    refine ⟨h1, ?_⟩
    rw [get_hL hx]
    unfold hRow
    simp [h2]
  · rw [get_gL_out hx] at h2; cases h2
theorem self_same {n : Nat} {a : Int} {G : List (List Int)} (ha : 0 ≤ a) {k1 k2 : List (List Nat)} {o1 o2 : Nat → Nat} (D1 : Done n (getG (gL n G n)) k1 o1) (D2 : Done n (getG (hL n a G n)) k2 o2) : k1.length = k2.length ∧ ∀ x y, x < n → y < n → (o1 x = o1 y ↔ o2 x = o2 y) := by
  have h1 : ∀ {x y}, Tar.Reach n (getG (gL n G n)) x y → Tar.Reach n (getG (hL n a G n)) x y := fun r => r.of_edges (fun x y e => .one (self_edge2 e))
  have h2 : ∀ {x y}, Tar.Reach n (getG (hL n a G n)) x y → Tar.Reach n (getG (gL n G n)) x y := fun r => r.of_edges (fun x y e => by
    rcases self_edge ha e with rfl | e
    · exact .refl _
    · exact .one e)
  exact same_knots D1 D2 (fun x y _ _ => ⟨fun h => ⟨h1 h.1, h1 h.2⟩, fun h => ⟨h2 h.1, h2 h.2⟩⟩)

structure K2 where
  k : Nat
  lv : Value

structure KS where
  i : Nat
  gv : Value
  hv : Value

set_option maxHeartbeats 2000000 in
theorem self_spec {h : AHeap} {G : List (List Int)} {inv : Value} (D : (cSlc (cSlc cZ)).R (· < h.next) h [inv] G) {at_ : Int} (ha0 : 0 ≤ at_ ∧ at_ < 256) : ACallW Try.prog 7 [inv, .int .u8 at_] h (fun r _ => r = .bool true) := by
  refine acall_begin (fun h0 hn0 st sees => ?_)
  replace D := (cSlc (cSlc cZ)).mono sees D
  clear sees hn0
  refine enter7 ?_
  unfold c7
  obtain ⟨ip, iq, rfl⟩ := slc_val D
  (refine sw_seq ?_; refine sw_reg mixed ?_; simp [Nat.add_assoc, iv, tab_len, tab_getE, tab_set, Nat.add_one_le_iff, p7_0, params, List.range_succ, *])
  refine sw_seq (sw_seq (sw_reg mixed ?_))
  simp [p7_1]
  refine run_callI 8 [] (by simp) (awake_at ?_)
  by_cases hN : G.length ≤ 20
  · have hN' : ¬ (20 < (G.length : Int)) := by omega
    simp [hN']
    refine sw_cond (b := false) (by simp) ?_
    simp
    refine sw_skip ?_
    simp
    (refine sw_seq ?_; refine sw_reg mixed ?_; simp [Nat.add_assoc, iv, tab_len, tab_getE, tab_set, Nat.add_one_le_iff, p7_3, *])
    (refine sw_seq ?_; refine sw_reg mixed ?_; simp [Nat.add_assoc, iv, tab_len, tab_getE, tab_set, Nat.add_one_le_iff, p7_4, *])
    refine sw_seq (sw_seq ?_)
    (refine sw_reg mixed ?_; simp [Nat.add_assoc, iv, tab_len, tab_getE, tab_set, Nat.add_one_le_iff, p7_5, *])
    refine sw_block ?_
    refine sw_loopB st (by (repeat' first | assumption | exact On.refl _ | refine On.bump ?_ _ | refine On.put ?_ _ ?_ | refine On.del ?_ ?_) <;> (try simp only [AHeap.bump_next, AHeap.put_next, AHeap.del_next]) <;> omega) (fun x : KS => [(0, .slice ip G.length iq), (1, .int .u8 at_), (4, .bool false), (5, iv G.length), (6, x.gv), (7, x.hv), (8, iv x.i)])
      (fun x h' => x.i ≤ G.length ∧ Mine h0 h' [x.gv, x.hv] ∧ Bld (cSlc cZ) 24 (NotIn [x.gv, x.hv]) h' x.gv (gL G.length G x.i) ∧ Bld (cSlc cZ) 24 (NotIn [x.gv, x.hv]) h' x.hv (hL G.length at_ G x.i))
      (fun x => G.length - x.i) ⟨0, .slice none 0 0, .slice none 0 0⟩ ?_ ⟨Nat.zero_le _, mine_none (by (repeat' first | assumption | exact On.refl _ | refine On.bump ?_ _ | refine On.put ?_ _ ?_ | refine On.del ?_ ?_) <;> (try simp only [AHeap.bump_next, AHeap.put_next, AHeap.del_next]) <;> omega) (fun v hv j => by simp at hv; subst hv; exact fun q => q.elim), bld_nil, bld_nil⟩ ?_
    · simp [Covers, iv]
    · rintro ⟨i, gv, hv⟩ h2 on ⟨hi, Lo, Bg, Bh⟩
      simp only at hi Lo Bg Bh
      have hnx := on.nxt
      have hwi : IntKind.i64.wrap ((i : Int) + 1) = ((i + 1 : Nat) : Int) := by rw [wrap_in (by omega)]; omega
      refine sw_seq (sw_seq ?_)
      (refine sw_reg mixed ?_; simp [Nat.add_assoc, iv, tab_len, tab_getE, tab_set, Nat.add_one_le_iff, p7_6, *])
      by_cases hlt : i < G.length
      · refine sw_cond (b := true) (by simp; omega) ?_
        simp
        refine sw_skip ?_
        simp
        refine sw_seq (sw_block ?_)
        (refine sw_seq ?_; refine sw_reg mixed ?_; simp [Nat.add_assoc, iv, tab_len, tab_getE, tab_set, Nat.add_one_le_iff, p7_8, *])
        refine sw_cut (fun lv => [(0, .slice ip G.length iq), (1, .int .u8 at_), (4, .bool false), (5, iv G.length), (6, gv), (7, hv), (8, iv i), (9, lv)]) (fun lv h' => On ((h2.bump 3).bump 1) h' ∧ Bld cZ 3 (fun _ => False) h' lv (gRow G.length (getG G i)) ∧ ∀ j, idOf lv j → ((h2.bump 3).bump 1).next ≤ j) (sw_apart (fun h3 hn3 st3 sees3 => ?_)) ?_
        have D3 := (cSlc (cSlc cZ)).mono sees3 (dat_on D (h := (h2.bump 3).bump 1) (by (repeat' first | assumption | exact On.refl _ | refine On.bump ?_ _ | refine On.put ?_ _ ?_ | refine On.del ?_ ?_) <;> (try simp only [AHeap.bump_next, AHeap.put_next, AHeap.del_next]) <;> omega))
        obtain ⟨r, o, own, ty, k, e1, hr, ho, hk, hrow⟩ := slc_open1 rfl D3 (by omega)
        cases e1
        obtain ⟨u, hu, Du⟩ := hrow i G[i] (by simp [hlt])
        have hgi : getG G i = G[i] := by simp [getG, List.getD_eq_getElem?_getD, hlt]
        clear hrow
        obtain ⟨p, q, rfl⟩ := slc_val Du
        (refine sw_seq ?_; refine sw_reg mixed ?_; simp [Nat.add_assoc, iv, tab_len, tab_getE, tab_set, Nat.add_one_le_iff, p7_9, *])
        refine sw_block ?_
        refine sw_loopB st3 (by (repeat' first | assumption | exact On.refl _ | refine On.bump ?_ _ | refine On.put ?_ _ ?_ | refine On.del ?_ ?_) <;> (try simp only [AHeap.bump_next, AHeap.put_next, AHeap.del_next]) <;> omega) (fun x : K2 => [(0, .slice (some ⟨r, o, none⟩) G.length 1), (1, .int .u8 at_), (4, .bool false), (5, iv G.length), (6, gv), (7, hv), (8, iv i), (9, x.lv), (10, iv x.k)])
          (fun x h' => x.k ≤ G[i].length ∧ x.k ≤ 6 ∧ Bld cZ 3 (fun _ => False) h' x.lv (gPart G.length G[i] x.k))
          (fun x => 6 - x.k) ⟨0, .slice none 0 0⟩ ?_ ⟨Nat.zero_le _, Nat.zero_le _, bld_nil⟩ ?_
        · simp [Covers, iv]
        · rintro ⟨k1, lv⟩ h4 on4 ⟨hk1, hk6, Bl⟩
          simp only at hk1 hk6 Bl
          have hu2 := (List.getElem?_eq_some_iff.1 hu).2
          have ho4 := (on4.obj r hr).trans ho
          have hwk : IntKind.i64.wrap ((k1 : Int) + 1) = ((k1 + 1 : Nat) : Int) := by rw [wrap_in (by omega)]; omega
          refine sw_seq (sw_seq ?_)
          by_cases hk : k1 < G[i].length ∧ k1 < 6
          · obtain ⟨hk2, hk3⟩ := hk
            have hk3' : (k1 : Int) < 6 := by omega
            (refine sw_reg mixed ?_; simp [Nat.add_assoc, iv, tab_len, tab_getE, tab_set, Nat.add_one_le_iff, p7_10, *])
            refine sw_cond (b := true) (by simp) ?_
            simp
            refine sw_skip ?_
            simp
            rcases row_ints Du with ⟨_, e⟩ | ⟨e, _⟩ | ⟨_, s, w, _, _, c, e, hs, hso, hsl, _, hget⟩
            · rw [e] at hk2; simp at hk2
            · rw [e] at hk2; simp at hk2
            cases e
            have hg1 := hget k1 (G[i][k1]) (by simp [hk2])
            have hg3 := (List.getElem?_eq_some_iff.1 hg1).2
            have hso4 := (on4.obj s hs).trans hso
            have hz1 : IntKind.u64.wrap (G.length : Int) = G.length := u64_in (by omega)
            have hz2 : ¬ ((G.length : Int) = 0) := by omega
            have hz2' : ¬ G = [] := by intro e; rw [e] at hlt; simp at hlt
            have hz3 := modn_eq (n := G.length) (by omega) (by omega) (G[i][k1])
            have hss := hsl
            clear hget
            generalize hrow : G[i] = row at *
            obtain ⟨L, hL, hA, hr4⟩ := bld_open Bl
            have hi' := gPart_succ (n := G.length) hk2
            have hlen := gPart_len (n := G.length) hk1
            have fin : Hid _ := ⟨fun h' id m => bld_app (ty := 3) (S' := fun _ => False) (h' := h') (id := id) (m := m) (sz := 1) (x := ((modn G.length row[k1] : Nat) : Int)) (cs := [.int .i64 (modn G.length row[k1] : Nat)]) hL hr4⟩
            rw [← hi', hlen] at fin
            rw [hlen] at hL hA
            replace hL : L.length = k1 := by rw [hL]; simp
            have hb1 : (k1 + 1) * 8 ≤ 140737488355328 := by omega
            replace hi' : Hid _ := ⟨hi'⟩
            clear hr4 hlen
            have hkk : k1 ≤ 5 := by omega
            refine sw_seq (sw_block ?_)
            rcases hA with ⟨rfl, rfl, hA⟩ | ⟨wid, c', rfl, hwl, hwo⟩
            · replace hL : Hid _ := ⟨hL⟩
              (refine sw_reg mixed ?_; simp [Nat.add_assoc, iv, tab_len, tab_getE, tab_set, Nat.add_one_le_iff, p7_12, *])
              intro z1
              (refine sw_reg mixed ?_; simp [Nat.add_assoc, iv, tab_len, tab_getE, tab_set, Nat.add_one_le_iff, p7_11, *])
              have hk0 : k1 = 0 := by have := hL.out; simpa using this.symm
              refine ⟨⟨k1 + 1, _⟩, by simp [Covers]; rfl, ⟨by simp; omega, by simp; omega, ?_⟩, by simp; omega⟩
              refine fin.out _ _ _ ?_ rfl ?_ ?_ ?_ ⟨[], ?_⟩ (fun _ _ q => q) ?_ rfl
              · omega
              · omega
              · simp; try omega
              · simp; try omega
              · simp
              exact fun _ _ q => q.elim
            · obtain rfl : L.length = k1 := hL
              have fw := ne_fresh hwl
              (refine sw_reg mixed ?_; simp [Nat.add_assoc, iv, tab_len, tab_getE, tab_set, Nat.add_one_le_iff, p7_12, *])
              intro z1
              (refine sw_reg mixed ?_; simp [Nat.add_assoc, iv, tab_len, tab_getE, tab_set, Nat.add_one_le_iff, p7_11, *])
              refine ⟨⟨L.length + 1, _⟩, by simp [Covers]; rfl, ⟨by simp; omega, by simp; omega, ?_⟩, by simp; omega⟩
              refine fin.out _ _ _ ?_ rfl ?_ ?_ ?_ ⟨[], ?_⟩ (fun _ _ q => q) ?_ rfl
              · omega
              · omega
              · simp; try omega
              · simp; try omega
              · simp
              exact fun _ _ q => q.elim
          · have hend : gPart G.length G[i] k1 = gRow G.length G[i] := by
              unfold gRow gPart
              by_cases h6 : k1 = 6
              · rw [h6]
              · rw [List.take_of_length_le (by omega), List.take_of_length_le (by omega)]
            rw [hend] at Bl
            by_cases hk2 : k1 < G[i].length
            all_goals
              have hk3 : ¬ ((k1 : Int) < 6) ∨ ¬ (k1 < G[i].length) := by omega
              have hk4 : k1 < G[i].length → ¬ (k1 < 6) := fun a b => hk ⟨a, b⟩
            · have hk5 : ¬ (k1 < 6) := hk4 hk2
              have hk6' : ¬ ((k1 : Int) < 6) := by omega
              clear hk3 hk4
              (refine sw_reg mixed ?_; simp [Nat.add_assoc, iv, tab_len, tab_getE, tab_set, Nat.add_one_le_iff, p7_10, *])
              refine sw_cond (b := false) (by simp) ?_
              simp
              refine sw_exit ?_
              simp
              intro h5 e1 on5 e2 e3
              obtain ⟨B5, id5⟩ := bld_apart (bld_keep (h' := h4.bump 11) Bl (by simp) (fun _ _ q => q) (fun _ _ _ => rfl)) st3 hn3 (on4.bump 11) e1 (fun i hi => e2 i (by simp at hi; omega)) e3
              exact ⟨lv, by simp [Covers], on5, B5, fun j hj => by have := id5 j hj; simp at this; omega⟩
            · clear hk3 hk4
              (refine sw_reg mixed ?_; simp [Nat.add_assoc, iv, tab_len, tab_getE, tab_set, Nat.add_one_le_iff, p7_10, *])
              refine sw_cond (b := false) (by simp) ?_
              simp
              refine sw_exit ?_
              simp
              intro h5 e1 on5 e2 e3
              obtain ⟨B5, id5⟩ := bld_apart (bld_keep (h' := h4.bump 11) Bl (by simp) (fun _ _ q => q) (fun _ _ _ => rfl)) st3 hn3 (on4.bump 11) e1 (fun i hi => e2 i (by simp at hi; omega)) e3
              exact ⟨lv, by simp [Covers], on5, B5, fun j hj => by have := id5 j hj; simp at this; omega⟩
        · rintro lv h3 ⟨on3, Bl, idl⟩
          have hgi : getG G i = G[i] := by simp [getG, List.getD_eq_getElem?_getD, hlt]
          have hgl : gL G.length G (i + 1) = gL G.length G i ++ [gRow G.length (getG G i)] := by simp [gL, List.range_succ]
          have hhl : hL G.length at_ G (i + 1) = hL G.length at_ G i ++ [hRow G.length at_ i (getG G i)] := by simp [hL, List.range_succ]
          have hgn : (gL G.length G i).length = i := gL_len _ _ _
          have hhn : (hL G.length at_ G i).length = i := hL_len _ _ _ _
          rw [hgi] at Bl hgl hhl
          generalize G[i] = gi at *
          have hrl : (gRow G.length gi).length ≤ 6 := by simp [gRow, gPart]; omega
          have onx : On h2 h3 := ((On.refl h2).bump 3 |>.bump 1).trans on3
          have idl' : ∀ j, idOf lv j → h2.next ≤ j := fun j hj => by have := idl j hj; simp at this; omega
          have Lo3 := Lo.cons onx (w := lv) (fun j hj => ⟨idl' j hj, bld_lt Bl j hj⟩)
          have Bg3 := bld_later Bg onx (notIn_cons idl')
          have Bh3 := bld_later Bh onx (notIn_cons idl')
          have Dl := Lo3.done (bld_keep Bl (Nat.le_refl _) (fun _ _ q => q.elim) (fun _ _ _ => rfl))
          have Lo4 := Lo3.tail
          obtain ⟨C, hC, hA, hpush⟩ := Lo4.push (k := 0) rfl (bld_keep (S' := NotIn [gv, hv]) Bg3 (Nat.le_refl _) (fun _ _ q => notIn_tail q) (fun _ _ _ => rfl))
          replace Bh3 := bld_keep (S' := NotIn [gv, hv]) Bh3 (Nat.le_refl _) (fun _ _ q => notIn_tail q) (fun _ _ _ => rfl)
          obtain ⟨lp, lq, rfl⟩ := bld_val Bl
          clear Bl idl idl' Lo3 Bg3 onx on3 Bg Bh Lo
          refine sw_cut (fun gv' => [(0, .slice ip G.length iq), (1, .int .u8 at_), (4, .bool false), (5, iv G.length), (6, gv'), (7, hv), (8, iv i), (9, .slice lp (gRow G.length gi).length lq)])
            (fun gv' h' => Mine h0 h' [gv', hv] ∧ Bld (cSlc cZ) 24 (NotIn [gv', hv]) h' gv' (gL G.length G (i + 1)) ∧ Bld (cSlc cZ) 24 (NotIn [gv', hv]) h' hv (hL G.length at_ G i) ∧ (cSlc cZ).R (Fz [gv', hv] h') h' [.slice lp (gRow G.length gi).length lq] (gRow G.length gi)) ?_ ?_
          · have fin : Hid _ := ⟨fun h' id m g hm hid hlt ho => hpush h' id m 1 (gRow G.length gi) [.slice lp (gRow G.length gi).length lq] [] g hm rfl hid hlt ho (fun s => (cSlc cZ).mono s Dl)⟩
            rw [← hgl, hgn] at fin
            replace hgl : Hid _ := ⟨hgl⟩
            replace hhl : Hid _ := ⟨hhl⟩
            replace hgi : Hid _ := ⟨hgi⟩
            have fin2 : Hid _ := ⟨fun h' id m g hm hid hlt ho => let q := fin.out h' id m g hm hid hlt ho; And.intro q.1 (And.intro q.2.1 (And.intro (q.2.2.2 1 hv (by omega) rfl Bh3) ((cSlc cZ).mono q.2.2.1 Dl)))⟩
            rw [hgn] at hC hA
            replace hC : C.length = i := by rw [hC]; simp
            have hb1 : (i + 1) * 24 ≤ 140737488355328 := by omega
            clear hpush fin Dl Bh3
            generalize hrw : gRow G.length gi = row at *
            rcases hA with ⟨rfl, rfl, hA⟩ | ⟨wid, c', rfl, hwl, hwo⟩
            · replace hC : Hid _ := ⟨hC⟩
              clear hA
              (refine sw_reg mixed ?_; simp [Nat.add_assoc, iv, tab_len, tab_getE, tab_set, Nat.add_one_le_iff, p7_13, *])
              intro z1
              refine ⟨_, by simp [Covers]; rfl, ?_⟩
              refine fin2.out _ (h3.next + 3) 1 ?_ ?_ ?_ ?_ ?_
              · exact (by refine ⟨by simp; try omega, fun j hj hne => ?_⟩; have fj := ne_fresh hj; simp [fj, Nat.add_assoc]; try (intro e; exact absurd e hne))
              · have := hC.out; simp at this; omega
              · omega
              · simp; try omega
              · simp
            · obtain rfl : C.length = i := hC
              have fw := ne_fresh hwl
              (refine sw_reg mixed ?_; simp [Nat.add_assoc, iv, tab_len, tab_getE, tab_set, Nat.add_one_le_iff, p7_13, *])
              intro z1
              refine ⟨_, by simp [Covers]; rfl, ?_⟩
              refine fin2.out _ (h3.next + 3) (C.length + 1) ?_ ?_ ?_ ?_ ?_
              · exact (by refine ⟨by simp; try omega, fun j hj hne => ?_⟩; have fj := ne_fresh hj; simp [fj, Nat.add_assoc]; try (intro e; exact absurd e hne))
              · rfl
              · omega
              · simp; try omega
              · simp
          · rintro gv' h4 ⟨Lo5, Bg5, Bh5, Dl5⟩
            clear Bh3 Dl hpush hA hC Lo4
            obtain ⟨C, hC, hA, hpush⟩ := Lo5.push (k := 1) rfl Bh5
            have fin : Hid _ := ⟨fun h' id id2 m k g hm hid hlt ho hid2 (ho2 : h'.obj id2 = some (.arr true 3 ((hRow G.length at_ i gi).map (Value.int .i64) ++ [])) ∧ k = (hRow G.length at_ i gi).length) => hpush h' id m 1 (hRow G.length at_ i gi) [.slice (some ⟨id2, 0, none⟩) k 1] [] g hm rfl hid hlt ho (fun s => ints_mk [] hid2 ho2.1 ho2.2)⟩
            rw [← hhl, hhn] at fin
            replace hgl : Hid _ := ⟨hgl⟩
            replace hhl : Hid _ := ⟨hhl⟩
            replace hgi : Hid _ := ⟨hgi⟩
            replace hhn : Hid _ := ⟨hhn⟩
            replace hgn : Hid _ := ⟨hgn⟩
            have fin2 : Hid _ := ⟨fun h' id id2 m k g hm hid hlt ho hid2 ho2 => let q := fin.out h' id id2 m k g hm hid hlt ho hid2 ho2; And.intro q.1 (And.intro (q.2.2.2 0 gv' (by omega) rfl Bg5) q.2.1)⟩
            rw [hhn.out] at hC hA
            replace hC : C.length = i := by rw [hC]; simp
            have hb1 : (i + 1) * 24 ≤ 140737488355328 := by omega
            have lo4 := Lo5.lo
            clear hpush fin Lo5
            have hrx : hRow G.length at_ i gi = ((i : Int) :: gRow G.length gi ++ gRow G.length gi) ++ [-1, (G.length : Int) + at_] := rfl
            have hw5 : IntKind.i64.wrap at_ = at_ := wrap_in (by omega)
            have hw6 : IntKind.i64.wrap ((G.length : Int) + at_) = (G.length : Int) + at_ := wrap_in (by omega)
            generalize hrw : gRow G.length gi = row at *
            generalize hhr : hRow G.length at_ i gi = hrow at *
            have hhr' : Hid _ := ⟨hrx⟩
            clear hhr hrx
            replace hrw : Hid _ := ⟨hrw⟩
            rcases hA with ⟨rfl, rfl, hA⟩ | ⟨wid, c', rfl, hwl, hwo⟩ <;> rcases row_ints Dl5 with ⟨e, rfl⟩ | ⟨rfl, r', o', e⟩ | ⟨hpos, r', o', own', ty', k', e, hr', ho', hk', htk, _⟩ <;> cases e
            all_goals try clear hA
            all_goals first | (obtain rfl : C.length = i := hC) | (replace hC : Hid _ := ⟨hC⟩)
            all_goals try (have fr' := ne_fresh hr'.2; have hne : ¬ row = [] := List.length_pos_iff.1 hpos; have hb2 : (1 + row.length) * 8 ≤ 140737488355328 := (by omega); have hb3 : (1 + (row.length + row.length)) * 8 ≤ 140737488355328 := (by omega); have hb4 : (1 + (row.length + (row.length + 2))) * 8 ≤ 140737488355328 := (by omega); have hq1 : 1 + row.length ≤ row.length + 1 := (by omega); have hq4 : 1 + (row.length + row.length) ≤ row.length + (row.length + 1) := (by omega); have hq2 : ∀ x : Value, List.take (1 + row.length) (x :: row.map (Value.int .i64)) = x :: row.map (Value.int .i64) := fun x => List.take_of_length_le (by simp; omega); have hq3 : ∀ x : Value, List.take (1 + (row.length + row.length)) (x :: (row.map (Value.int .i64) ++ row.map (Value.int .i64))) = x :: (row.map (Value.int .i64) ++ row.map (Value.int .i64)) := fun x => List.take_of_length_le (by simp; omega))
            all_goals try (have fw := ne_fresh hwl)
            all_goals (refine sw_seq ?_; refine sw_reg mixed ?_; simp [Nat.add_assoc, iv, tab_len, tab_getE, tab_set, Nat.add_one_le_iff, p7_14, *])
            all_goals intros
            all_goals (refine sw_reg mixed ?_; simp [Nat.add_assoc, iv, tab_len, tab_getE, tab_set, Nat.add_one_le_iff, p7_15, *])
            all_goals intros
            all_goals (refine sw_reg mixed ?_; simp [Nat.add_assoc, iv, tab_len, tab_getE, tab_set, Nat.add_one_le_iff, p7_7, *])
            all_goals refine ⟨⟨_ + 1, gv', _⟩, by simp [Covers]; exact ⟨rfl, rfl⟩, ⟨by simp; omega, ?_⟩, by simp; omega⟩
            all_goals have hk7 := congrArg List.length hhr'.out
            all_goals simp at hk7
            all_goals refine fin2.out _ (h4.next + 16) (h4.next + 14) _ hrow.length ?_ ?_ ?_ ?_ ?_ ?_ ?_
            all_goals first
              | exact (by refine ⟨by simp; try omega, fun j hj hne => ?_⟩; have fj := ne_fresh hj; simp [fj, Nat.add_assoc]; try (intro e; exact absurd e hne))
              | rfl
              | omega
              | (simp; done)
              | (simp; omega)
              | (simp [hk7]; done)
              | (simp [hk7]; omega)
              | (have := hC.out; simp at this; omega)
              | (refine ⟨fun v hv q => ?_, by simp⟩; simp at hv; rcases hv with rfl | rfl; · have := (lo4 _ (by simp) _ q).2; omega
                 · have q' : h4.next + 14 = h4.next + 16 := q; omega)
              | (refine ⟨?_, rfl⟩; rw [hhr'.out]; simp [Nat.add_assoc, *])
              | trace_state
      · refine sw_cond (b := false) (by simp; omega) ?_
        simp
        refine sw_exit ?_
        simp
        obtain rfl : i = G.length := by omega
        have Lo' := Lo.same (h' := h2.bump 3) (by simp) rfl
        refine sw_begin (fun h3 hn3 st3 sees3 => ?_)
        have Dg := (cSlc (cSlc cZ)).mono sees3 (bld_done (bld_same (h' := h2.bump 3) Bg (by simp) rfl))
        have Dh := (cSlc (cSlc cZ)).mono sees3 (bld_done (bld_same (h' := h2.bump 3) Bh (by simp) rfl))
        clear sees3 Bg Bh Lo Lo' on hnx hwi st hn3 D
        have hgn : (gL G.length G G.length).length = G.length := gL_len _ _ _
        have hhn : (hL G.length at_ G G.length).length = G.length := hL_len _ _ _ _
        refine sw_seq (sw_reg mixed ?_)
        simp [p7_16]
        refine run_callI 9 [gv] (by simp) (find_at (dat_on Dg (by (repeat' first | assumption | exact On.refl _ | refine On.bump ?_ _ | refine On.put ?_ _ ?_ | refine On.del ?_ ?_) <;> (try simp only [AHeap.bump_next, AHeap.put_next, AHeap.del_next]) <;> omega)) (by omega) (fun l hl => ?_) ?_)
        · obtain ⟨v, _, rfl⟩ := List.mem_map.1 hl
          simp [gRow, gPart]; omega
        intro h4 kp kq oid knots of on4 olt oobj Dn
        simp
        refine sw_seq (sw_reg mixed ?_)
        simp [p7_17]
        refine run_callI 9 [hv] (by simp) (find_at (dat_on Dh (((((On.refl h3).bump 7).trans on4)).bump 7)) (by omega) (fun l hl => ?_) ?_)
        · obtain ⟨v, _, rfl⟩ := List.mem_map.1 hl
          simp [hRow, gRow, gPart]; omega
        intro h5 kp2 kq2 oid2 knots2 of2 on5 olt2 oobj2 Dn2
        rw [hgn] at oobj Dn
        rw [hhn] at oobj2 Dn2
        obtain ⟨hkl, hsm⟩ := self_same ha0.1 Dn Dn2
        have hsmH : Hid _ := ⟨hsm⟩
        have oobj' : h5.obj oid = some (.arr true 3 (tab G.length fun i => iv (of i))) := (on5.obj oid (by simp; omega)).trans oobj
        have olt' : oid < h5.next := by have := on5.nxt; simp at this; omega
        clear hsm Dn Dn2 Dg Dh on5 on4 oobj olt
        simp
        refine sw_seq (sw_seq ?_)
        (refine sw_reg mixed ?_; simp [Nat.add_assoc, iv, tab_len, tab_getE, tab_set, Nat.add_one_le_iff, p7_18, *])
        refine sw_cond (b := false) (by simp) ?_
        simp
        refine sw_skip ?_
        simp
        refine sw_begin (fun h6 hn6 st6 sees6 => ?_)
        obtain ⟨w6, o6⟩ := sees6.arr (i := oid) (by simp; omega) (own := true) (ty := 3) (by simpa using oobj')
        obtain ⟨w6', o6'⟩ := sees6.arr (i := oid2) (by simp; omega) (own := true) (ty := 3) (by simpa using oobj2)
        simp at hn6
        have l6 : oid < h6.next := by omega
        have l6' : oid2 < h6.next := by omega
        clear sees6 oobj' oobj2 olt' olt2 hn6
        refine sw_seq (sw_seq ?_)
        (refine sw_reg mixed ?_; simp [Nat.add_assoc, iv, tab_len, tab_getE, tab_set, Nat.add_one_le_iff, p7_20, *])
        refine sw_block ?_
        refine sw_loopB st6 (by (repeat' first | assumption | exact On.refl _ | refine On.bump ?_ _ | refine On.put ?_ _ ?_ | refine On.del ?_ ?_) <;> (try simp only [AHeap.bump_next, AHeap.put_next, AHeap.del_next]) <;> omega) (fun x : Nat => [(5, iv G.length), (13, .slice (some ⟨oid, 0, none⟩) G.length 1), (15, .slice (some ⟨oid2, 0, none⟩) G.length 1), (16, iv x)]) (fun x h' => x ≤ G.length) (fun x => G.length - x) 0 ?_ (Nat.zero_le _) ?_
        · simp [Covers, iv]
        · rintro v h7 on7 hv7
          change v ≤ G.length at hv7
          have hwv : IntKind.i64.wrap ((v : Int) + 1) = ((v + 1 : Nat) : Int) := by rw [wrap_in (by omega)]; omega
          have hnx := on7.nxt
          refine sw_seq (sw_seq ?_)
          (refine sw_reg mixed ?_; simp [Nat.add_assoc, iv, tab_len, tab_getE, tab_set, Nat.add_one_le_iff, p7_21, *])
          by_cases hlv : v < G.length
          · refine sw_cond (b := true) (by simp; omega) ?_
            simp
            refine sw_skip ?_
            simp
            refine sw_seq (sw_block (sw_seq ?_))
            (refine sw_reg mixed ?_; simp [Nat.add_assoc, iv, tab_len, tab_getE, tab_set, Nat.add_one_le_iff, p7_23, *])
            refine sw_block ?_
            refine sw_loopB st6 (by (repeat' first | assumption | exact On.refl _ | refine On.bump ?_ _ | refine On.put ?_ _ ?_ | refine On.del ?_ ?_) <;> (try simp only [AHeap.bump_next, AHeap.put_next, AHeap.del_next]) <;> omega) (fun x : Nat => [(5, iv G.length), (13, .slice (some ⟨oid, 0, none⟩) G.length 1), (15, .slice (some ⟨oid2, 0, none⟩) G.length 1), (16, iv v), (17, iv x)]) (fun x h' => x ≤ G.length) (fun x => G.length - x) 0 ?_ (Nat.zero_le _) ?_
            · simp [Covers, iv]
            · rintro u h8 on8 hu8
              change u ≤ G.length at hu8
              have hwu : IntKind.i64.wrap ((u : Int) + 1) = ((u + 1 : Nat) : Int) := by rw [wrap_in (by omega)]; omega
              have q1 := (on8.obj oid l6).trans o6
              have q2 := (on8.obj oid2 l6').trans o6'
              refine sw_seq (sw_seq ?_)
              (refine sw_reg mixed ?_; simp [Nat.add_assoc, iv, tab_len, tab_getE, tab_set, Nat.add_one_le_iff, p7_24, *])
              by_cases hlu : u < G.length
              · refine sw_cond (b := true) (by simp; omega) ?_
                simp
                refine sw_skip ?_
                simp
                have heq : ((of v : Int) == (of u : Int)) = ((of2 v : Int) == (of2 u : Int)) := by
                  have := hsmH.out v u hlv hlu
                  rw [Bool.eq_iff_iff]; simp only [beq_iff_eq]; omega
                refine sw_seq (sw_block (sw_seq ?_))
                (refine sw_reg mixed ?_; simp [Nat.add_assoc, iv, tab_len, tab_getE, tab_set, Nat.add_one_le_iff, p7_26, *])
                refine sw_cond (b := false) (by simp [heq]) ?_
                simp
                refine sw_skip ?_
                simp
                (refine sw_reg mixed ?_; simp [Nat.add_assoc, iv, tab_len, tab_getE, tab_set, Nat.add_one_le_iff, p7_25, *])
                exact ⟨u + 1, by simp [Covers], hlu, by omega⟩
              · refine sw_cond (b := false) (by simp; omega) ?_
                simp
                refine sw_exit ?_
                simp
                (refine sw_reg mixed ?_; simp [Nat.add_assoc, iv, tab_len, tab_getE, tab_set, Nat.add_one_le_iff, p7_22, *])
                exact ⟨v + 1, by simp [Covers], hlv, by omega⟩
          · refine sw_cond (b := false) (by simp; omega) ?_
            simp
            refine sw_exit ?_
            simp
            (refine sw_seq ?_; refine sw_reg mixed ?_; simp [Nat.add_assoc, iv, tab_len, tab_getE, tab_set, Nat.add_one_le_iff, p7_28, *])
            refine sw_ret ?_
            simp
  · have hN' : (20 : Int) < G.length := by omega
    simp [hN']
    refine sw_cond (b := true) (by simp) ?_
    simp
    refine sw_seq (sw_reg mixed ?_)
    simp [p7_2]
    refine run_callI 8 [] (by simp) (awake_at ?_)
    simp
    refine sw_ret ?_
    simp

end Go.Proofs.Ytbcgcnmnblfhmaa
