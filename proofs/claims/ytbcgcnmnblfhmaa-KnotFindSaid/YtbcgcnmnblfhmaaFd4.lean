/- KnotFind: relaxed as many times as there are nodes. -/
import Derived.Test.YtbcgcnmnblfhmaaFd3
namespace Go.Proofs.Ytbcgcnmnblfhmaa
open Lin Tar
set_option maxRecDepth 10000
set_option linter.unusedSimpArgs false

structure KR where
  t : Nat
  v : Nat
  k : Nat
  u : Nat
  R : Nat → Nat → Bool

/-- In a round t, before node v. -/
structure At (n : Nat) (into : Nat → List Int) (R : Nat → Nat → Bool) (t v : Nat) : Prop where
  sound : Sound n into R
  all : Comp n into R t (fun _ => True)
  some_ : Comp n into R (t + 1) (fun x => x < v)

theorem At.mono {n : Nat} {into : Nat → List Int} {R : Nat → Nat → Bool} {t v w x u : Nat} (A : At n into R t v) (e : Tar.Edge n into x w) (hx : x < n) (hu : u < n) : At n into (set2 R x u (R x u || R w u)) t v :=
  ⟨A.sound.set e hx hu, fun a l b p q r s z => set2_mono (fun g => by simp [g]) (A.all a l b p q r s z), fun a l b p q r s z => set2_mono (fun g => by simp [g]) (A.some_ a l b p q r s z)⟩
theorem Over.mono {n : Nat} {into : Nat → List Int} {R : Nat → Nat → Bool} {t v k x u : Nat} {w : Nat} (A : Over n into R t v k) : Over n into (set2 R x u (R x u || R w u)) t v k :=
  fun j w' l b p q r s z m => set2_mono (fun g => by simp [g]) (A j w' l b p q r s z m)
theorem Upto.push {R : Nat → Nat → Bool} {v w u : Nat} (A : Upto R v w u) : Upto (set2 R v u (R v u || R w u)) v w (u + 1) := by
  intro x hx hr
  by_cases hxu : x = u
  · subst hxu
    rw [set2_same]
    by_cases hwv : w = v
    · subst hwv
      rw [set2_same] at hr; exact hr
    · have : set2 R v x (R v x || R w x) w x = R w x := by simp [set2, hwv]
      rw [this] at hr
      simp [hr]
  · have h1 : ∀ y, set2 R v u (R v u || R w u) y x = R y x := fun y => by simp [set2, hxu]
    rw [h1] at hr ⊢
    exact A x (by omega) hr
theorem Over.next {n : Nat} {into : Nat → List Int} {R : Nat → Nat → Bool} {t v k : Nat} (O : Over n into R t v k) (H : ∀ w : Nat, (into v)[k]? = some (w : Int) → w < n → ∀ l u, u < n → Walk n into w l u → l.length ≤ t → R v u = true) : Over n into R t v (k + 1) := by
  intro j w l u hj hw hwn hu wk hl
  by_cases hjk : j = k
  · subst hjk; exact H w hw hwn l u hu wk hl
  · exact O j w l u (by omega) hw hwn hu wk hl
theorem At.next {n : Nat} {into : Nat → List Int} {R : Nat → Nat → Bool} {t v : Nat} (A : At n into R t v) (hv : v < n) (O : Over n into R t v (into v).length) : At n into R t (v + 1) :=
  ⟨A.sound, A.all, fun x l u hx hxn hu w hl => by
    by_cases hxv : x = v
    · subst hxv; exact O.done A.all hv l u hu w hl
    · exact A.some_ x l u (by omega) hxn hu w hl⟩
theorem At.round {n : Nat} {into : Nat → List Int} {R : Nat → Nat → Bool} {t : Nat} (A : At n into R t n) : At n into R (t + 1) 0 :=
  ⟨A.sound, fun x l u _ hx hu w hl => A.some_ x l u hx hx hu w hl, fun x _ _ hx => absurd hx (Nat.not_lt_zero x)⟩

set_option maxHeartbeats 4000000 in
theorem find_t7 {h0 h : AHeap} (st : ∀ i, still (h0.obj i) = true) {O : Nat} {rid : Nat → Nat} {gv : Value} {G : List (List Int)} {R0 : Nat → Nat → Bool} {oty : TypeId} (hn : G.length ≤ 25) (M0 : Mat h0 h G.length O oty rid R0) (D : (cSlc (cSlc cZ)).R (· < h0.next) h0 [gv] G)
    (hI : ∀ l ∈ G, l.length ≤ 1000000) (A0 : At G.length (getG G) R0 0 0) :
    SW Try.prog 287 c3_7 [(5, iv G.length), (6, gv), (11, .slice (some ⟨O, 0, none⟩) G.length 1)] h (retQ Try.prog [.tmp 4] fun v _ => v = .bool true) := by
  unfold c3_7
  obtain ⟨gp, gq, rfl⟩ := slc_val D
  refine sw_seq (sw_seq ?_)
  (refine sw_reg mixed ?_; simp [Nat.add_assoc, iv, tab_len, tab_getE, tab_set, Nat.add_one_le_iff, p3_25, *])
  refine sw_block ?_
  refine sw_loopB st (M0.on.bump 1) (fun x : KR => [(5, iv G.length), (6, .slice gp G.length gq), (11, .slice (some ⟨O, 0, none⟩) G.length 1), (13, iv x.t)]) (fun x h' => x.t ≤ G.length ∧ Mat h0 h' G.length O oty rid x.R ∧ At G.length (getG G) x.R x.t 0) (fun x => G.length - x.t) ⟨0, 0, 0, 0, R0⟩ ?_ ⟨Nat.zero_le _, M0.same (by simp) rfl, A0⟩ ?_
  · simp [Covers, iv]
  · clear M0 A0 R0
    rintro ⟨t, _, _, _, R⟩ h1 on1 ⟨ht, M1, A1⟩
    simp only at ht M1 A1
    have hwt : IntKind.i64.wrap ((t : Int) + 1) = ((t + 1 : Nat) : Int) := by rw [wrap_in (by omega)]; omega
    refine sw_seq (sw_seq ?_)
    (refine sw_reg mixed ?_; simp [Nat.add_assoc, iv, tab_len, tab_getE, tab_set, Nat.add_one_le_iff, p3_26, *])
    by_cases hlt : t < G.length
    · refine sw_cond (b := true) (by simp; omega) ?_
      simp
      refine sw_skip ?_
      simp
      refine sw_seq (sw_block (sw_seq ?_))
      (refine sw_reg mixed ?_; simp [Nat.add_assoc, iv, tab_len, tab_getE, tab_set, Nat.add_one_le_iff, p3_28, *])
      refine sw_block ?_
      refine sw_loopB st ((on1.bump 3).bump 1) (fun x : KR => [(5, iv G.length), (6, .slice gp G.length gq), (11, .slice (some ⟨O, 0, none⟩) G.length 1), (13, iv t), (14, iv x.v)]) (fun x h' => x.v ≤ G.length ∧ Mat h0 h' G.length O oty rid x.R ∧ At G.length (getG G) x.R t x.v) (fun x => G.length - x.v) ⟨t, 0, 0, 0, R⟩ ?_ ⟨Nat.zero_le _, M1.same (by simp; omega) rfl, A1⟩ ?_
      · simp [Covers, iv]
      · clear M1 A1 R
        rintro ⟨_, v, _, _, R⟩ h2 on2 ⟨hv, M2, A2⟩
        simp only at hv M2 A2
        have hwv : IntKind.i64.wrap ((v : Int) + 1) = ((v + 1 : Nat) : Int) := by rw [wrap_in (by omega)]; omega
        refine sw_seq (sw_seq ?_)
        (refine sw_reg mixed ?_; simp [Nat.add_assoc, iv, tab_len, tab_getE, tab_set, Nat.add_one_le_iff, p3_29, *])
        by_cases hlv : v < G.length
        · refine sw_cond (b := true) (by simp; omega) ?_
          simp
          refine sw_skip ?_
          simp
          obtain ⟨r, o, own, ty, c, e1, hr, ho, hk, hrow⟩ := slc_open1 rfl D (by omega)
          cases e1
          obtain ⟨row, hrw⟩ : ∃ row, G[v]? = some row := ⟨_, List.getElem?_eq_getElem hlv⟩
          obtain ⟨u0, hu, Du⟩ := hrow v row hrw
          have hgr : getG G v = row := by simp [getG, List.getD_eq_getElem?_getD, hrw]
          have hrl := hI row (List.mem_of_getElem? hrw)
          obtain ⟨p, q, rfl⟩ := slc_val Du
          have hu2 := (List.getElem?_eq_some_iff.1 hu).2
          clear hrow hrw
          replace hgr := Hid.mk hgr
          refine sw_seq (sw_block (sw_seq ?_))
          (refine sw_reg mixed ?_; simp [Nat.add_assoc, iv, tab_len, tab_getE, tab_set, Nat.add_one_le_iff, p3_31, *])
          refine sw_block ?_
          refine sw_loopB st ((on2.bump 3).bump 1) (fun x : KR => [(5, iv G.length), (6, .slice (some ⟨r, o, none⟩) G.length 1), (11, .slice (some ⟨O, 0, none⟩) G.length 1), (13, iv t), (14, iv v), (15, iv x.k)]) (fun x h' => x.k ≤ row.length ∧ Mat h0 h' G.length O oty rid x.R ∧ At G.length (getG G) x.R t v ∧ Over G.length (getG G) x.R t v x.k) (fun x => row.length - x.k) ⟨t, v, 0, 0, R⟩ ?_ ⟨Nat.zero_le _, M2.same (by simp; omega) rfl, A2, fun _ _ _ _ hj => absurd hj (Nat.not_lt_zero _)⟩ ?_
          · simp [Covers, iv]
          · clear M2 A2 R
            rintro ⟨_, _, k, _, R⟩ h3 on3 ⟨hk3, M3, A3, O3⟩
            simp only at hk3 M3 A3 O3
            have hwk : IntKind.i64.wrap ((k : Int) + 1) = ((k + 1 : Nat) : Int) := by rw [wrap_in (by omega)]; omega
            have q0 := (on3.obj r hr).trans ho
            refine sw_seq (sw_seq ?_)
            (refine sw_reg mixed ?_; simp [Nat.add_assoc, iv, tab_len, tab_getE, tab_set, Nat.add_one_le_iff, p3_32, *])
            by_cases hlk : k < row.length
            · refine sw_cond (b := true) (by simp; omega) ?_
              simp
              refine sw_skip ?_
              simp
              rcases row_ints Du with ⟨_, e⟩ | ⟨e, _⟩ | ⟨_, s, sw, ow, tw, cw, e, hs, hso, hsl, _, hget⟩
              · rw [e] at hlk; simp at hlk
              · rw [e] at hlk; simp at hlk
              cases e
              have g1 := hget k row[k] (by simp [hlk])
              have g2 := (List.getElem?_eq_some_iff.1 g1).2
              have q1 := (on3.obj s hs).trans hso
              have hjw : (getG G v)[k]? = some row[k] := by rw [hgr.out]; simp [hlk]
              clear hget
              generalize row[k] = w at *
              have hjwH := Hid.mk hjw
              clear hjw
              refine sw_seq (sw_block (sw_seq ?_))
              (refine sw_reg mixed ?_; simp [Nat.add_assoc, iv, tab_len, tab_getE, tab_set, Nat.add_one_le_iff, p3_34, *])
              refine sw_seq ?_
              (refine sw_reg mixed ?_; simp [Nat.add_assoc, iv, tab_len, tab_getE, tab_set, Nat.add_one_le_iff, p3_35, *])
              refine sw_block ?_
              refine sw_loopB st (((on3.bump 7).bump 8).bump 1) (fun x : KR => [(5, iv G.length), (6, .slice (some ⟨r, o, none⟩) G.length 1), (11, .slice (some ⟨O, 0, none⟩) G.length 1), (13, iv t), (14, iv v), (15, iv k), (16, .int .i64 w), (17, iv x.u)])
                (fun x h' => x.u ≤ G.length ∧ Mat h0 h' G.length O oty rid x.R ∧ At G.length (getG G) x.R t v ∧ Over G.length (getG G) x.R t v k ∧ ∀ w' : Nat, w = (w' : Int) → w' < G.length → Upto x.R v w' x.u) (fun x => G.length - x.u) ⟨t, v, k, 0, R⟩ ?_ ⟨Nat.zero_le _, M3.same (by simp; omega) rfl, A3, O3, fun _ _ _ _ hj => absurd hj (Nat.not_lt_zero _)⟩ ?_
              · simp [Covers, iv]
              · clear M3 A3 O3 R
                rintro ⟨_, _, _, u, R⟩ h4 on4 ⟨hu4, M4, A4, O4, U4⟩
                simp only at hu4 M4 A4 O4 U4
                have hwu : IntKind.i64.wrap ((u : Int) + 1) = ((u + 1 : Nat) : Int) := by rw [wrap_in (by omega)]; omega
                refine sw_seq (sw_seq ?_)
                by_cases hin : 0 ≤ w ∧ w < G.length ∧ u < G.length
                · obtain ⟨i1, i2, i3⟩ := hin
                  obtain ⟨w', rfl⟩ : ∃ w' : Nat, w = (w' : Int) := ⟨w.toNat, by omega⟩
                  have i2' : w' < G.length := by omega
                  (refine sw_reg mixed ?_; simp [Nat.add_assoc, iv, tab_len, tab_getE, tab_set, Nat.add_one_le_iff, p3_36, *])
                  refine sw_cond (b := true) (by simp) ?_
                  simp
                  refine sw_skip ?_
                  simp
                  have m1 := M4.out
                  have m2 := M4.row v hlv
                  have m3 := M4.row w' i2'
                  have ed : Tar.Edge G.length (getG G) v w' := ⟨i2', List.mem_of_getElem? hjwH.out⟩
                  have MH := Hid.mk (And.intro M4 (And.intro A4 (And.intro O4 U4)))
                  have nr := ne_fresh (M4.lt.2 v hlv)
                  clear M4 A4 O4 U4
                  refine sw_seq (sw_block ?_)
                  cases hb : R v u with
                  | true =>
                    (refine sw_reg mixed ?_; simp [Nat.add_assoc, iv, tab_len, tab_getE, tab_set, Nat.add_one_le_iff, p3_38, *])
                    (refine sw_reg mixed ?_; simp [Nat.add_assoc, iv, tab_len, tab_getE, tab_set, Nat.add_one_le_iff, p3_37, *])
                    have hval : (R v u || R w' u) = true := by simp [hb]
                    obtain ⟨M4, A4, O4, U4⟩ := MH.out
                    refine ⟨⟨t, v, k, u + 1, set2 R v u (R v u || R w' u)⟩, by simp [Covers], ⟨by simp; omega, ?_, A4.mono ed hlv i3, Over.mono O4, fun w2 e hw2 => ?_⟩, by simp; omega⟩
                    · rw [hval]
                      refine Mat.same (h := ((h4.bump 12).bump 23).put (rid v) (.arr true 4 (tab G.length (upd (fun u => Value.bool (R v u)) u (Value.bool true))))) (M4.set hlv _ (by simp; try omega) (by simp) ?_) (by simp) rfl
                      intro j hj hne
                      simp [hne]
                    · obtain rfl : w' = w2 := by omega
                      exact Upto.push (U4 w' rfl hw2)
                  | false =>
                    (refine sw_reg mixed ?_; simp [Nat.add_assoc, iv, tab_len, tab_getE, tab_set, Nat.add_one_le_iff, p3_38, *])
                    (refine sw_reg mixed ?_; simp [Nat.add_assoc, iv, tab_len, tab_getE, tab_set, Nat.add_one_le_iff, p3_37, *])
                    have hval : (R v u || R w' u) = (R w' u) := by simp [hb]
                    obtain ⟨M4, A4, O4, U4⟩ := MH.out
                    refine ⟨⟨t, v, k, u + 1, set2 R v u (R v u || R w' u)⟩, by simp [Covers], ⟨by simp; omega, ?_, A4.mono ed hlv i3, Over.mono O4, fun w2 e hw2 => ?_⟩, by simp; omega⟩
                    · rw [hval]
                      refine Mat.same (h := ((h4.bump 12).bump 23).put (rid v) (.arr true 4 (tab G.length (upd (fun u => Value.bool (R v u)) u (Value.bool (R w' u)))))) (M4.set hlv _ (by simp; try omega) (by simp) ?_) (by simp) rfl
                      intro j hj hne
                      simp [hne]
                    · obtain rfl : w' = w2 := by omega
                      exact Upto.push (U4 w' rfl hw2)
                · by_cases i1 : 0 ≤ w
                  · by_cases i2 : w < G.length
                    · have i3 : ¬ u < G.length := fun g => hin ⟨i1, i2, g⟩
                      clear hin
                      (refine sw_reg mixed ?_; simp [Nat.add_assoc, iv, tab_len, tab_getE, tab_set, Nat.add_one_le_iff, p3_36, *])
                      refine sw_cond (b := false) (by simp) ?_
                      simp
                      refine sw_exit ?_
                      simp
                      (refine sw_reg mixed ?_; simp [Nat.add_assoc, iv, tab_len, tab_getE, tab_set, Nat.add_one_le_iff, p3_33, *])
                      refine ⟨⟨t, v, k + 1, 0, R⟩, by simp [Covers], ⟨hlk, M4.same (by simp; omega) rfl, A4, Over.next O4 (fun w2 hw2 hwn l u2 hu2 wk hl => ?_)⟩, by simp; omega⟩
                      rw [hjwH.out] at hw2
                      cases hw2
                      exact U4 w2 rfl hwn u2 (by omega) (A4.all w2 l u2 trivial hwn hu2 wk hl)
                    · clear hin
                      (refine sw_reg mixed ?_; simp [Nat.add_assoc, iv, tab_len, tab_getE, tab_set, Nat.add_one_le_iff, p3_36, *])
                      refine sw_cond (b := false) (by simp) ?_
                      simp
                      refine sw_exit ?_
                      simp
                      (refine sw_reg mixed ?_; simp [Nat.add_assoc, iv, tab_len, tab_getE, tab_set, Nat.add_one_le_iff, p3_33, *])
                      refine ⟨⟨t, v, k + 1, 0, R⟩, by simp [Covers], ⟨hlk, M4.same (by simp; omega) rfl, A4, Over.next O4 (fun w2 hw2 hwn l u2 hu2 wk hl => ?_)⟩, by simp; omega⟩
                      rw [hjwH.out] at hw2
                      cases hw2
                      exact U4 w2 rfl hwn u2 (by omega) (A4.all w2 l u2 trivial hwn hu2 wk hl)
                  · clear hin
                    (refine sw_reg mixed ?_; simp [Nat.add_assoc, iv, tab_len, tab_getE, tab_set, Nat.add_one_le_iff, p3_36, *])
                    refine sw_cond (b := false) (by simp) ?_
                    simp
                    refine sw_exit ?_
                    simp
                    (refine sw_reg mixed ?_; simp [Nat.add_assoc, iv, tab_len, tab_getE, tab_set, Nat.add_one_le_iff, p3_33, *])
                    refine ⟨⟨t, v, k + 1, 0, R⟩, by simp [Covers], ⟨hlk, M4.same (by simp; omega) rfl, A4, Over.next O4 (fun w2 hw2 hwn l u2 hu2 wk hl => ?_)⟩, by simp; omega⟩
                    rw [hjwH.out] at hw2
                    cases hw2
                    exact U4 w2 rfl hwn u2 (by omega) (A4.all w2 l u2 trivial hwn hu2 wk hl)
            · refine sw_cond (b := false) (by simp; omega) ?_
              simp
              refine sw_exit ?_
              simp
              obtain rfl : k = row.length := by omega
              (refine sw_reg mixed ?_; simp [Nat.add_assoc, iv, tab_len, tab_getE, tab_set, Nat.add_one_le_iff, p3_30, *])
              exact ⟨⟨t, v + 1, 0, 0, R⟩, by simp [Covers], ⟨hlv, M3.same (by simp; omega) rfl, A3.next hlv (by rw [hgr.out]; exact O3)⟩, by simp; omega⟩
        · refine sw_cond (b := false) (by simp; omega) ?_
          simp
          refine sw_exit ?_
          simp
          obtain rfl : v = G.length := by omega
          (refine sw_reg mixed ?_; simp [Nat.add_assoc, iv, tab_len, tab_getE, tab_set, Nat.add_one_le_iff, p3_27, *])
          exact ⟨⟨t + 1, 0, 0, 0, R⟩, by simp [Covers], ⟨hlt, M2.same (by simp; omega) rfl, A2.round⟩, by simp; omega⟩
    · refine sw_cond (b := false) (by simp; omega) ?_
      simp
      refine sw_exit ?_
      simp
      obtain rfl : t = G.length := by omega
      have M' := M1.same (h' := h1.bump 3) (by simp) rfl
      have D' := dat_on D M'.on
      have hI' : ∀ l ∈ G, l.length ≤ 1000000000 := fun l hl => by have := hI l hl; omega
      have tl : ∀ v u, v < G.length → u < G.length → (R v u = true ↔ Tar.Reach G.length (getG G) v u) := fun v u hv hu => told A1.sound A1.all hv hu
      clear D M1 A1 st on1 hI hwt hlt
      unfold c3_8
      refine sw_begin (fun h3 hn3 st3 sees3 => ?_)
      have D3 := (cSlc (cSlc cZ)).mono sees3 D'
      have l1 : O < h3.next := by have := M'.lt.1; omega
      obtain ⟨w1, f1⟩ := sees3.arr M'.lt.1 M'.out
      have f2 : ∀ v, v < G.length → rid v < h3.next ∧ ∃ w, h3.obj (rid v) = some (.arr w 4 (tab G.length fun u => .bool (R v u))) := fun v hv => ⟨by have := M'.lt.2 v hv; omega, sees3.arr (M'.lt.2 v hv) (M'.row v hv)⟩
      have fH := Hid.mk (And.intro f2 tl)
      clear sees3 M' D' hn3 f2 tl
      refine sw_seq (sw_reg mixed ?_)
      simp [p3_39]
      refine run_callI 9 [.slice gp G.length gq] (by simp) (find_at2 (dat_on D3 (by (repeat' first | assumption | exact On.refl _ | refine On.bump ?_ _ | refine On.put ?_ _ ?_ | refine On.del ?_ ?_) <;> (try simp only [AHeap.bump_next, AHeap.put_next, AHeap.del_next]) <;> omega)) (by omega) hI' ?_)
      intro h4 kv oid knots of on4 Dk olt oobj Dn
      simp
      unfold c3_9
      refine sw_seq (sw_seq ?_)
      (refine sw_reg mixed ?_; simp [Nat.add_assoc, iv, tab_len, tab_getE, tab_set, Nat.add_one_le_iff, p3_40, *])
      refine sw_cond (b := false) (by simp) ?_
      simp
      refine sw_skip ?_
      simp
      have on5 : On h3 h4 := ((On.refl h3).bump 7).trans on4
      refine sw_begin (fun h5 hn5 st5 sees5 => ?_)
      have Dk5 := (cSlc (cSlc cZ)).mono (Sees.same (S' := (· < (h4.bump 4).next)) (h' := h4.bump 4) (fun j hj => Nat.lt_of_lt_of_le hj (Nat.le_add_right _ _)) (fun _ _ => rfl)) Dk
      replace Dk5 := (cSlc (cSlc cZ)).mono sees5 Dk5
      simp at hn5
      have hnx := on5.nxt
      obtain ⟨w2, f3⟩ := sees5.arr (i := O) (by simp; omega) (own := w1) (ty := oty) ((on5.obj O l1).trans f1)
      obtain ⟨w3, f4⟩ := sees5.arr (i := oid) (by simp; omega) (own := true) (ty := 3) oobj
      refine SW.sub (Covers.sub (env' := [(5, iv G.length), (11, .slice (some ⟨O, 0, none⟩) G.length 1), (18, kv), (19, .slice (some ⟨oid, 0, none⟩) G.length 1)]) (by simp [Covers, iv])) ?_
      exact find_t10 st5 (On.refl h5) hn (by omega) f3 (fun v hv => by
        obtain ⟨g1, w, g2⟩ := fH.out.1 v hv
        exact ⟨by omega, sees5.arr (i := rid v) (by simp; omega) ((on5.obj _ g1).trans g2)⟩) (by omega) f4 (fun v u hv hu => Dn.law fH.out.2 hv hu) Dk5 Dn
end Go.Proofs.Ytbcgcnmnblfhmaa
