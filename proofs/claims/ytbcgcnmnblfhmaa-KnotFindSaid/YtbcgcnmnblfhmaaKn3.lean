/- knot.go: search: what its rounds hold. -/
import Derived.Test.YtbcgcnmnblfhmaaKn1
import Derived.Test.YtbcgcnmnblfhmaaKn2
import Derived.Test.YtbcgcnmnblfhmaaK10
namespace Go.Proofs.Ytbcgcnmnblfhmaa
open Lin Tar
set_option maxRecDepth 10000
set_option linter.unusedSimpArgs false

/-- A graph in memory that is only read. -/
structure Graph (ρ : Nat → Nat) (h : AHeap) (N : Nat) (into : Nat → List Int) (inv : Value) : Prop where
  shape : ∃ p q, inv = .slice p N q
  row : ∀ v, v < N → ∃ g off own ty c pv qv, inv = .slice (some ⟨g, off, none⟩) N 1 ∧ ρ g = 0 ∧ g < h.next ∧ h.obj g = some (.arr own ty c) ∧ c[off + v]? = some (.slice pv (into v).length qv) ∧
    (∀ i x, (into v)[i]? = some x → ∃ r o own' ty' c', pv = some ⟨r, o, none⟩ ∧ qv = 1 ∧ ρ r = 0 ∧ r < h.next ∧ h.obj r = some (.arr own' ty' c') ∧ c'[o + i]? = some (.int .i64 x)) ∧
    ((pv = none ∧ qv = 0) ∨ ∃ r o, pv = some ⟨r, o, none⟩ ∧ qv = 1)

theorem Graph.keep {ρ ρ' : Nat → Nat} {h h' : AHeap} {N : Nat} {into : Nat → List Int} {inv : Value} (G : Graph ρ h N into inv) (hn : h.next ≤ h'.next) (hρ : ∀ i, i < h.next → h.obj i ≠ none → ρ i = 0 → ρ' i = 0)
    (ho : ∀ i, i < h.next → h.obj i ≠ none → ρ i = 0 → h'.obj i = h.obj i) : Graph ρ' h' N into inv := by
  refine ⟨G.shape, fun v hv => ?_⟩
  obtain ⟨g, off, own, ty, c, pv, qv, h1, h2, h3, h4, h5, h6⟩ := G.row v hv
  have n4 : h.obj g ≠ none := by rw [h4]; simp
  refine ⟨g, off, own, ty, c, pv, qv, h1, hρ g h3 n4 h2, by omega, (ho g h3 n4 h2).trans h4, h5, fun i x hx => ?_, h6.2⟩
  obtain ⟨r, o, own', ty', c', k1, k2, k3, k4, k5, k6⟩ := h6.1 i x hx
  have n5 : h.obj r ≠ none := by rw [k5]; simp
  exact ⟨r, o, own', ty', c', k1, k2, hρ r k4 n5 k3, by omega, (ho r k4 n5 k3).trans k5, k6⟩

theorem Graph.keep' {ρ ρ' : Nat → Nat} {h h' : AHeap} {N : Nat} {into : Nat → List Int} {inv : Value} (G : Graph ρ h N into inv) (K : Keep ρ h ρ' h') : Graph ρ' h' N into inv :=
  G.keep K.nxt (fun i hi _ hr => (K.role i hi).trans hr) (fun i hi _ hr => K.obj i hi (.inl hr))

/-- The frames of a path. -/
def flat (p : List (Nat × Nat)) : List Value := p.flatMap fun f => [iv f.1, iv f.2]
theorem flat_len (p : List (Nat × Nat)) : (flat p).length = p.length * 2 := by
  induction p with
  | nil => rfl
  | cons f r ih => simp only [flat, List.flatMap_cons, List.length_append, List.length_cons, List.length_nil] at ih ⊢; omega
theorem flat_app (p q : List (Nat × Nat)) : flat (p ++ q) = flat p ++ flat q := by simp [flat]
theorem flat_one (v i : Nat) : flat [(v, i)] = [.int .i64 v, .int .i64 i] := by simp [flat, iv]

/-- What is at hand in a round. -/
structure SG where
  ρ : Nat → Nat
  s : TS
  path : List (Nat × Nat)
  pid : Nat
  rest : List Value
  sv : Value
  kv : Value
  rows : List (Nat × List Nat)

structure SH (ρ0 : Nat → Nat) (h0 : AHeap) (N : Nat) (into : Nat → List Int) (inv : Value) (t ix lw on_ of_ : Nat) (s0 : TS) (src : Nat) (g : SG) (h : AHeap) : Prop where
  rep : Rep g.ρ h N inv t ix lw on_ of_ g.sv g.kv g.rows g.s
  tinv : TInv N into g.path g.s
  keep : Keep ρ0 h0 g.ρ h
  gr : Graph g.ρ h N into inv
  pnew : h0.next ≤ g.pid
  prole : g.ρ g.pid = 9
  plt : g.pid < h.next
  pobj : h.obj g.pid = some (.arr true 40 (flat g.path ++ g.rest))
  mono : ∀ x, s0.index x ≠ 0 → g.s.index x ≠ 0
  frm : g.s.index src ≠ 0

/-- How much is left to do. -/
def unv (N : Nat) (into : Nat → List Int) (index : Nat → Nat) : Nat := ((List.range N).map fun x => if index x = 0 then 2 + (into x).length else 0).sum
def pathm (into : Nat → List Int) (p : List (Nat × Nat)) : Nat := (p.map fun f => 1 + (into f.1).length - f.2).sum

theorem sum_upd {f g : Nat → Nat} {w d : Nat} : ∀ {l : List Nat}, l.Nodup → w ∈ l → (∀ x, x ≠ w → f x = g x) → f w + d = g w → (l.map f).sum + d = (l.map g).sum
  | [], _, h, _, _ => by cases h
  | x :: r, hn, hw, he, hd => by
    simp only [List.map_cons, List.sum_cons]
    rw [List.nodup_cons] at hn
    by_cases hx : x = w
    · subst hx
      have : r.map f = r.map g := List.map_congr_left (fun y hy => he y (fun e => hn.1 (e ▸ hy)))
      rw [this]; omega
    · have := sum_upd hn.2 (by rcases List.mem_cons.1 hw with e | e; exact absurd e.symm hx; exact e) he hd
      rw [he x hx]; omega

theorem unv_enter {N : Nat} {into : Nat → List Int} {s : TS} {w : Nat} (hw : w < N) (h0 : s.index w = 0) : unv N into (enterT s w).index + (2 + (into w).length) = unv N into s.index := by
  unfold unv
  refine sum_upd (w := w) List.nodup_range (List.mem_range.2 hw) (fun x hx => ?_) ?_
  · simp [enterT, upd, hx]
  · simp [enterT, upd, h0]

theorem pathm_app (into : Nat → List Int) (p : List (Nat × Nat)) (v i : Nat) : pathm into (p ++ [(v, i)]) = pathm into p + (1 + (into v).length - i) := by simp [pathm]

def SG.mu (N : Nat) (into : Nat → List Int) (g : SG) : Nat := unv N into g.s.index + pathm into g.path

def SG.env (t : Nat) (g : SG) : Env := [(0, .pointer (some ⟨t, 0, none⟩)), (4, .slice (some ⟨g.pid, 0, none⟩) g.path.length 2)]

theorem low_same {s : TS} {u v : Nat} (h : s.low u ≤ s.low v) : { s with low := upd s.low u (min (s.low u) (s.low v)) } = s := by
  have : upd s.low u (min (s.low u) (s.low v)) = s.low := by
    funext i
    by_cases hi : i = u
    · subst hi; rw [upd_same]; omega
    · rw [upd_ne _ _ hi]
  rw [this]

theorem Rep.low {ρ : Nat → Nat} {h h' : AHeap} {N : Nat} {inv : Value} {t ix lw on_ of_ : Nat} {sv kv : Value} {rows : List (Nat × List Nat)} {s : TS}
    (R : Rep ρ h N inv t ix lw on_ of_ sv kv rows s) {l : Nat → Nat} (hn : h.next ≤ h'.next) (hl : h'.obj lw = some (.arr true 3 (tab N fun i => iv (l i)))) (ho : ∀ i, ρ i ≠ 3 → h'.obj i = h.obj i) :
    Rep ρ h' N inv t ix lw on_ of_ sv kv rows { s with low := l } := by
  have g := fun i hi => Nat.lt_of_lt_of_le (m := h.next) (n := i) hi hn
  refine ⟨by rw [ho _ (by rw [R.rt]; decide)]; exact R.cells, by rw [ho _ (by rw [R.rix]; decide)]; exact R.oix, hl, by rw [ho _ (by rw [R.ron]; decide)]; exact R.oon, by rw [ho _ (by rw [R.rof]; decide)]; exact R.oof,
    row_keep R.stk hn (fun _ _ => rfl) (fun i _ hr => ho i (by rw [hr]; decide)), row_keep R.knt hn (fun _ _ => rfl) (fun i _ hr => ho i (by rw [hr]; decide)), R.knots, fun r hr => ?_, R.rt, R.rix, R.rlw, R.ron, R.rof, g _ R.lt, g _ R.lix, g _ R.llw, g _ R.lon, g _ R.lof⟩
  obtain ⟨a, b, c⟩ := R.each r hr
  exact ⟨a, g _ b, by rw [ho _ (by rw [a]; decide)]; exact c⟩

theorem min_int (a b : Nat) : (if b < a then (b : Int) else (a : Int)) = ((min a b : Nat) : Int) := by
  split <;> omega

/-- low[u] goes down to that of v. -/
theorem lower_walk {ρ : Nat → Nat} {h : AHeap} {N : Nat} {inv : Value} {t ix lw on_ of_ : Nat} {sv kv : Value} {rows : List (Nat × List Nat)} {s : TS}
    (R : Rep ρ h N inv t ix lw on_ of_ sv kv rows s) {u v : Nat} (hu : u < N) (hv : v < N) {pid n : Nat} {c : List Value} (hp : ρ pid = 9) (hpl : pid < h.next) (hpo : h.obj pid = some (.arr true 40 c)) (hn : n ≤ 1000000) (hn0 : 0 < n)
    (hc : c[(n - 1) * 2]? = some (.int .i64 u)) {Q : Exit → Env → AHeap → Prop}
    (hq : ∀ e h', Covers e [(0, .pointer (some ⟨t, 0, none⟩)), (4, .slice (some ⟨pid, 0, none⟩) n 2), (7, .int .i64 v)] → Rep ρ h' N inv t ix lw on_ of_ sv kv rows { s with low := upd s.low u (min (s.low u) (s.low v)) } →
      h.next ≤ h'.next → (∀ i, ρ i ≠ 3 → h'.obj i = h.obj i) → Q .normal e h') :
    SW Try.prog 180 (.seq (.reg 8 [0, 1, 4, 5, 6, 7, 8] p10_14) (.reg 22 [0, 1, 4, 5, 6, 7, 8] p10_15)) [(0, .pointer (some ⟨t, 0, none⟩)), (4, .slice (some ⟨pid, 0, none⟩) n 2), (7, .int .i64 v)] h Q := by
  have R0 := R
  obtain ⟨cells, r_ix, r_lw, r_on, r_of, stk, knt, hrows, each, rt, rix, rlw, ron, rof, lt, lix, llw, lon, lof⟩ := R
  have rn : ∀ a b, ρ a ≠ ρ b → (a = b) = False := fun a b => role_ne
  have hw : IntKind.i64.wrap ((n : Int) - 1) = ((n - 1 : Nat) : Int) := by rw [wrap_in (by omega)]; omega
  have hm := min_int (s.low u) (s.low v)
  have hlt : n - 1 < n := by omega
  (refine sw_seq ?_; refine sw_reg mixed ?_; simp [Nat.add_assoc, iv, tab_len, tab_getE, tab_set, Nat.add_one_le_iff, p10_14, *])
  (refine sw_reg mixed ?_; simp [Nat.add_assoc, iv, tab_len, tab_getE, tab_set, Nat.add_one_le_iff, p10_15, upd_n, *])
  refine hq _ _ ?_ ?_ ?_ ?_
  · simp [Covers]
  · refine R0.low (by simp; omega) ?_ ?_
    · simp [hm, upd_n, iv]
    · intro i hi
      have : (i = lw) = False := rn _ _ (by rw [rlw]; exact hi)
      simp [this]
  · simp; omega
  · intro i hi
    have : (i = lw) = False := rn _ _ (by rw [rlw]; exact hi)
    simp [this]

end Go.Proofs.Ytbcgcnmnblfhmaa
