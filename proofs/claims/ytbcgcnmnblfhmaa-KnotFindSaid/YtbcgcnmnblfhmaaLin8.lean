/- Writes on the abstract heap. -/
import Derived.Test.YtbcgcnmnblfhmaaLin7
namespace Go.Proofs.Ytbcgcnmnblfhmaa.Lin
variable {P : Program} {φ : Nat → Option Emb} {B0 : Nat → Prop}

/-- What is appended, or copied: its elements' cells, and how many elements. -/
def aSrc (h : AHeap) (sz : Nat) (v : Value) : Option (List Value × Nat) :=
  match v with
  | .slice none 0 0 => some ([], 0)
  | .slice (some ⟨j, off, none⟩) m esz => if m = 0 then some ([], 0) else (match h.obj j with
    | some (.arr _ _ c) => if esz = sz ∧ off + m * sz ≤ c.length then some ((c.drop off).take (m * sz), m) else none
    | _ => none)
  | .string s => if sz = 1 then some (s.data.toList.map fun b => .int .u8 b.toNat, s.size) else none
  | _ => none

/-- Types of what may be appended. -/
def srcOk : TypeDesc → Bool
  | .slice _ | .string => true
  | _ => false

/-- What a write leaves, and its value. -/
def aEff (P : Program) (op : Op) (e : FEnv) (id : Nat) (h : AHeap) : Option (Value × AHeap) :=
  match op with
  | .store t x y => match evO e x, evO e y with
    | some (.pointer (some ⟨i, off, none⟩)), some v => (match h.obj i with
      | some (.arr true ty c) => if szOf P t = some v.cells.size ∧ 0 < v.cells.size ∧ off + v.cells.size ≤ c.length ∧ oneAll v.cells.toList = true then
          some (undef, h.put i (.arr true ty (setCells c off v.cells.toList))) else none
      | _ => none)
    | _, _ => none
  | .call c => match c.callee, c.args.toList with
    | .builtin .append, [x, y] => (match (c.argTypes[0]?).bind P.underlying, (c.argTypes[1]?).bind P.underlying, evO e x, evO e y with
      | some (.slice el), some d, some s, some z => (match P.info? el with
        | some i => (match i.zero with
          | some zv => if srcOk d && decide (0 < i.size) && decide (0 < i.bytes) && zv.cells.size == i.size then
              (match aSrc h i.size z with
              | some (news, m) => if (decide (m = 0)) then (match s with
                  | .slice none 0 0 => some (s, h)
                  | .slice (some ⟨_, _, none⟩) _ _ => some (s, h)
                  | _ => none)
                else (match s with
                  | .slice none 0 0 => if m * i.bytes ≤ 140737488355328 then
                      some (.slice (some ⟨id, 0, none⟩) m i.size, h.put id (.arr true el news)) else none
                  | .slice (some ⟨j, off, none⟩) len esz => (match h.obj j with
                    | some (.arr true ty c) => if esz = i.size ∧ ty = el ∧ off + len * i.size ≤ c.length ∧ (len + m) * i.bytes ≤ 140737488355328 then
                        some (.slice (some ⟨id, 0, none⟩) (len + m) i.size, (h.del j).put id (.arr true el ((c.drop off).take (len * i.size) ++ news))) else none
                    | _ => none)
                  | _ => none)
              | none => none) else none
          | none => none)
        | none => none)
      | _, _, _, _ => none)
    | .builtin .copy, [x, y] => (match (c.argTypes[0]?).bind P.underlying, evO e x, evO e y with
      | some (.slice el), some (.slice (some ⟨j, off, none⟩) len esz), some z => (match szOf P el, h.obj j with
        | some sz, some (.arr true ty c) => (match aSrc h sz z with
          | some (news, m) => if esz = sz ∧ 0 < sz ∧ off + len * sz ≤ c.length then
              some (.int .i64 (min m len : Nat), h.put j (.arr true ty (setCells c off (news.take (min m len * sz))))) else none
          | none => none)
        | _, _ => none)
      | _, _, _ => none)
    | _, _ => none
  | .mapUpdate t m k x | .insert t m k x => match P.underlying t, evO e m, evO e k, evO e x with
    | some (.map kt _), some (.map (some i)), some kv, some v => (match P.underlying kt, h.obj i with
      | some d, some (.map true es) => if keyKind d && plainN 4 kv then (match findE d kv es 0 with
        | some none => some (undef, h.put i (.map true (es ++ [(kv, v)])))
        | some (some (j, _)) => some (undef, h.put i (.map true (es.set j (kv, v))))
        | none => none) else none
      | _, _ => none)
    | _, _, _, _ => none
  | _ => none

/-- The run of an operation with a value, or that tells nothing. -/
def Runs (P : Program) (a : Act) (o : Oper) (w : World) (v' : Value) (w' : World) : Prop :=
  (execOp a.eval o).run P w = .ok (.value v') w' ∨ ((execOp a.eval o).run P w = .ok .skip w' ∧ v' = undef)

theorem undef_rel : VR φ undef undef := .tuple rfl (by simp)

/-- A stretch of an own row written over. -/
theorem or_over {w : World} {e : Emb} {ty : TypeId} {c : List Value} (h : OR B0 φ w e (.arr true ty c)) {off : Nat} {vs vs' : List Value} (hv : VRs φ vs vs') (hone : oneAll vs = true) (hlt : off + vs.length ≤ c.length)
    (hpos : 0 < vs.length) :
    ∃ w', (storeCells ⟨e.blk, e.base + off, none⟩ vs').run P w = .ok () w' ∧ w'.heap.size = w.heap.size ∧ (∀ b, b ≠ e.blk → w'.heap[b]? = w.heap[b]?) ∧ w'.os = w.os ∧ w'.tape = w.tape ∧ w'.output = w.output ∧
      OR B0 φ w' e (.arr true ty (setCells c off vs)) := by
  obtain ⟨cur, ty', fr, h1, h2, h3, h4, h5⟩ := h
  obtain ⟨g1, rfl, rfl, g4⟩ := h4 rfl
  have hlen := hv.1
  have hfit : e.base + off + vs'.length ≤ cur.size := by
    obtain ⟨v', g, _⟩ := h2 (off + vs.length - 1) c[off + vs.length - 1] (by simp)
    have := (Array.getElem?_eq_some_iff.1 g).1
    omega
  have hone' : ∀ v ∈ vs', v.oneCell' = true := by
    intro v hv'
    obtain ⟨i, hi, rfl⟩ := List.mem_iff_getElem.1 hv'
    have hi' : i < vs.length := by omega
    rw [(hv.2 i vs[i] vs'[i] (by simp [hi']) (by simp [hi])).one]
    exact List.all_eq_true.1 hone _ (by simp)
  have hst := run_storeCells_at P e.blk (e.base + off) ty' vs' 0 cur w h1 (by simpa using hfit) hone'
  simp only [Nat.add_zero] at hst
  refine ⟨_, hst, size_setRow _ _ _, fun b hb => setRow_other w _ b _ hb, rfl, rfl, rfl, ?_⟩
  refine ⟨_, ty', (0, 0), setRow_heap w e.blk cur _ ty' (0, 0) h1, ?_, ?_, fun _ => ⟨g1, rfl, rfl, ?_⟩, fun h => by cases h⟩
  · intro k v hk
    rw [setCells_get] at hk
    rw [over_get cur (e.base + off) vs' hfit]
    split at hk
    · rename_i hr
      rw [if_neg (by omega), if_pos (by omega)]
      obtain ⟨v', q1, q2⟩ := hv.get hk
      exact ⟨v', by rw [show e.base + k - (e.base + off) = k - off by omega]; exact q1, q2⟩
    · rename_i hr
      have hkc : k < c.length := (List.getElem?_eq_some_iff.1 hk).1
      obtain ⟨v', q1, q2⟩ := h2 k v hk
      refine ⟨v', ?_, q2⟩
      split
      · exact q1
      · rw [if_neg (by omega)]; exact q1
  · intro v hv'
    obtain ⟨i, hi⟩ := List.mem_iff_getElem?.1 hv'
    rw [setCells_get] at hi
    split at hi
    · exact List.all_eq_true.1 hone _ (List.mem_of_getElem? hi)
    · exact h3 _ (List.mem_of_getElem? hi)
  · simp only [List.size_toArray, List.length_append, List.length_take, List.length_drop, Array.length_toList]
    omega

theorem store_sound {o : Oper} {t : TypeId} {x y : Operand} (hop : o.op = .store t x y) {e : FEnv} {a : Act} {n N id : Nat} {v : Value} {h h' : AHeap} {w : World} (he : ER φ e a.tmps n) (hh : HR B0 φ h w)
    (hv : aEff P (.store t x y) e id h = some (v, h')) :
    ∃ v' φ' w', Runs P a o w v' w' ∧ VR φ' v v' ∧ (∀ j, j ≠ id → φ' j = φ j) ∧ Post B0 N φ h w φ' h' w' := by
  unfold aEff at hv
  simp only at hv
  split at hv
  · rename_i i off u hx hy
    split at hv
    · rename_i ty c ho
      split at hv
      · rename_i hc
        cases hv
        obtain ⟨h1, h2, h3, h4⟩ := hc
        have hx' := he.eval hx
        generalize hu : a.eval x = p at *
        cases hx' with
        | @ptr _ _ e' hφ =>
          obtain ⟨e'', g1, g2⟩ := hh.obj _ _ ho
          rw [hφ] at g1; cases g1
          have hcl := (he.eval hy).cells
          obtain ⟨w', q1, q2, q3, q4, q5, q6, q7⟩ := or_over (P := P) g2 hcl h4 (by simpa using h3) (by simpa using h2)
          refine ⟨undef, φ, w', .inr ⟨?_, rfl⟩, undef_rel, fun _ _ => rfl, Post.turn hh ho rfl hφ q2 q3 q4 q5 q6 q7⟩
          have hsz : (a.eval y).cells.size = u.cells.size := by have := hcl.1; simpa using this.symm
          unfold execOp
          simp only [hop, hu, Instr.storeAt, Instr.sureAddr, storeVar, Sem.run_bind, Sem.run_pure, Result.andThen_ok, rSz h1, hsz, ne_eq, not_true_eq_false, if_false, q1]
      · cases hv
    · cases hv
  · cases hv

/-- What is read to be appended or copied. -/
theorem aSrc_sound {h : AHeap} {sz : Nat} {v v' : Value} {news : List Value} {m : Nat} {w : World} (hh : HR B0 φ h w) (hv : aSrc h sz v = some (news, m)) (hr : VR φ v v') :
    (Builtin.lenOf v').run P w = .ok m w ∧ news.length = m * sz ∧ oneAll news = true ∧ ∃ news', VRs φ news news' ∧ ∀ k, k ≤ m → ∀ w1, SameMem w w1 → (Builtin.firstCells sz k v').run P w1 = .ok (news'.take (k * sz)).toArray w1 := by
  unfold aSrc at hv
  split at hv
  · cases hv
    cases hr
    refine ⟨rfl, by simp, rfl, [], VRs.nil, fun k hk w1 _ => ?_⟩
    simp [Builtin.firstCells]
  · rename_i j off m' esz
    split at hv
    · rename_i h0
      subst h0
      cases hv
      refine ⟨by cases hr <;> rfl, by simp, rfl, [], VRs.nil, fun k hk w1 _ => ?_⟩
      have : k = 0 := by omega
      subst this
      cases hr <;> simp [Builtin.firstCells, loadCells, loadCellsFrom]
    · rename_i h0
      split at hv
      · rename_i own ty c ho
        split at hv
        · rename_i hc
          obtain ⟨rfl, hc⟩ := hc
          cases hv
          cases hr with
          | @slice _ _ _ _ cap e hφ hl hcap =>
            obtain ⟨e', g1, g2⟩ := hh.obj _ _ ho
            rw [hφ] at g1; cases g1
            obtain ⟨l', q1, q2, q3, q4⟩ := row_cells g2 hc
            refine ⟨rfl, by simp; omega, ?_, l', q2, fun k hk w1 hs => ?_⟩
            · unfold oneAll
              rw [List.all_eq_true]
              obtain ⟨_, _, _, _, _, h3, _⟩ := g2
              intro x hx
              exact h3 x (List.mem_of_mem_drop (List.mem_of_mem_take hx))
            · refine run_firstCells_some (P := P) w1 esz k _ m cap (l'.take (k * esz)) ?_ ?_
              · rw [List.length_take, q1]
                have : k * esz ≤ m * esz := Nat.mul_le_mul_right _ hk
                omega
              · intro i u hu
                rw [List.getElem?_take] at hu
                split at hu
                · have := q3 i u hu
                  simp only [World.cell?, hs.heap] at this ⊢
                  exact this
                · cases hu
          | sliceZero => omega
        · cases hv
      · cases hv
  · rename_i s
    split at hv
    · rename_i h1
      subst h1
      cases hv
      cases hr
      refine ⟨rfl, by rw [List.length_map, Array.length_toList, Nat.mul_one]; rfl, ?_, s.data.toList.map fun b => Value.int .u8 b.toNat, ⟨rfl, fun i u u' a b => ?_⟩, fun k hk w1 _ => ?_⟩
      · unfold oneAll
        rw [List.all_eq_true]
        intro x hx
        obtain ⟨b, _, rfl⟩ := List.mem_map.1 hx
        rfl
      · rw [a] at b; cases b
        rw [List.getElem?_map, Option.map_eq_some_iff] at a
        obtain ⟨b, _, rfl⟩ := a
        exact .int _ _
      · simp only [Builtin.firstCells, Sem.run_pure]
        congr 1
        apply Array.ext'
        rw [Nat.mul_one]
        simp [ByteArray.data_extract]
    · cases hv
  · cases hv

end Go.Proofs.Ytbcgcnmnblfhmaa.Lin
