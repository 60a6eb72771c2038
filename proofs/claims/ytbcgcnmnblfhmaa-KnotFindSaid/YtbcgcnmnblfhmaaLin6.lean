/- Reads, new memory, writes: what they come to on the abstract heap; cells. -/
import Derived.Test.YtbcgcnmnblfhmaaLin5
namespace Go.Proofs.Ytbcgcnmnblfhmaa.Lin

/-- Cells from a place on, written. -/
def setCells (c : List Value) (off : Nat) : List Value → List Value
  | [] => c
  | v :: r => setCells (c.set off v) (off + 1) r

theorem setCells_length : ∀ (vs c : List Value) (off : Nat), (setCells c off vs).length = c.length
  | [], _, _ => rfl
  | v :: r, c, off => by rw [setCells, setCells_length r]; simp

theorem setCells_get : ∀ (vs c : List Value) (off k : Nat), (setCells c off vs)[k]? = if off ≤ k ∧ k < off + vs.length ∧ k < c.length then vs[k - off]? else c[k]?
  | [], c, off, k => by
    rw [setCells, if_neg (by simp; omega)]
  | v :: r, c, off, k => by
    rw [setCells, setCells_get r]
    simp only [List.length_set, List.length_cons]
    by_cases h0 : off = k
    · subst h0
      rw [if_neg (by omega)]
      by_cases hk : off < c.length
      · rw [if_pos (by omega)]
        simp [hk]
      · rw [if_neg (by omega)]
        simp [hk]
    · by_cases h1 : off + 1 ≤ k ∧ k < off + 1 + r.length ∧ k < c.length
      · rw [if_pos h1, if_pos (by omega)]
        obtain ⟨j, hj⟩ : ∃ j, k - off = j + 1 := ⟨k - off - 1, by omega⟩
        rw [hj, List.getElem?_cons_succ]
        congr 1
        omega
      · rw [if_neg h1, if_neg (by omega), List.getElem?_set, if_neg h0]

theorem over_get (cur : Array Value) (o : Nat) (vs : List Value) (h : o + vs.length ≤ cur.size) (k : Nat) :
    (cur.toList.take o ++ vs ++ cur.toList.drop (o + vs.length)).toArray[k]? = if k < o then cur[k]? else if k < o + vs.length then vs[k - o]? else cur[k]? := by
  have hl : (cur.toList.take o).length = o := by simp; omega
  simp only [List.getElem?_toArray]
  by_cases h1 : k < o
  · rw [if_pos h1, List.append_assoc, List.getElem?_append_left (by omega), List.getElem?_take, if_pos h1]; simp
  · rw [if_neg h1]
    by_cases h2 : k < o + vs.length
    · rw [if_pos h2, List.append_assoc, List.getElem?_append_right (by omega), List.getElem?_append_left (by omega), hl]
    · rw [if_neg h2, List.getElem?_append_right (by simp; omega), List.getElem?_drop]
      simp only [List.length_append, hl, Array.getElem?_toList]
      congr 1
      omega

variable {P : Program} {φ : Nat → Option Emb} {B0 : Nat → Prop}

/-- The cells of a stretch, as the world has them. -/
theorem row_cells {w : World} {e : Emb} {own : Bool} {ty : TypeId} {c : List Value} (h : OR B0 φ w e (.arr own ty c)) {off n : Nat} (hl : off + n ≤ c.length) :
    ∃ l', l'.length = n ∧ VRs φ ((c.drop off).take n) l' ∧ (∀ j v, l'[j]? = some v → w.cell? ((⟨e.blk, e.base + off, none⟩ : Addr).add j) = some v) ∧ ∀ v ∈ l', v.oneCell' = true := by
  obtain ⟨cur, ty', fr, h1, h2, h3, _, _⟩ := h
  have hget : ∀ j, j < n → ∃ v v', c[off + j]? = some v ∧ cur[e.base + off + j]? = some v' ∧ VR φ v v' := by
    intro j hj
    have hlt : off + j < c.length := by omega
    obtain ⟨v', g1, g2⟩ := h2 (off + j) c[off + j] (by simp [hlt])
    exact ⟨_, v', by simp [hlt], by rw [Nat.add_assoc]; exact g1, g2⟩
  have hlen : ((cur.toList.drop (e.base + off)).take n).length = n := by
    rw [List.length_take, List.length_drop, Array.length_toList]
    rcases Nat.eq_zero_or_pos n with rfl | hp
    · simp
    · obtain ⟨v, v', _, g, _⟩ := hget (n - 1) (by omega)
      have := (Array.getElem?_eq_some_iff.1 g).1
      omega
  have hg2 : ∀ j v, ((cur.toList.drop (e.base + off)).take n)[j]? = some v → j < n ∧ cur[e.base + off + j]? = some v := by
    intro j v hv
    rw [List.getElem?_take] at hv
    split at hv
    · rename_i hj
      rw [List.getElem?_drop, Array.getElem?_toList] at hv
      exact ⟨hj, hv⟩
    · cases hv
  refine ⟨(cur.toList.drop (e.base + off)).take n, hlen, ⟨?_, ?_⟩, ?_, ?_⟩
  · rw [hlen, List.length_take, List.length_drop]; omega
  · intro j v v' a b
    obtain ⟨hj, b⟩ := hg2 j v' b
    obtain ⟨u, u', g1, g2, g3⟩ := hget j hj
    rw [List.getElem?_take, if_pos hj, List.getElem?_drop, g1] at a
    cases a
    rw [g2] at b
    cases b
    exact g3
  · intro j v hv
    obtain ⟨hj, hv⟩ := hg2 j v hv
    rw [add_eq, cell_of_row w _ _ cur ty' fr h1]
    exact hv
  · intro v hv
    obtain ⟨j, hj, hv⟩ := List.mem_iff_getElem.1 hv
    obtain ⟨hj', hv⟩ := hg2 j v (by rw [List.getElem?_eq_getElem hj, hv])
    obtain ⟨u, u', g1, g2, g3⟩ := hget j hj'
    rw [g2] at hv
    cases hv
    rw [g3.one]
    exact h3 u (List.mem_of_getElem? g1)

/-- A variable's cells as a value. -/
def aLoad (P : Program) (t : TypeId) (c : List Value) (off : Nat) : Option Value :=
  match aggT P t with
  | some true => (match szOf P t with
    | some n => if off + n ≤ c.length then some (.agg ((c.drop off).take n).toArray) else none
    | none => none)
  | some false => c[off]?
  | none => none

theorem aLoad_sound {w : World} {e : Emb} {own : Bool} {ty : TypeId} {c : List Value} (h : OR B0 φ w e (.arr own ty c)) {t : TypeId} {off : Nat} {v : Value} (hv : aLoad P t c off = some v) :
    ∃ v', (loadVar t ⟨e.blk, e.base + off, none⟩).run P w = .ok v' w ∧ VR φ v v' := by
  unfold aLoad at hv
  unfold loadVar
  split at hv
  · rename_i ha
    split at hv
    · rename_i n hs
      split at hv
      · rename_i hl
        cases hv
        obtain ⟨l', g1, g2, g3, g4⟩ := row_cells h hl
        have hr := run_loadCells_list (P := P) w ⟨e.blk, e.base + off, none⟩ l' g3
        rw [g1] at hr
        exact ⟨.agg l'.toArray, by simp only [Sem.run_bind, rAgg ha, Result.andThen_ok, if_true, rSz hs, hr, Sem.run_pure], .agg g2.arr.1 g2.arr.2⟩
      · cases hv
    · cases hv
  · rename_i ha
    obtain ⟨cur, ty', fr, h1, h2, h3, _, _⟩ := h
    obtain ⟨v', g1, g2⟩ := h2 off v hv
    refine ⟨v', ?_, g2⟩
    have hc : w.cell? ⟨e.blk, e.base + off, none⟩ = some v' := by rw [cell_of_row w _ _ cur ty' fr h1]; exact g1
    simp only [Sem.run_bind, rAgg ha, Result.andThen_ok, Bool.false_eq_true, if_false, run_load, hc]
  · cases hv

/-- A key's place among entries: none, where it can't be told. -/
def findE (d : TypeDesc) (k : Value) : List (Value × Value) → Nat → Option (Option (Nat × Value))
  | [], _ => some none
  | e :: r, i => match Instr.sameNow d k e.1 with
    | some true => some (some (i, e.2))
    | some false => findE d k r (i + 1)
    | none => none

theorem MR.tail {p : Value × Value} {es : List (Value × Value)} {p' : MapEntry} {es' : List MapEntry} (h : MR φ (p :: es) (p' :: es')) :
    (p.1 = p'.key ∧ plainN 4 p.1 = true ∧ VR φ p.2 p'.val) ∧ MR φ es es' :=
  ⟨h.2 0 p p' rfl rfl, by simpa using h.1, fun i q q' a b => h.2 (i + 1) q q' (by simpa using a) (by simpa using b)⟩

theorem findE_sound {d : TypeDesc} {k : Value} : ∀ {es : List (Value × Value)} {es' : List MapEntry} {i : Nat} {r : Option (Nat × Value)}, MR φ es es' → findE d k es i = some r →
    (r = none ∧ Instr.findNow d k es' i = some none) ∨ ∃ j v v', r = some (j, v) ∧ Instr.findNow d k es' i = some (some (j, v')) ∧ VR φ v v' ∧ i ≤ j ∧ ∃ p p', es[j - i]? = some p ∧ es'[j - i]? = some p' ∧ Instr.sameNow d k p.1 = some true
  | [], es', i, r, hm, h => by
    have : es' = [] := List.eq_nil_of_length_eq_zero (by rw [← hm.1]; rfl)
    subst this
    simp [findE] at h
    exact .inl ⟨h.symm, rfl⟩
  | p :: es, [], i, r, hm, h => by have := hm.1; simp at this
  | p :: es, p' :: es', i, r, hm, h => by
    obtain ⟨⟨e1, _, e2⟩, ht⟩ := hm.tail
    unfold findE at h
    unfold Instr.findNow
    rw [← e1]
    split at h
    · rename_i hs
      cases h
      rw [hs]
      exact .inr ⟨i, p.2, p'.val, rfl, rfl, e2, Nat.le_refl _, p, p', by simp, by simp, hs⟩
    · rename_i hs
      rw [hs]
      rcases findE_sound ht h with ⟨g1, g2⟩ | ⟨j, v, v', g1, g2, g3, g4, q, q', g5, g6, g7⟩
      · exact .inl ⟨g1, g2⟩
      · refine .inr ⟨j, v, v', g1, g2, g3, by omega, q, q', ?_, ?_, g7⟩
        · obtain ⟨m, hm⟩ : ∃ m, j - i = m + 1 := ⟨j - i - 1, by omega⟩
          rw [hm, List.getElem?_cons_succ]
          rw [show m = j - (i + 1) by omega]; exact g5
        · obtain ⟨m, hm⟩ : ∃ m, j - i = m + 1 := ⟨j - i - 1, by omega⟩
          rw [hm, List.getElem?_cons_succ]
          rw [show m = j - (i + 1) by omega]; exact g6
    · cases h

/-- Kinds of keys that are told apart at once. -/
def keyKind : TypeDesc → Bool
  | .int _ | .string | .bool => true
  | _ => false

theorem checkKey_sound {t : TypeId} {d : TypeDesc} (hd : P.underlying t = some d) (hk : keyKind d = true) (b : Bool) (v : Value) (n : Nat) (w : World) : (Instr.checkKey b (n + 1) t v).run P w = .ok () w := by
  unfold Instr.checkKey
  simp only [Sem.run_bind, run_underlying hd, Result.andThen_ok]
  cases d <;> first | (simp [keyKind] at hk; done) | (cases v <;> rfl)

def aRead (P : Program) (op : Op) (e : FEnv) (h : AHeap) : Option Value :=
  match op with
  | .load t x => match evO e x with
    | some (.pointer (some ⟨i, off, none⟩)) => (match h.obj i with
      | some (.arr _ _ c) => aLoad P t c off
      | _ => none)
    | _ => none
  | .lookup t x k ok => match P.underlying t, evO e x, evO e k with
    | some (.map kt et), some (.map r), some kv =>
      (match P.underlying kt, P.info? et, (match r with
        | none => some []
        | some i => match h.obj i with
          | some (.map _ es) => some es
          | _ => none : Option (List (Value × Value))) with
      | some d, some inf, some es => if keyKind d && plainN 4 kv then (match findE d kv es 0, inf.zero with
        | some (some (_, v)), _ => some (if ok then .tuple #[v, .bool true] else v)
        | some none, some z => if plainN 6 z then some (if ok then .tuple #[z, .bool false] else z) else none
        | _, _ => none) else none
      | _, _, _ => none)
    | _, _, _ => none
  | .call c => match c.callee, c.args.toList with
    | .builtin .len, [x] => (match (c.argTypes[0]?).bind P.underlying, evO e x with
      | some (.map _ _), some (.map none) => some (.int .i64 0)
      | some (.map _ _), some (.map (some i)) => (match h.obj i with
        | some (.map _ es) => some (.int .i64 es.length)
        | _ => none)
      | _, _ => none)
    | _, _ => none
  | _ => none

theorem plain_eq {n : Nat} {v v' : Value} (h : VR φ v v') (hp : plainN n v = true) : v' = v := by
  induction h generalizing n with
  | bool b => rfl
  | int k m => rfl
  | float k b => rfl
  | complex k a b => rfl
  | string s => rfl
  | ptrNil => rfl
  | ptr _ => cases n <;> simp [plainN] at hp
  | sliceNil => rfl
  | slice _ _ _ => cases n <;> simp [plainN] at hp
  | sliceZero => cases n <;> simp [plainN] at hp
  | mapNil => rfl
  | map _ => cases n <;> simp [plainN] at hp
  | chanNil => rfl
  | @func fn f f' c c' h1 h2 h3 h4 ih2 ih4 =>
    cases n with
    | zero => simp [plainN] at hp
    | succ n =>
      simp only [plainN, Bool.and_eq_true] at hp
      congr 1
      · apply Array.ext (by omega)
        intro i g g'
        exact ih2 i f[i] f'[i] (by simp [g']) (by simp [g]) (arr_all hp.1 (by simp [g'] : f[i]? = some f[i]))
      · apply Array.ext (by omega)
        intro i g g'
        exact ih4 i c[i] c'[i] (by simp [g']) (by simp [g]) (arr_all hp.2 (by simp [g'] : c[i]? = some c[i]))
  | nilFunc => rfl
  | nilIface => rfl
  | iface _ ih =>
    cases n with
    | zero => simp [plainN] at hp
    | succ n => rw [ih (n := n) (by simpa [plainN] using hp)]
  | @agg c c' h1 h2 ih =>
    cases n with
    | zero => simp [plainN] at hp
    | succ n =>
      simp only [plainN] at hp
      congr 1
      apply Array.ext (by omega)
      intro i g g'
      exact ih i c[i] c'[i] (by simp [g']) (by simp [g]) (arr_all hp (by simp [g'] : c[i]? = some c[i]))
  | @tuple c c' h1 h2 ih =>
    cases n with
    | zero => simp [plainN] at hp
    | succ n =>
      simp only [plainN] at hp
      congr 1
      apply Array.ext (by omega)
      intro i g g'
      exact ih i c[i] c'[i] (by simp [g']) (by simp [g]) (arr_all hp (by simp [g'] : c[i]? = some c[i]))

theorem findKey_run {kt : TypeId} {d : TypeDesc} {k : Value} {es : List MapEntry} {r : Option (Nat × Value)} (hd : P.underlying kt = some d) (h : Instr.findNow d k es 0 = some r) (w : World) :
    (Instr.findKey kt k es).run P w = .ok r w := by
  unfold Instr.findKey
  simp only [Sem.run_bind, run_underlying hd, Result.andThen_ok, h, Sem.run_pure]

theorem lookup_run {t kt et : TypeId} {d : TypeDesc} {x' kv u' : Value} {j : Nat} {ok : Bool} {es' : Array MapEntry} {w0 : World} (ht : P.underlying t = some (.map kt et)) (hd : P.underlying kt = some d) (hk : keyKind d = true)
    (hx : (x' = .map none ∧ es' = #[]) ∨ ∃ b clock, x' = .map (some b) ∧ w0.heap[b]? = some (.map es' clock)) (hf : Instr.findNow d kv es'.toList 0 = some (some (j, u'))) (w : World) (hw : w = w0) :
    (Instr.lookup t x' kv ok).run P w = .ok (if ok then .tuple #[u', .bool true] else u') w := by
  subst hw
  unfold Instr.lookup
  have hck := fun b => checkKey_sound (P := P) hd hk b kv 9999 w
  have hfk := findKey_run (P := P) hd hf w
  rcases hx with ⟨rfl, rfl⟩ | ⟨b, clock, rfl, hb⟩
  · simp only [Sem.run_bind, run_underlying ht, Result.andThen_ok, Sem.run_pure, hck, hfk]
  · have hg : (getObj b).run P w = .ok (.map es' clock) w := by simp [getObj, Sem.run, hb]
    simp only [Sem.run_bind, run_underlying ht, Result.andThen_ok, Sem.run_pure, hg, hck, hfk]

theorem lookup_run0 {t kt et : TypeId} {d : TypeDesc} {x' kv z : Value} {ok : Bool} {es' : Array MapEntry} {w0 : World} (ht : P.underlying t = some (.map kt et)) (hd : P.underlying kt = some d) (hk : keyKind d = true)
    (hx : (x' = .map none ∧ es' = #[]) ∨ ∃ b clock, x' = .map (some b) ∧ w0.heap[b]? = some (.map es' clock)) (hf : Instr.findNow d kv es'.toList 0 = some none)
    (hz : ∀ w, (zeroValue et).run P w = .ok z w) (w : World) (hw : w = w0) :
    (Instr.lookup t x' kv ok).run P w = .ok (if ok then .tuple #[z, .bool false] else z) w := by
  subst hw
  unfold Instr.lookup
  have hck := fun b => checkKey_sound (P := P) hd hk b kv 9999 w
  have hfk := findKey_run (P := P) hd hf w
  rcases hx with ⟨rfl, rfl⟩ | ⟨b, clock, rfl, hb⟩
  · simp only [Sem.run_bind, run_underlying ht, Result.andThen_ok, Sem.run_pure, hck, hfk, hz]
  · have hg : (getObj b).run P w = .ok (.map es' clock) w := by simp [getObj, Sem.run, hb]
    simp only [Sem.run_bind, run_underlying ht, Result.andThen_ok, Sem.run_pure, hg, hck, hfk, hz]

theorem tuple2 {v v' : Value} (h : VR φ v v') (b : Bool) : VR φ (.tuple #[v, .bool b]) (.tuple #[v', .bool b]) := by
  have := VRs.cons h (VRs.cons (VR.bool (φ := φ) b) VRs.nil)
  exact .tuple this.arr.1 this.arr.2

theorem aRead_sound {o : Oper} {e : FEnv} {a : Act} {n : Nat} {v : Value} {h : AHeap} {w : World} (he : ER φ e a.tmps n) (hh : HR B0 φ h w) (hv : aRead P o.op e h = some v) :
    ∃ v', (execOp a.eval o).run P w = .ok (.value v') w ∧ VR φ v v' := by
  unfold aRead at hv
  unfold execOp
  split at hv
  · rename_i t x hop
    split at hv
    · rename_i i off hx
      split at hv
      · rename_i own ty c ho
        have hx' := he.eval hx
        generalize hu : a.eval x = u at *
        cases hx' with
        | ptr hφ =>
          obtain ⟨e', g1, g2⟩ := hh.obj i _ ho
          rw [hφ] at g1; cases g1
          obtain ⟨v', g3, g4⟩ := aLoad_sound g2 hv
          exact ⟨v', by simp only [hop, hu, Instr.loadAt, Instr.sureAddr, Sem.run_bind, Sem.run_pure, Result.andThen_ok, g3], g4⟩
      · cases hv
    · cases hv
  · rename_i t x k ok hop
    split at hv
    · rename_i kt et r kv ht hx hk
      split at hv
      · rename_i d inf es hd hinf hes
        split at hv
        · rename_i hkk
          simp only [Bool.and_eq_true] at hkk
          have hx' := he.eval hx
          have hk' := plain_eq (he.eval hk) hkk.2
          have main : ∃ es' : Array MapEntry, MR φ es es'.toList ∧ ((a.eval x = .map none ∧ es' = #[]) ∨ ∃ b clock, a.eval x = .map (some b) ∧ w.heap[b]? = some (.map es' clock)) := by
            generalize hu : a.eval x = u at *
            cases hx' with
            | mapNil => cases hes; exact ⟨#[], ⟨rfl, by simp⟩, .inl ⟨rfl, rfl⟩⟩
            | map hφ =>
              simp only at hes
              split at hes
              · rename_i es0 hob
                cases hes
                obtain ⟨e', g1, g2⟩ := hh.obj _ _ hob
                rw [hφ] at g1; cases g1
                obtain ⟨_, es', clock, g3, g4⟩ := g2
                exact ⟨es', g4, .inr ⟨_, clock, rfl, g3⟩⟩
              · cases hes
          obtain ⟨es', hm, hwh⟩ := main
          obtain ⟨v', h1, h2⟩ : ∃ v', (Instr.lookup t (a.eval x) kv ok).run P w = .ok v' w ∧ VR φ v v' := by
            split at hv
            · rename_i j u zz hf
              cases hv
              rcases findE_sound hm hf with ⟨g1, _⟩ | ⟨j', u0, u', g1, g2, g3, _⟩
              · cases g1
              · cases g1
                refine ⟨if ok then .tuple #[u', .bool true] else u', ?_, ?_⟩
                · exact lookup_run ht hd hkk.1 hwh g2 w rfl
                · cases ok
                  · exact g3
                  · exact tuple2 g3 true
            · rename_i z hf hz
              split at hv
              · rename_i hp
                cases hv
                rcases findE_sound hm hf with ⟨_, g2⟩ | ⟨j', u0, u', g1, _⟩
                · refine ⟨if ok then .tuple #[z, .bool false] else z, ?_, ?_⟩
                  · exact lookup_run0 ht hd hkk.1 hwh g2 (rZero hinf hz) w rfl
                  · cases ok
                    · exact VR.of_plain hp
                    · exact tuple2 (VR.of_plain hp) false
                · cases g1
              · cases hv
            · cases hv
          exact ⟨v', by simp only [hop, hk', Sem.run_bind, h1, Result.andThen_ok, Sem.run_pure], h2⟩
        · cases hv
      · cases hv
    · cases hv
  · rename_i c hop
    split at hv
    · rename_i x hcal hargs
      have hA : c.args = #[x] := Array.toList_inj.1 (by simpa using hargs)
      split at hv
      · rename_i k el ht hx
        cases hv
        have hx' := he.eval hx
        generalize hu : a.eval x = u at *
        rw [Option.bind_eq_some_iff] at ht
        obtain ⟨t, ht, hd⟩ := ht
        cases hx'
        refine ⟨_, ?_, .int _ _⟩
        simp only [hop, resolve, hcal, invoke, builtin, Builtin.len_, hA, ht, hu, Sem.run_bind, Sem.run_pure, Result.andThen_ok, List.map_toArray, List.map_cons, List.map_nil, List.getElem?_toArray, List.getElem?_cons_zero, run_underlying hd, goInt]
      · rename_i k el i ht hx
        split at hv
        · rename_i es hob
          cases hv
          have hx' := he.eval hx
          generalize hu : a.eval x = u at *
          rw [Option.bind_eq_some_iff] at ht
          obtain ⟨t, ht, hd⟩ := ht
          cases hx' with
          | @map _ e' hφ =>
            obtain ⟨e'', g1, g2⟩ := hh.obj _ _ hob
            rw [hφ] at g1; cases g1
            obtain ⟨_, es', clock, g3, g4⟩ := g2
            refine ⟨.int .i64 es.length, ?_, .int _ _⟩
            have hlen : es'.size = es.length := by rw [g4.1, Array.length_toList]
            have hg : (getObj e'.blk).run P w = .ok (.map es' clock) w := by simp [getObj, Sem.run, g3]
            simp only [hop, resolve, hcal, invoke, builtin, Builtin.len_, hA, ht, hu, Sem.run_bind, Sem.run_pure, Result.andThen_ok, List.map_toArray, List.map_cons, List.map_nil, List.getElem?_toArray, List.getElem?_cons_zero, run_underlying hd, goInt, hg, hlen]
        · cases hv
      · cases hv
    · cases hv
  · cases hv

end Go.Proofs.Ytbcgcnmnblfhmaa.Lin
