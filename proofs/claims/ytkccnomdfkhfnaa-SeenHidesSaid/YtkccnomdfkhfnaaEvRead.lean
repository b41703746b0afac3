/- What functions of the program compute, written down; read off their code. -/
import Derived.Test.YtkccnomdfkhfnaaEvSemP
import Derived.MapKept
import Derived.Maps.RangeRun
import Derived.Laws.BytesString
set_option linter.unusedSimpArgs false
set_option linter.unusedVariables false
namespace Go.Proofs.Ytkccnomdfkhfnaa.Ev
open Go.RowKit

/-! ## what looks at the memory -/
theorem bsel_true_elim {b x : Bool} (h : bsel b x false = true) : b = true ∧ x = true := by
  cases b with
  | true => exact ⟨rfl, h⟩
  | false => cases h
theorem aggN_sound {P : Program} {t : TypeId} {n : Nat} (h : aggN P t = some n) : (n = 0 ∧ isAggT P t = some false) ∨ (n ≠ 0 ∧ isAggT P t = some true ∧ sizeT P t = some n) := by
  unfold aggN at h
  split at h
  · rename_i ha
    split at h
    · rename_i m hm
      cases hb : Nat.beq m 0 with
      | true => rw [hb] at h; cases h
      | false =>
        rw [hb] at h; cases h
        exact .inr ⟨(fun e => by rw [← beq_iff', hb] at e; cases e), ha, hm⟩
    · cases h
  · rename_i ha; cases h; exact .inl ⟨rfl, ha⟩
  · cases h

theorem ld1_sound {n0 : Nat} {w0 : World} {μ : Mu} {st : St} {w : World} (h : RS n0 w0 μ st w) {P : Program} {o k : Nat} {l : List AV} {a : AV} {p : Place}
    (hl : ldCells st o k 1 = some l) (ha : hd1 l = some a) (hp : μ o = some p) (hk : p.lo ≤ k) : ∃ x, (load ⟨p.blk, p.at_ k, none⟩).run P w = .ok x w ∧ vr μ a x := by
  unfold ldCells at hl
  obtain ⟨ob, hob, hl'⟩ := obind_elim hl
  have ho := h.obj o p ob hp hob
  cases ob with
  | cells c lim esz ro tw =>
    dsimp only at hl'
    rcases bsel_some hl' with ⟨hb, hl2⟩ | ⟨_, hl2⟩
    · cases hl2
      rw [add_eq', ble_iff] at hb
      obtain ⟨cs, el, fr, h1, h2, h3, h4, h5⟩ := ho
      obtain ⟨v, g1, g2⟩ := h5 k hk (by omega)
      rw [rd_succ, rd_zero] at ha
      cases ha
      exact ⟨v, run_load h1 g1, g2⟩
    · cases hl2
  | map es clock => cases hl'
  | iter s pos => cases hl'
  | dead => cases hl'
  | miter m => cases hl'

theorem ldCells_rowLen {st : St} {o k n : Nat} {l : List AV} (h : ldCells st o k n = some l) : l.length = n := by
  unfold ldCells at h
  obtain ⟨ob, hob, h⟩ := obind_elim h
  cases ob with
  | cells c lim esz ro tw =>
    dsimp only at h
    rcases bsel_some h with ⟨_, h2⟩ | ⟨_, h2⟩
    · cases h2; exact rd_length _ _ _
    · cases h2
  | map es clock => cases h
  | iter s pos => cases h
  | dead => cases h
  | miter m => cases h
theorem all1_cons {x : AV} {l : List AV} (h : all1 (x :: l) = true) : cell1 x = true ∧ all1 l = true := by
  have h : bsel (cell1 x) (all1 l) false = true := h
  cases hc : cell1 x with
  | false => rw [hc] at h; cases h
  | true => rw [hc] at h; exact ⟨rfl, h⟩
theorem all1_get : ∀ {l : List AV} {i : Nat} {a : AV}, all1 l = true → l[i]? = some a → cell1 a = true
  | [], i, a, _, h => by simp at h
  | x :: l, i, a, hb, h => by
    obtain ⟨h1, h2⟩ := all1_cons hb
    cases i with
    | zero => simp at h; subst h; exact h1
    | succ i => simp at h; exact all1_get h2 h
theorem cell1_vr {μ : Mu} {a : AV} {v : Value} (h : vr μ a v) (hc : cell1 a = true) : (∀ xs, v ≠ .agg xs) ∧ ∀ xs, v ≠ .tuple xs := by
  have h1 : oneC v = true := oneCell_of_vr h (by cases a <;> first | rfl | cases hc)
  constructor <;> (rintro xs rfl; cases h1)
theorem altRows_get {st : St} {n : Nat} : ∀ {l : List AV} {rows : List (List AV)}, altRows st n l = some rows → ∀ {i : Nat} {a : AV}, l[i]? = some a →
    ∃ o k row, a = .ptr o k ∧ ldCells st o k n = some row ∧ rows[i]? = some row ∧ all1 row = true
  | [], rows, h, i, a, ha => by simp at ha
  | x :: l, rows, h, i, a, ha => by
    cases x <;> first | (cases h; done) | skip
    rename_i o k
    obtain ⟨row, h1, h2⟩ := obind_elim (show obind (ldCells st o k n) _ = some rows from h)
    obtain ⟨rs, h3, h4⟩ := obind_elim h2
    rcases bsel_some h4 with ⟨h5, h6⟩ | ⟨_, h6⟩
    · cases h6
      cases i with
      | zero => simp at ha; exact ⟨o, k, row, ha.symm, h1, by simp, h5⟩
      | succ i => simp at ha; simpa using altRows_get h3 ha
    · cases h6
theorem colOf_get (j : Nat) : ∀ {rows : List (List AV)} {i : Nat} {row : List AV} {x : AV}, rows[i]? = some row → row[j]? = some x → (colOf j rows)[i]? = some x
  | [], i, row, x, h, _ => by simp at h
  | r :: rows, i, row, x, h, hx => by
    cases i with
    | zero => simp at h; subst h; simp only [colOf, hx, List.getElem?_cons_zero]
    | succ i => simp at h; simp only [colOf, List.getElem?_cons_succ]; exact colOf_get j h hx
theorem altCols_length (it g : Nat) (rows : List (List AV)) : ∀ (n j : Nat), (altCols it g rows j n).length = n
  | 0, j => rfl
  | n + 1, j => by simp only [altCols, List.length_cons, altCols_length it g rows n]
theorem altCols_get (it g : Nat) (rows : List (List AV)) : ∀ (n j i : Nat), i < n → (altCols it g rows j n)[i]? = some (.alt it g (colOf (j + i) rows))
  | 0, j, i, h => by omega
  | n + 1, j, i, h => by
    cases i with
    | zero => simp [altCols]
    | succ i =>
      simp only [altCols, List.getElem?_cons_succ]
      rw [altCols_get it g rows n _ i (by omega)]
      congr 3
      show Nat.succ j + i = j + (i + 1)
      omega
/-- the cells behind one of the pointers are the columns' at its number -/
theorem altCols_vr {μ : Mu} {it g n : Nat} {rows : List (List AV)} {row : List AV} {p : Place} {xs : List Value} (hg : μ g = some p ∧ ∃ q, μ it = some q) (hr : rows[p.lo]? = some row) (h1 : all1 row = true) (hl : row.length = n)
    (hx : vrL μ row xs) : vrL μ (altCols it g rows 0 n) xs := by
  have hlen := vrL_length _ _ hx
  refine vrL_of_get _ _ (by rw [altCols_length]; omega) fun i a v ha hv => ?_
  have hi : i < n := by
    have := (List.getElem?_eq_some_iff.1 hv).1
    omega
  rw [altCols_get it g rows n 0 i hi] at ha
  cases ha
  have hri : row[i]? = some (row[i]'(by omega)) := List.getElem?_eq_getElem (by omega)
  obtain ⟨v', k1, k2⟩ := vrL_get _ _ hx i _ hri
  rw [hv] at k1; cases k1
  simp only [vr]
  exact ⟨p, hg, cell1_vr k2 (all1_get h1 hri), vrN_get.2 ⟨_, colOf_get _ hr (by rw [Nat.zero_add]; exact hri), k2⟩⟩

theorem aLoad_sound {n0 : Nat} {w0 : World} {μ : Mu} {st : St} {w : World} (h : RS n0 w0 μ st w) {P : Program} {t : TypeId} {x a : AV} {v : Value}
    (hl : aLoad P st t x = some a) (hv : vr μ x v) : ∃ p, v = .pointer (some p) ∧ ∃ u, (loadVar t p).run P w = .ok u w ∧ vr μ a u := by
  unfold aLoad at hl
  split at hl
  · rename_i o k
    simp only [vr] at hv
    obtain ⟨p, hp, hk, rfl⟩ := hv
    refine ⟨_, rfl, ?_⟩
    obtain ⟨n, hn, h2⟩ := obind_elim hl
    rcases aggN_sound hn with ⟨rfl, ha⟩ | ⟨hn0, ha, hs⟩
    · obtain ⟨l, g1, g2⟩ := obind_elim (show obind (ldCells st o k 1) hd1 = some a from h2)
      obtain ⟨u, e1, e2⟩ := ld1_sound h g1 g2 hp hk
      refine ⟨u, ?_, e2⟩
      unfold loadVar
      rw [run_bind_ok (run_isAgg ha w)]
      exact e1
    · have hb : Nat.beq n 0 = false := by
        cases hb : Nat.beq n 0 with
        | false => rfl
        | true => exact absurd (beq_iff'.1 hb) hn0
      rw [hb, bsel_false] at h2
      obtain ⟨l, g1, g2⟩ := obind_elim h2
      cases g2
      obtain ⟨xs, e1, e2⟩ := ldCells_sound h (P := P) g1 hp hk
      refine ⟨.agg ⟨xs⟩, ?_, by simp only [vr]; exact ⟨xs, rfl, e2⟩⟩
      unfold loadVar
      rw [run_bind_ok (run_isAgg ha w)]
      simp only [if_true]
      rw [run_bind_ok (run_sizeOf hs w), run_bind_ok e1]
      rfl
  · rename_i it g l
    simp only [vr] at hv
    obtain ⟨p, hp, h0, hN⟩ := hv
    obtain ⟨b, hb, hvb⟩ := vrN_get.1 hN
    obtain ⟨n, hn, h2⟩ := obind_elim hl
    rcases aggN_sound hn with ⟨rfl, ha⟩ | ⟨hn0, ha, hs⟩
    · obtain ⟨rows, g1, g2⟩ := obind_elim (show obind (altRows st 1 l) (fun rows => hd1 (altCols it g rows 0 1)) = some a from h2)
      obtain ⟨o, k, row, rfl, k1, k2, k3⟩ := altRows_get g1 hb
      simp only [vr] at hvb
      obtain ⟨q, hq, hk, rfl⟩ := hvb
      refine ⟨_, rfl, ?_⟩
      have hlen := ldCells_rowLen k1
      match row, hlen, k1, k2, k3 with
      | [c], _, k1, k2, k3 =>
        obtain ⟨u, e1, e2⟩ := ld1_sound h (P := P) k1 (a := c) rfl hq hk
        refine ⟨u, ?_, ?_⟩
        · unfold loadVar
          rw [run_bind_ok (run_isAgg ha w)]
          exact e1
        · have hc := altCols_vr (n := 1) (it := it) (xs := [u]) hp k2 k3 rfl (vrL_cons.2 ⟨e2, vrL_nil.2 rfl⟩)
          have e : altCols it g rows 0 1 = [.alt it g (colOf 0 rows)] := rfl
          rw [e] at hc g2
          cases g2
          exact (vrL_cons.1 hc).1
    · have hb0 : Nat.beq n 0 = false := by
        cases hb0 : Nat.beq n 0 with
        | false => rfl
        | true => exact absurd (beq_iff'.1 hb0) hn0
      rw [hb0, bsel_false] at h2
      obtain ⟨rows, g1, g2⟩ := obind_elim h2
      cases g2
      obtain ⟨o, k, row, rfl, k1, k2, k3⟩ := altRows_get g1 hb
      simp only [vr] at hvb
      obtain ⟨q, hq, hk, rfl⟩ := hvb
      refine ⟨_, rfl, ?_⟩
      obtain ⟨xs, e1, e2⟩ := ldCells_sound h (P := P) k1 hq hk
      refine ⟨.agg ⟨xs⟩, ?_, by simp only [vr]; exact ⟨xs, rfl, altCols_vr hp k2 k3 (ldCells_rowLen k1) e2⟩⟩
      unfold loadVar
      rw [run_bind_ok (run_isAgg ha w)]
      simp only [if_true]
      rw [run_bind_ok (run_sizeOf hs w), run_bind_ok e1]
      rfl
  · cases hl

theorem keyEq_sound {P : Program} {μ : Mu} {kt : TypeId} {d : TypeDesc} {k k' : AV} {v v' : Value} {b : Bool} (hd : P.underlying kt = some d) (hp : plainKey P kt k = true) (h : keyEq k k' = some b) (hv : vr μ k v) (hv' : vr μ k' v') :
    Instr.sameNow d v v' = some b := by
  unfold plainKey at hp
  rw [hd] at hp
  unfold keyEq at h
  split at h
  · rename_i a m a' m'
    rcases bsel_some (show bsel (sameK a a') (some (eqI m m')) none = some b by cases hk : sameK a a' <;> rw [hk] at h <;> exact h) with ⟨hk, h2⟩ | ⟨_, h2⟩
    · cases h2
      rw [sameK_iff] at hk; subst hk
      simp only [vr] at hv hv'; subst hv; subst hv'
      cases d <;> simp at hp
      simp [Instr.sameNow, eqI_eq]
    · cases h2
  · rename_i l c l' c'
    cases h
    obtain ⟨x, rfl, rfl, rfl⟩ := vr_s.1 hv
    obtain ⟨y, rfl, rfl, rfl⟩ := vr_s.1 hv'
    cases d <;> simp at hp
    simp only [Instr.sameNow]
    congr 1
    rw [Bool.eq_iff_iff, Bool.and_eq_true, beq_iff', beq_iff', Go.MapKept.bytes_beq]
    constructor
    · intro e; cases e; exact ⟨rfl, rfl⟩
    · rintro ⟨e1, e2⟩; rw [enc_inj _ _ e1 e2]
  · cases h

theorem aFind_sound {P : Program} {μ : Mu} {kt : TypeId} {d : TypeDesc} {key : AV} {kv : Value} (hd : P.underlying kt = some d) (hp : plainKey P kt key = true) (hk : vr μ key kv) :
    ∀ (es : List (AV × AV × Nat)) (ms : List MapEntry) (i : Nat) (r : Option (Nat × AV)), aFind key es i = some r → entsRel μ es ms →
      match r with
      | none => Instr.findNow d kv ms i = some none
      | some (j, a) => ∃ v m, Instr.findNow d kv ms i = some (some (j, v)) ∧ vr μ a v ∧ i ≤ j ∧ ms[j - i]? = some m ∧ m.val = v ∧ Instr.sameNow d kv m.key = some true
  | [], ms, i, r, h, hr => by
    simp only [entsRel] at hr; subst hr
    simp only [aFind, Option.some.injEq] at h; subst h
    rfl
  | e :: es, ms, i, r, h, hr => by
    obtain ⟨m, ms', rfl, ⟨q1, q2, q3⟩, q4⟩ := hr
    simp only [aFind] at h
    split at h
    · rename_i he
      cases h
      have hs := keyEq_sound hd hp he hk q1
      exact ⟨m.val, m, by simp [Instr.findNow, hs], q2, Nat.le_refl _, by simp, rfl, hs⟩
    · rename_i he
      have hs := keyEq_sound hd hp he hk q1
      have ih := aFind_sound hd hp hk es ms' (Nat.succ i) r h q4
      cases r with
      | none => simp only [Instr.findNow, hs]; exact ih
      | some r =>
        obtain ⟨j, a⟩ := r
        obtain ⟨v, m', g1, g2, g3, g4, g5, g6⟩ := ih
        refine ⟨v, m', by simp only [Instr.findNow, hs]; exact g1, g2, by omega, ?_, g5, g6⟩
        rw [show j - i = (j - Nat.succ i) + 1 from by omega, List.getElem?_cons_succ]
        exact g4
    · cases h

theorem run_checkKey' {P : Program} {μ : Mu} {kt : TypeId} {key : AV} {kv : Value} (hp : plainKey P kt key = true) (hk : vr μ key kv) (e : Bool) (w : World) :
    (Instr.checkKey e 10000 kt kv).run P w = .ok () w ∧ ∃ d, P.underlying kt = some d := by
  have key' : ∀ n, (Instr.checkKey e (n + 1) kt kv).run P w = .ok () w ∧ ∃ d, P.underlying kt = some d := by
    intro n
    unfold plainKey at hp
    split at hp
    · rename_i hd
      simp only [vr] at hk; subst hk
      refine ⟨?_, _, hd⟩
      unfold Instr.checkKey
      rw [run_bind_ok (run_underlying hd w)]; rfl
    · rename_i hd
      obtain ⟨x, rfl, _, _⟩ := vr_s.1 hk
      refine ⟨?_, _, hd⟩
      unfold Instr.checkKey
      rw [run_bind_ok (run_underlying hd w)]; rfl
    · cases hp
  exact key' 9999

theorem run_getObj_map' {P : Program} {w : World} {r : Nat} {es : Array MapEntry} {clock : Nat} (hb : w.heap[r]? = some (.map es clock)) : (getObj r).run P w = .ok (.map es clock) w := by
  simp [getObj, Sem.run, hb]

theorem run_findKey' {P : Program} {w : World} {kt : TypeId} {d : TypeDesc} {k : Value} {l : List MapEntry} {a : Option (Nat × Value)} (hd : P.underlying kt = some d) (h : Instr.findNow d k l 0 = some a) :
    (Instr.findKey kt k l).run P w = .ok a w := by
  unfold Instr.findKey
  rw [run_bind_ok (run_underlying hd w), h]; rfl

/-- a lookup, the entries at hand -/
def lookTail (kt et : TypeId) (kv : Value) (ok : Bool) (es : Array MapEntry) : Sem Value := do
  Instr.checkKey es.isEmpty 10000 kt kv
  let (v, ok') ← match ← Instr.findKey kt kv es.toList with
    | some (_, v) => pure (v, true)
    | none => pure (← zeroValue et, false)
  pure (if ok then .tuple #[v, .bool ok'] else v)
theorem lookup_map {P : Program} {t kt et : TypeId} {kv : Value} {ok : Bool} {w : World} {r : Nat} {es : Array MapEntry} {clock : Nat} (hu : P.underlying t = some (.map kt et)) (hb : w.heap[r]? = some (.map es clock)) :
    (Instr.lookup t (.map (some r)) kv ok).run P w = (lookTail kt et kv ok es).run P w := by
  unfold Instr.lookup lookTail
  rw [run_bind_ok (run_underlying hu w)]
  simp only []
  rw [run_bind_ok (run_getObj_map' hb)]
  simp only [pure_bind]
  refine congrArg (fun s => Sem.run P s w) ?_
  congr 1
theorem lookup_nil {P : Program} {t kt et : TypeId} {kv : Value} {ok : Bool} (hu : P.underlying t = some (.map kt et)) (w : World) :
    (Instr.lookup t (.map none) kv ok).run P w = (lookTail kt et kv ok #[]).run P w := by
  unfold Instr.lookup lookTail
  rw [run_bind_ok (run_underlying hu w)]
  simp only [pure_bind]
  refine congrArg (fun s => Sem.run P s w) ?_
  congr 1

mutual
theorem veq_eq : ∀ (n : Nat) (x y : AV), veq n x y = true → x = y
  | 0, _, _, h => by simp [veq] at h
  | n + 1, x, y, h => by
    cases x <;> cases y <;> simp only [veq] at h <;> try (cases h; done)
    all_goals (try simp only [Bool.and_eq_true, beq_iff', beq_iff_eq, sameK_iff] at h)
    all_goals first | rfl | (subst h; rfl; done) | skip
    · obtain ⟨rfl, h⟩ := h
      rw [eqI_eq] at h
      have := beq_iff_eq.1 h
      subst this; rfl
    · obtain ⟨rfl, rfl⟩ := h; rfl
    · obtain ⟨rfl, rfl⟩ := h; rfl
    · obtain ⟨⟨⟨⟨⟨rfl, rfl⟩, rfl⟩, rfl⟩, rfl⟩, rfl⟩ := h; rfl
    · obtain ⟨⟨rfl, h2⟩, h3⟩ := h; rw [veqL_eq n _ _ h2, veqL_eq n _ _ h3]
    · obtain ⟨rfl, h⟩ := h; rw [veq_eq n _ _ h]
    · rw [veqL_eq n _ _ h]
    · rw [veqL_eq n _ _ h]
    · obtain ⟨⟨rfl, rfl⟩, h3⟩ := h; rw [veqL_eq n _ _ h3]
theorem veqL_eq : ∀ (n : Nat) (x y : List AV), veqL n x y = true → x = y
  | _, [], [], _ => rfl
  | n, x :: xs, y :: ys, h => by
    simp only [veqL, Bool.and_eq_true] at h
    rw [veq_eq n x y h.1, veqL_eq n xs ys h.2]
  | _, [], _ :: _, h => by simp [veqL] at h
  | _, _ :: _, [], h => by simp [veqL] at h
end

theorem aLookup1_sound {n0 : Nat} {w0 : World} {μ : Mu} {st : St} {w : World} (h : RS n0 w0 μ st w) {P : Program} {t : TypeId} {ok : Bool} {x key a : AV} {v kv : Value}
    (hl : aLookup1 P st t ok x key = some a) (hv : vr μ x v) (hk : vr μ key kv) : ∃ u, (Instr.lookup t v kv ok).run P w = .ok u w ∧ vr μ a u := by
  unfold aLookup1 at hl
  split at hl
  · rename_i kt et hu
    cases hp : plainKey P kt key with
    | false => rw [hp] at hl; cases hl
    | true =>
      rw [hp] at hl
      simp only [cond_true] at hl
      split at hl
      · cases hl
      · rename_i es hes
        -- the entries
        have hent : ∃ ms : Array MapEntry, entsRel μ es ms.toList ∧ (Instr.lookup t v kv ok).run P w = (lookTail kt et kv ok ms).run P w := by
          unfold aEntries at hes
          split at hes
          · cases hes
            simp only [vr] at hv; subst hv
            exact ⟨#[], rfl, lookup_nil hu w⟩
          · rename_i r
            split at hes
            · rename_i es' clock hr
              cases hes
              simp only [vr] at hv
              obtain ⟨p, hp1, rfl⟩ := hv
              obtain ⟨ms, g1, g2⟩ := h.obj r p _ hp1 hr
              exact ⟨⟨ms⟩, g2, lookup_map hu g1⟩
            · cases hes
          · cases hes
        obtain ⟨ms, q1, q2⟩ := hent
        obtain ⟨c1, d, hd⟩ := run_checkKey' hp hk ms.isEmpty w
        rw [q2]
        unfold lookTail
        rw [run_bind_ok c1]
        split at hl
        · cases hl
        · rename_i j a' hf
          cases hl
          obtain ⟨v', m, g1, g2, _⟩ := aFind_sound hd hp hk es ms.toList 0 _ hf q1
          refine ⟨if ok then .tuple #[v', .bool true] else v', ?_, okTup_vr g2⟩
          rw [run_bind_ok (run_findKey' hd g1)]
          rfl
        · rename_i hf
          have g1 := aFind_sound hd hp hk es ms.toList 0 _ hf q1
          split at hl
          · rename_i z hz
            cases hl
            obtain ⟨zv, e1, e2⟩ := run_zeroValue hz μ w
            refine ⟨if ok then .tuple #[zv, .bool false] else zv, ?_, okTup_vr e2⟩
            rw [run_bind_ok (run_findKey' hd g1)]
            simp only [run_bind', e1, run_pure]
          · cases hl
  · cases hl

theorem bytesCode_sound {μ : Mu} : ∀ (l : List AV) (acc c : Nat) (xs : List Value), bytesCode l acc = some c → vrL μ l xs →
    ∃ bs : List UInt8, xs = bs.map (fun b => Value.int .u8 (Int.ofNat b.toNat)) ∧ c = acc * 256 ^ bs.length + enc bs
  | [], acc, c, xs, h, hx => by
    simp only [vrL] at hx; subst hx
    simp only [bytesCode, Option.some.injEq] at h; subst h
    exact ⟨[], rfl, by simp [enc]⟩
  | a :: l, acc, c, xs, h, hx => by
    simp only [vrL] at hx
    obtain ⟨v, r, rfl, h1, h2⟩ := hx
    unfold bytesCode at h
    split at h
    · rename_i e; cases e
    · rename_i acc n r' e
      cases e
      cases hb : Nat.blt n 256 with
      | false => rw [hb] at h; cases h
      | true =>
        rw [hb] at h
        rw [blt_iff] at hb
        simp only [vr] at h1; subst h1
        obtain ⟨bs, rfl, rfl⟩ := bytesCode_sound l _ c r h h2
        have e1 : (UInt8.ofNat n).toNat = n := by simp; omega
        refine ⟨UInt8.ofNat n :: bs, by simp only [List.map_cons, e1], ?_⟩
        rw [enc_cons, e1, List.length_cons, Nat.pow_succ, add_eq', mul_eq', Nat.add_mul, Nat.mul_assoc, Nat.mul_comm 256]
        omega
    · cases h

theorem aBytesStr_sound {n0 : Nat} {w0 : World} {μ : Mu} {st : St} {w : World} (h : RS n0 w0 μ st w) {P : Program} {s d : TypeId} {x a : AV} {v : Value}
    (hl : aBytesStr P st s x = some a) (hd : P.underlying d = some .string) (hv : vr μ x v) : ∃ u, (convert s d v).run P w = .ok u w ∧ vr μ a u := by
  unfold aBytesStr at hl
  split at hl
  · rename_i e hs
    split at hl
    · rename_i he
      have hconv : (∃ a l c, v = .slice a l c) → (convert s d v).run P w = (Conv.bytesToString v).run P w := by
        rintro ⟨a', l', c', rfl⟩
        unfold convert
        rw [run_bind_ok (run_underlying hs w), run_bind_ok (run_underlying hd w)]
        simp only []
        rw [run_bind_ok (run_underlying he w)]
      split at hl
      · rename_i o k len cap kn es
        split at hl
        · rename_i l hld
          split at hl
          · rename_i c hc
            cases hl
            simp only [vr] at hv
            obtain ⟨p, c', hp, hk, rfl, _⟩ := hv
            obtain ⟨xs, g1, g2⟩ := ldCells_sound h (P := P) hld hp hk
            obtain ⟨bs, rfl, rfl⟩ := bytesCode_sound l 0 c xs hc g2
            have hlen := vrL_length _ _ g2
            have hll : l.length = len := by
              unfold ldCells at hld
              obtain ⟨ob, hob, hld'⟩ := obind_elim hld
              cases ob with
              | cells c lim esz ro tw =>
                dsimp only at hld'
                rcases bsel_some hld' with ⟨_, h2⟩ | ⟨_, h2⟩
                · cases h2; exact rd_length _ _ _
                · cases h2
              | map es clock => cases hld'
              | iter s pos => cases hld'
              | dead => cases hld'
              | miter m => cases hld'
            have e : (loadCells ⟨p.blk, p.at_ k, none⟩ len).run P w = .ok ((bs.map fun b => Int.ofNat b.toNat).map (Value.int .u8)).toArray w := by
              rw [g1, List.map_map]; rfl
            refine ⟨.string ⟨⟨bs⟩⟩, ?_, vr_s.2 ⟨bs, rfl, by rw [← hll, ← hlen]; simp, by simp⟩⟩
            rw [hconv ⟨_, _, _, rfl⟩, Go.run_bytesToString w _ _ _ _ e]
            congr 2
            have fold : ∀ (bs : List UInt8) (acc : List UInt8), (bs.map fun b => Int.ofNat b.toNat).foldl (fun (r : ByteArray) n => r.push (UInt8.ofNat n.toNat)) ⟨⟨acc⟩⟩ = ⟨⟨acc ++ bs⟩⟩ := by
              intro bs
              induction bs with
              | nil => intro acc; simp
              | cons b bs ih =>
                intro acc
                rw [List.map_cons, List.foldl_cons]
                have e1 : (⟨⟨acc⟩⟩ : ByteArray).push (UInt8.ofNat (Int.ofNat b.toNat).toNat) = ⟨⟨acc ++ [b]⟩⟩ := by
                  apply ByteArray.ext
                  show Array.push ⟨acc⟩ _ = _
                  apply Array.toList_inj.1
                  simp
                rw [e1, ih]; simp
            exact fold bs []
          · cases hl
        · cases hl
      · cases hl
        simp only [vr] at hv
        obtain ⟨p, c, off, _, rfl⟩ := hv
        refine ⟨.string ⟨⟨[]⟩⟩, ?_, vr_s.2 ⟨[], rfl, rfl, rfl⟩⟩
        rw [hconv ⟨_, _, _, rfl⟩]
        have e : (loadCells ⟨p.blk, off, none⟩ 0).run P w = .ok (([] : List Int).map (Value.int .u8)).toArray w := rfl
        rw [Go.run_bytesToString w _ _ _ _ e]
        rfl
      · cases hl
        simp only [vr] at hv; subst hv
        refine ⟨.string ⟨⟨[]⟩⟩, ?_, vr_s.2 ⟨[], rfl, rfl, rfl⟩⟩
        rw [hconv ⟨_, _, _, rfl⟩]; rfl
      · cases hl
    · cases hl
  · cases hl

theorem lookAlt_get {P : Program} {st : St} {t : TypeId} {ok : Bool} {x : AV} : ∀ {l : List AV} {a : AV}, lookAlt P st t ok x l = some a → ∀ {i : Nat} {k : AV}, l[i]? = some k → aLookup1 P st t ok x k = some a
  | [], a, h, i, k, hk => by simp at hk
  | [k0], a, h, i, k, hk => by
    cases i with
    | zero => simp at hk; subst hk; exact h
    | succ i => simp at hk
  | k0 :: k1 :: r, a, h, i, k, hk => by
    obtain ⟨v, h1, h2⟩ := obind_elim (show obind (aLookup1 P st t ok x k0) _ = some a from h)
    obtain ⟨v', h3, h4⟩ := obind_elim h2
    rcases bsel_some h4 with ⟨h5, h6⟩ | ⟨_, h6⟩
    · cases h6
      have := veq_eq _ _ _ h5
      subst this
      cases i with
      | zero => simp at hk; subst hk; exact h1
      | succ i => simp at hk; exact lookAlt_get h3 (i := i) hk
    · cases h6
theorem aLookup_sound {n0 : Nat} {w0 : World} {μ : Mu} {st : St} {w : World} (h : RS n0 w0 μ st w) {P : Program} {t : TypeId} {ok : Bool} {x key a : AV} {v kv : Value}
    (hl : aLookup P st t ok x key = some a) (hv : vr μ x v) (hk : vr μ key kv) : ∃ u, (Instr.lookup t v kv ok).run P w = .ok u w ∧ vr μ a u := by
  unfold aLookup at hl
  split at hl
  · rename_i it g l
    simp only [vr] at hk
    obtain ⟨p, _, _, hN⟩ := hk
    obtain ⟨b, hb, hvb⟩ := vrN_get.1 hN
    exact aLookup1_sound h (lookAlt_get hl hb) hv hvb
  · exact aLookup1_sound h hl hv hk

/-! ### the entries of a map -/
theorem entsRel_length {μ : Mu} : ∀ {es : List (AV × AV × Nat)} {ms : List MapEntry}, entsRel μ es ms → ms.length = es.length
  | [], ms, h => by rw [show ms = [] from h]; rfl
  | e :: es, ms, ⟨m, r, h1, _, h3⟩ => by rw [h1, List.length_cons, List.length_cons, entsRel_length h3]
theorem entsRel_at {μ : Mu} : ∀ {es : List (AV × AV × Nat)} {ms : List MapEntry}, entsRel μ es ms → ∀ {i : Nat} {m : MapEntry}, ms[i]? = some m →
    ∃ e, es[i]? = some e ∧ vr μ e.1 m.key ∧ vr μ e.2.1 m.val ∧ m.born = e.2.2
  | [], ms, h, i, m, hm => by rw [show ms = [] from h] at hm; simp at hm
  | e :: es, ms, ⟨m', r, h1, ⟨a, b, c⟩, h3⟩, i, m, hm => by
    subst h1
    cases i with
    | zero => simp at hm; subst hm; exact ⟨e, by simp, a, b, c⟩
    | succ i => simp at hm; simpa using entsRel_at h3 hm
theorem entsRel_borns {μ : Mu} : ∀ {es : List (AV × AV × Nat)} {ms : List MapEntry}, entsRel μ es ms → ms.map (·.born) = borns es
  | [], ms, h => by rw [show ms = [] from h]; rfl
  | e :: es, ms, ⟨m', r, h1, ⟨a, b, c⟩, h3⟩ => by subst h1; simp only [List.map_cons, borns, c, entsRel_borns h3]
theorem keysOf_get : ∀ {es : List (AV × AV × Nat)} {i : Nat} {e : AV × AV × Nat}, es[i]? = some e → (keysOf es)[i]? = some e.1 ∧ (valsOf es)[i]? = some e.2.1
  | [], i, e, h => by simp at h
  | x :: es, i, e, h => by
    cases i with
    | zero => simp at h; subst h; simp [keysOf, valsOf]
    | succ i => simp at h; simpa [keysOf, valsOf] using keysOf_get h
theorem eqNs_eq : ∀ {a b : List Nat}, eqNs a b = true → a = b
  | [], [], _ => rfl
  | x :: a, y :: b, h => by
    rcases bsel_true_elim (show bsel (Nat.beq x y) (eqNs a b) false = true from h) with ⟨h1, h2⟩
    rw [Nat.beq_eq] at h1
    rw [h1, eqNs_eq h2]
  | [], _ :: _, h => by cases h
  | _ :: _, [], h => by cases h
theorem allLt_mem {n : Nat} : ∀ {l : List Nat}, allLt n l = true → ∀ a ∈ l, a < n
  | [], _, a, h => by cases h
  | x :: l, h, a, ha => by
    rcases bsel_true_elim (show bsel (Nat.blt x n) (allLt n l) false = true from h) with ⟨h1, h2⟩
    rcases List.mem_cons.1 ha with rfl | ha
    · exact blt_iff.1 h1
    · exact allLt_mem h2 a ha
theorem noN_mem {a : Nat} : ∀ {l : List Nat}, noN a l = true → a ∉ l
  | [], _, h => by cases h
  | x :: l, h, ha => by
    have h : bsel (Nat.beq a x) false (noN a l) = true := h
    cases hb : Nat.beq a x with
    | true => rw [hb] at h; cases h
    | false =>
      rw [hb] at h
      rcases List.mem_cons.1 ha with rfl | ha
      · simp at hb
      · exact noN_mem h ha
theorem distN_nodup : ∀ {l : List Nat}, distN l = true → l.Nodup
  | [], _ => List.nodup_nil
  | x :: l, h => by
    rcases bsel_true_elim (show bsel (noN x l) (distN l) false = true from h) with ⟨h1, h2⟩
    exact List.nodup_cons.2 ⟨noN_mem h1, distN_nodup h2⟩
theorem lenN_eq : ∀ (l : List Nat), lenN l = l.length
  | [] => rfl
  | _ :: l => by simp only [lenN, List.length_cons, lenN_eq l]
theorem okM_elim {since clock : Nat} {bs : List Nat} {es : List (AV × AV × Nat)} (h : okM since bs es clock = true) :
    clock = since ∧ bs = borns es ∧ (∀ b ∈ bs, b < since) ∧ bs.Nodup ∧ all1 (keysOf es) = true ∧ all1 (valsOf es) = true := by
  unfold okM at h
  obtain ⟨h1, h⟩ := bsel_true_elim h
  obtain ⟨h2, h⟩ := bsel_true_elim h
  obtain ⟨h3, h⟩ := bsel_true_elim h
  obtain ⟨h4, h⟩ := bsel_true_elim h
  obtain ⟨h5, h6⟩ := bsel_true_elim h
  rw [Nat.beq_eq] at h1
  exact ⟨h1, eqNs_eq h2, allLt_mem h3, distN_nodup h4, h5, h6⟩
theorem lastN_snoc {gs : List Nat} {g : Nat} (h : lastN gs = some g) : ∃ r, gs = r ++ [g] := by
  induction gs with
  | nil => cases h
  | cons a l ih =>
    cases l with
    | nil => cases h; exact ⟨[], rfl⟩
    | cons b l => obtain ⟨r, e⟩ := ih h; exact ⟨a :: r, by rw [e]; rfl⟩
/-- an entry, told by the number that keeps which one it is -/
theorem entry_vr {μ : Mu} {es : List (AV × AV × Nat)} {r g i : Nat} {p : Place} {e : AV × AV × Nat} {m : MapEntry} (hg : μ g = some p ∧ ∃ q, μ r = some q) (hp : p.lo = i) (he : es[i]? = some e)
    (hk : vr μ e.1 m.key) (hv : vr μ e.2.1 m.val) (h5 : all1 (keysOf es) = true) (h6 : all1 (valsOf es) = true) :
    vr μ (.alt r g (keysOf es)) m.key ∧ vr μ (.alt r g (valsOf es)) m.val := by
  subst hp
  obtain ⟨k1, k2⟩ := keysOf_get he
  simp only [vr]
  exact ⟨⟨p, hg, cell1_vr hk (all1_get h5 k1), vrN_get.2 ⟨_, k1, hk⟩⟩, ⟨p, hg, cell1_vr hv (all1_get h6 k2), vrN_get.2 ⟨_, k2, hv⟩⟩⟩

theorem aEntry_sound {n0 : Nat} {w0 : World} {μ : Mu} {st : St} {w : World} (h : RS n0 w0 μ st w) {P : Program} {x a : AV} {v : Value} (hl : aEntry st x = some a) (hv : vr μ x v) :
    ∃ u, (Instr.entry v).run P w = .ok u w ∧ vr μ a u := by
  unfold aEntry at hl
  split at hl
  · rename_i r
    simp only [vr] at hv
    obtain ⟨p, hp, hk, rfl⟩ := hv
    split at hl
    · rename_i mi hob
      obtain ⟨m, since, bs, gs⟩ := mi
      obtain ⟨e1, e2, q, seen, e3, e4, e5, e6⟩ := h.obj r p _ hp hob
      have hat : p.at_ 0 = 0 := by simp [Place.at_, e1, e2]
      rw [hat]
      unfold entryM at hl
      dsimp only at hl
      split at hl
      · rename_i es clock hm
        obtain ⟨ms, f1, f2⟩ := h.obj m q _ e3 hm
        unfold need at hl
        rcases bsel_some hl with ⟨hok, hl2⟩ | ⟨_, hl2⟩
        · clear hl
          obtain ⟨rfl, rfl, k3, k4, k5, k6⟩ := okM_elim hok
          obtain ⟨g, hg, hl3⟩ := obind_elim hl2
          cases hl3
          obtain ⟨gr, rfl⟩ := lastN_snoc hg
          obtain ⟨q1, s, j1, j2, j3⟩ := seenRel_get _ _ e6 gr.length g (by simp)
          have hlen := seenRel_length _ _ e6
          obtain ⟨sr, rfl⟩ : ∃ sr, seen = sr ++ [s] := by
            refine ⟨seen.dropLast, ?_⟩
            have hne : seen ≠ [] := by intro e; subst e; simp at hlen
            rw [← List.dropLast_concat_getLast hne]
            simp only [List.dropLast_concat]
            congr 2
            rw [List.getLast_eq_getElem]
            have : seen.length - 1 = gr.length := by rw [hlen]; simp
            simp only [this]
            exact (List.getElem?_eq_some_iff.1 j3).2
          rw [← entsRel_borns f2, List.getElem?_map] at j2
          obtain ⟨me, hme, rfl⟩ := Option.map_eq_some_iff.1 j2
          obtain ⟨e, i1, i2, i3, i4⟩ := entsRel_at f2 hme
          obtain ⟨v1, v2⟩ := entry_vr (r := r) ⟨j1, p, hp⟩ rfl i1 i2 i3 k5 k6
          refine ⟨.tuple #[me.key, me.val], ?_, ?_⟩
          · have hpush : (⟨sr ++ [me.born]⟩ : Array Nat) = (⟨sr⟩ : Array Nat).push me.born := by apply Array.toList_inj.1; simp
            rw [hpush] at e4
            exact run_entry_at w p.blk q.blk clock ⟨sr⟩ ⟨ms⟩ clock me e4 f1 (List.mem_of_getElem? hme) (by rw [← entsRel_borns f2] at k4; exact k4)
          · simp only [vr]
            exact ⟨_, rfl, vrL_cons.2 ⟨v1, vrL_cons.2 ⟨v2, by simp only [vrL]⟩⟩⟩
        · cases hl2
      · cases hl
    · cases hl
  · cases hl

/-- an operation that looks at the memory -/
theorem semR_sound {n0 : Nat} {w0 : World} {μ : Mu} {st : St} {w : World} (h : RS n0 w0 μ st w) {P : Program} {ev : Od → Option AV} {od : Operand → Od} {ρ : Operand → Value} {o : Oper} {a : AV}
    (hr : OdRel μ ev od ρ) (hs : semR P o.op ev (o.op.operands.toList.map od) st = some a) (hc : cls P o.op = 1) : ∃ v, (execOp ρ o).run P w = .ok (.value v) w ∧ vr μ a v := by
  obtain ⟨dst, op, ty, pos, after, guard⟩ := o
  cases op <;> simp only [semR] at hs <;> try (cases hs; done)
  case load t x =>
    obtain ⟨b, h1, h2⟩ := one_elim (x := x) hs hr
    obtain ⟨p, e1, u, e2, e3⟩ := aLoad_sound h (P := P) h2 h1
    refine ⟨u, run_value ?_, e3⟩
    simp only [e1]
    exact e2
  case lookup t x k ok =>
    obtain ⟨b, c, h1, h2, h3⟩ := two_elim (x := x) (y := k) hs hr
    obtain ⟨u, e1, e2⟩ := aLookup_sound h h3 h1 h2
    exact ⟨u, run_value e1, e2⟩
  case convert s d x =>
    obtain ⟨b, h1, h2⟩ := one_elim (x := x) hs hr
    have hd : P.underlying d = some .string := by
      simp only [cls] at hc
      split at hc
      · cases hc
      · assumption
      · cases hc
      · cases hc
    obtain ⟨u, e1, e2⟩ := aBytesStr_sound h h2 hd h1
    exact ⟨u, run_value e1, e2⟩
  case entry x =>
    obtain ⟨b, h1, h2⟩ := one_elim (x := x) hs hr
    obtain ⟨u, e1, e2⟩ := aEntry_sound h (P := P) h2 h1
    exact ⟨u, run_value e1, e2⟩

end Go.Proofs.Ytkccnomdfkhfnaa.Ev
