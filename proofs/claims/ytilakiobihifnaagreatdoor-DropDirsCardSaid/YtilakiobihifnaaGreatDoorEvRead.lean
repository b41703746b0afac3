import Derived.Test.YtilakiobihifnaaGreatDoorEvSemP
import Derived.MapKept
import Derived.Laws.BytesString
namespace Go.Proofs.YtilakiobihifnaaGreatDoor.Ev
open Go.RowKit

/-! ## what looks at the memory -/
theorem aggN_sound {P : Program} {t : TypeId} {n : Nat} (h : aggN P t = some n) : (n = 0 ∧ isAggT P t = some false) ∨ (n ≠ 0 ∧ isAggT P t = some true ∧ sizeT P t = some n) := by
  unfold aggN at h
  split at h
  · rename_i ha
    split at h
    · rename_i m hm
      cases hb : Nat.beq m 0 with
      | true => rw [hb] at h; cases h
      | false =>
        rw [hb] at h; cases h
        exact .inr ⟨(fun e => by rw [← beq_iff', hb] at e; cases e), ha, hm⟩
    · cases h
  · rename_i ha; cases h; exact .inl ⟨rfl, ha⟩
  · cases h

theorem ld1_sound {n0 : Nat} {w0 : World} {μ : Mu} {st : St} {w : World} (h : RS n0 w0 μ st w) {P : Program} {o k : Nat} {l : List AV} {a : AV} {p : Place}
    (hl : ldCells st o k 1 = some l) (ha : hd1 l = some a) (hp : μ o = some p) (hk : p.lo ≤ k) : ∃ x, (load ⟨p.blk, p.at_ k, none⟩).run P w = .ok x w ∧ vr μ a x := by
  unfold ldCells at hl
  obtain ⟨ob, hob, hl'⟩ := obind_elim hl
  have ho := h.obj o p ob hp hob
  cases ob with
  | cells c lim esz ro tw =>
    dsimp only at hl'
    rcases bsel_some hl' with ⟨hb, hl2⟩ | ⟨_, hl2⟩
    · cases hl2
      rw [add_eq', ble_iff] at hb
      obtain ⟨cs, el, fr, h1, h2, h3, h4, h5⟩ := ho
      obtain ⟨v, g1, g2⟩ := h5 k hk (by omega)
      rw [rd_succ, rd_zero] at ha
      cases ha
      exact ⟨v, run_load h1 g1, g2⟩
    · cases hl2
  | map es clock => cases hl'
  | iter s pos => cases hl'
  | dead => cases hl'
  | miter m => cases hl'

theorem aLoad_sound {n0 : Nat} {w0 : World} {μ : Mu} {st : St} {w : World} (h : RS n0 w0 μ st w) {P : Program} {t : TypeId} {x a : AV} {v : Value}
    (hl : aLoad P st t x = some a) (hv : vr μ x v) : ∃ p, v = .pointer (some p) ∧ ∃ u, (loadVar t p).run P w = .ok u w ∧ vr μ a u := by
  unfold aLoad at hl
  split at hl
  · rename_i o k
    simp only [vr] at hv
    obtain ⟨p, hp, hk, rfl⟩ := hv
    refine ⟨_, rfl, ?_⟩
    obtain ⟨n, hn, h2⟩ := obind_elim hl
    rcases aggN_sound hn with ⟨rfl, ha⟩ | ⟨hn0, ha, hs⟩
    · obtain ⟨l, g1, g2⟩ := obind_elim (show obind (ldCells st o k 1) hd1 = some a from h2)
      obtain ⟨u, e1, e2⟩ := ld1_sound h g1 g2 hp hk
      refine ⟨u, ?_, e2⟩
      unfold loadVar
      rw [run_bind_ok (run_isAgg ha w)]
      exact e1
    · have hb : Nat.beq n 0 = false := by
        cases hb : Nat.beq n 0 with
        | false => rfl
        | true => exact absurd (beq_iff'.1 hb) hn0
      rw [hb, bsel_false] at h2
      obtain ⟨l, g1, g2⟩ := obind_elim h2
      cases g2
      obtain ⟨xs, e1, e2⟩ := ldCells_sound h (P := P) g1 hp hk
      refine ⟨.agg ⟨xs⟩, ?_, by simp only [vr]; exact ⟨xs, rfl, e2⟩⟩
      unfold loadVar
      rw [run_bind_ok (run_isAgg ha w)]
      simp only [if_true]
      rw [run_bind_ok (run_sizeOf hs w), run_bind_ok e1]
      rfl
  · cases hl

theorem keyEq_sound {P : Program} {μ : Mu} {kt : TypeId} {d : TypeDesc} {k k' : AV} {v v' : Value} {b : Bool} (hd : P.underlying kt = some d) (hp : plainKey P kt k = true) (h : keyEq k k' = some b) (hv : vr μ k v) (hv' : vr μ k' v') :
    Instr.sameNow d v v' = some b := by
  unfold plainKey at hp
  rw [hd] at hp
  unfold keyEq at h
  split at h
  · rename_i a m a' m'
    rcases bsel_some (show bsel (sameK a a') (some (eqI m m')) none = some b by cases hk : sameK a a' <;> rw [hk] at h <;> exact h) with ⟨hk, h2⟩ | ⟨_, h2⟩
    · cases h2
      rw [sameK_iff] at hk; subst hk
      simp only [vr] at hv hv'; subst hv; subst hv'
      cases d <;> simp at hp
      simp [Instr.sameNow, eqI_eq]
    · cases h2
  · rename_i l c l' c'
    cases h
    obtain ⟨x, rfl, rfl, rfl⟩ := vr_s.1 hv
    obtain ⟨y, rfl, rfl, rfl⟩ := vr_s.1 hv'
    cases d <;> simp at hp
    simp only [Instr.sameNow]
    congr 1
    rw [Bool.eq_iff_iff, Bool.and_eq_true, beq_iff', beq_iff', Go.MapKept.bytes_beq]
    constructor
    · intro e; cases e; exact ⟨rfl, rfl⟩
    · rintro ⟨e1, e2⟩; rw [enc_inj _ _ e1 e2]
  · cases h

theorem aFind_sound {P : Program} {μ : Mu} {kt : TypeId} {d : TypeDesc} {key : AV} {kv : Value} (hd : P.underlying kt = some d) (hp : plainKey P kt key = true) (hk : vr μ key kv) :
    ∀ (es : List (AV × AV × Nat)) (ms : List MapEntry) (i : Nat) (r : Option (Nat × AV)), aFind key es i = some r → entsRel μ es ms →
      match r with
      | none => Instr.findNow d kv ms i = some none
      | some (j, a) => ∃ v m, Instr.findNow d kv ms i = some (some (j, v)) ∧ vr μ a v ∧ i ≤ j ∧ ms[j - i]? = some m ∧ m.val = v ∧ Instr.sameNow d kv m.key = some true
  | [], ms, i, r, h, hr => by
    simp only [entsRel] at hr; subst hr
    simp only [aFind, Option.some.injEq] at h; subst h
    rfl
  | e :: es, ms, i, r, h, hr => by
    obtain ⟨m, ms', rfl, ⟨q1, q2, q3⟩, q4⟩ := hr
    simp only [aFind] at h
    split at h
    · rename_i he
      cases h
      have hs := keyEq_sound hd hp he hk q1
      exact ⟨m.val, m, by simp [Instr.findNow, hs], q2, Nat.le_refl _, by simp, rfl, hs⟩
    · rename_i he
      have hs := keyEq_sound hd hp he hk q1
      have ih := aFind_sound hd hp hk es ms' (Nat.succ i) r h q4
      cases r with
      | none => simp only [Instr.findNow, hs]; exact ih
      | some r =>
        obtain ⟨j, a⟩ := r
        obtain ⟨v, m', g1, g2, g3, g4, g5, g6⟩ := ih
        refine ⟨v, m', by simp only [Instr.findNow, hs]; exact g1, g2, by omega, ?_, g5, g6⟩
        rw [show j - i = (j - Nat.succ i) + 1 from by omega, List.getElem?_cons_succ]
        exact g4
    · cases h

theorem run_checkKey' {P : Program} {μ : Mu} {kt : TypeId} {key : AV} {kv : Value} (hp : plainKey P kt key = true) (hk : vr μ key kv) (e : Bool) (w : World) :
    (Instr.checkKey e 10000 kt kv).run P w = .ok () w ∧ ∃ d, P.underlying kt = some d := by
  have key' : ∀ n, (Instr.checkKey e (n + 1) kt kv).run P w = .ok () w ∧ ∃ d, P.underlying kt = some d := by
    intro n
    unfold plainKey at hp
    split at hp
    · rename_i hd
      simp only [vr] at hk; subst hk
      refine ⟨?_, _, hd⟩
      unfold Instr.checkKey
      rw [run_bind_ok (run_underlying hd w)]; rfl
    · rename_i hd
      obtain ⟨x, rfl, _, _⟩ := vr_s.1 hk
      refine ⟨?_, _, hd⟩
      unfold Instr.checkKey
      rw [run_bind_ok (run_underlying hd w)]; rfl
    · cases hp
  exact key' 9999

theorem run_getObj_map' {P : Program} {w : World} {r : Nat} {es : Array MapEntry} {clock : Nat} (hb : w.heap[r]? = some (.map es clock)) : (getObj r).run P w = .ok (.map es clock) w := by
  simp [getObj, Sem.run, hb]

theorem run_findKey' {P : Program} {w : World} {kt : TypeId} {d : TypeDesc} {k : Value} {l : List MapEntry} {a : Option (Nat × Value)} (hd : P.underlying kt = some d) (h : Instr.findNow d k l 0 = some a) :
    (Instr.findKey kt k l).run P w = .ok a w := by
  unfold Instr.findKey
  rw [run_bind_ok (run_underlying hd w), h]; rfl

/-- a lookup, the entries at hand -/
def lookTail (kt et : TypeId) (kv : Value) (ok : Bool) (es : Array MapEntry) : Sem Value := do
  Instr.checkKey es.isEmpty 10000 kt kv
  let (v, ok') ← match ← Instr.findKey kt kv es.toList with
    | some (_, v) => pure (v, true)
    | none => pure (← zeroValue et, false)
  pure (if ok then .tuple #[v, .bool ok'] else v)
theorem lookup_map {P : Program} {t kt et : TypeId} {kv : Value} {ok : Bool} {w : World} {r : Nat} {es : Array MapEntry} {clock : Nat} (hu : P.underlying t = some (.map kt et)) (hb : w.heap[r]? = some (.map es clock)) :
    (Instr.lookup t (.map (some r)) kv ok).run P w = (lookTail kt et kv ok es).run P w := by
  unfold Instr.lookup lookTail
  rw [run_bind_ok (run_underlying hu w)]
  simp only []
  rw [run_bind_ok (run_getObj_map' hb)]
  simp only [pure_bind]
  refine congrArg (fun s => Sem.run P s w) ?_
  congr 1
theorem lookup_nil {P : Program} {t kt et : TypeId} {kv : Value} {ok : Bool} (hu : P.underlying t = some (.map kt et)) (w : World) :
    (Instr.lookup t (.map none) kv ok).run P w = (lookTail kt et kv ok #[]).run P w := by
  unfold Instr.lookup lookTail
  rw [run_bind_ok (run_underlying hu w)]
  simp only [pure_bind]
  refine congrArg (fun s => Sem.run P s w) ?_
  congr 1

theorem aLookup_sound {n0 : Nat} {w0 : World} {μ : Mu} {st : St} {w : World} (h : RS n0 w0 μ st w) {P : Program} {t : TypeId} {ok : Bool} {x key a : AV} {v kv : Value}
    (hl : aLookup P st t ok x key = some a) (hv : vr μ x v) (hk : vr μ key kv) : ∃ u, (Instr.lookup t v kv ok).run P w = .ok u w ∧ vr μ a u := by
  unfold aLookup at hl
  split at hl
  · rename_i kt et hu
    cases hp : plainKey P kt key with
    | false => rw [hp] at hl; cases hl
    | true =>
      rw [hp] at hl
      simp only [cond_true] at hl
      split at hl
      · cases hl
      · rename_i es hes
        -- the entries
        have hent : ∃ ms : Array MapEntry, entsRel μ es ms.toList ∧ (Instr.lookup t v kv ok).run P w = (lookTail kt et kv ok ms).run P w := by
          unfold aEntries at hes
          split at hes
          · cases hes
            simp only [vr] at hv; subst hv
            exact ⟨#[], rfl, lookup_nil hu w⟩
          · rename_i r
            split at hes
            · rename_i es' clock hr
              cases hes
              simp only [vr] at hv
              obtain ⟨p, hp1, rfl⟩ := hv
              obtain ⟨ms, g1, g2⟩ := h.obj r p _ hp1 hr
              exact ⟨⟨ms⟩, g2, lookup_map hu g1⟩
            · cases hes
          · cases hes
        obtain ⟨ms, q1, q2⟩ := hent
        obtain ⟨c1, d, hd⟩ := run_checkKey' hp hk ms.isEmpty w
        rw [q2]
        unfold lookTail
        rw [run_bind_ok c1]
        split at hl
        · cases hl
        · rename_i j a' hf
          cases hl
          obtain ⟨v', m, g1, g2, _⟩ := aFind_sound hd hp hk es ms.toList 0 _ hf q1
          refine ⟨if ok then .tuple #[v', .bool true] else v', ?_, okTup_vr g2⟩
          rw [run_bind_ok (run_findKey' hd g1)]
          rfl
        · rename_i hf
          have g1 := aFind_sound hd hp hk es ms.toList 0 _ hf q1
          split at hl
          · rename_i z hz
            cases hl
            obtain ⟨zv, e1, e2⟩ := run_zeroValue hz μ w
            refine ⟨if ok then .tuple #[zv, .bool false] else zv, ?_, okTup_vr e2⟩
            rw [run_bind_ok (run_findKey' hd g1)]
            simp only [run_bind', e1, run_pure]
          · cases hl
  · cases hl

theorem bytesCode_sound {μ : Mu} : ∀ (l : List AV) (acc c : Nat) (xs : List Value), bytesCode l acc = some c → vrL μ l xs →
    ∃ bs : List UInt8, xs = bs.map (fun b => Value.int .u8 (Int.ofNat b.toNat)) ∧ c = acc * 256 ^ bs.length + enc bs
  | [], acc, c, xs, h, hx => by
    simp only [vrL] at hx; subst hx
    simp only [bytesCode, Option.some.injEq] at h; subst h
    exact ⟨[], rfl, by simp [enc]⟩
  | a :: l, acc, c, xs, h, hx => by
    simp only [vrL] at hx
    obtain ⟨v, r, rfl, h1, h2⟩ := hx
    unfold bytesCode at h
    split at h
    · rename_i e; cases e
    · rename_i acc n r' e
      cases e
      cases hb : Nat.blt n 256 with
      | false => rw [hb] at h; cases h
      | true =>
        rw [hb] at h
        rw [blt_iff] at hb
        simp only [vr] at h1; subst h1
        obtain ⟨bs, rfl, rfl⟩ := bytesCode_sound l _ c r h h2
        have e1 : (UInt8.ofNat n).toNat = n := by simp; omega
        refine ⟨UInt8.ofNat n :: bs, by simp only [List.map_cons, e1], ?_⟩
        rw [enc_cons, e1, List.length_cons, Nat.pow_succ, add_eq', mul_eq', Nat.add_mul, Nat.mul_assoc, Nat.mul_comm 256]
        omega
    · cases h

theorem aBytesStr_sound {n0 : Nat} {w0 : World} {μ : Mu} {st : St} {w : World} (h : RS n0 w0 μ st w) {P : Program} {s d : TypeId} {x a : AV} {v : Value}
    (hl : aBytesStr P st s x = some a) (hd : P.underlying d = some .string) (hv : vr μ x v) : ∃ u, (convert s d v).run P w = .ok u w ∧ vr μ a u := by
  unfold aBytesStr at hl
  split at hl
  · rename_i e hs
    split at hl
    · rename_i he
      have hconv : (∃ a l c, v = .slice a l c) → (convert s d v).run P w = (Conv.bytesToString v).run P w := by
        rintro ⟨a', l', c', rfl⟩
        unfold convert
        rw [run_bind_ok (run_underlying hs w), run_bind_ok (run_underlying hd w)]
        simp only []
        rw [run_bind_ok (run_underlying he w)]
      split at hl
      · rename_i o k len cap kn es
        split at hl
        · rename_i l hld
          split at hl
          · rename_i c hc
            cases hl
            simp only [vr] at hv
            obtain ⟨p, c', hp, hk, rfl, _⟩ := hv
            obtain ⟨xs, g1, g2⟩ := ldCells_sound h (P := P) hld hp hk
            obtain ⟨bs, rfl, rfl⟩ := bytesCode_sound l 0 c xs hc g2
            have hlen := vrL_length _ _ g2
            have hll : l.length = len := by
              unfold ldCells at hld
              obtain ⟨ob, hob, hld'⟩ := obind_elim hld
              cases ob with
              | cells c lim esz ro tw =>
                dsimp only at hld'
                rcases bsel_some hld' with ⟨_, h2⟩ | ⟨_, h2⟩
                · cases h2; exact rd_length _ _ _
                · cases h2
              | map es clock => cases hld'
              | iter s pos => cases hld'
              | dead => cases hld'
              | miter m => cases hld'
            have e : (loadCells ⟨p.blk, p.at_ k, none⟩ len).run P w = .ok ((bs.map fun b => Int.ofNat b.toNat).map (Value.int .u8)).toArray w := by
              rw [g1, List.map_map]; rfl
            refine ⟨.string ⟨⟨bs⟩⟩, ?_, vr_s.2 ⟨bs, rfl, by rw [← hll, ← hlen]; simp, by simp⟩⟩
            rw [hconv ⟨_, _, _, rfl⟩, Go.run_bytesToString w _ _ _ _ e]
            congr 2
            have fold : ∀ (bs : List UInt8) (acc : List UInt8), (bs.map fun b => Int.ofNat b.toNat).foldl (fun (r : ByteArray) n => r.push (UInt8.ofNat n.toNat)) ⟨⟨acc⟩⟩ = ⟨⟨acc ++ bs⟩⟩ := by
              intro bs
              induction bs with
              | nil => intro acc; simp
              | cons b bs ih =>
                intro acc
                rw [List.map_cons, List.foldl_cons]
                have e1 : (⟨⟨acc⟩⟩ : ByteArray).push (UInt8.ofNat (Int.ofNat b.toNat).toNat) = ⟨⟨acc ++ [b]⟩⟩ := by
                  apply ByteArray.ext
                  show Array.push ⟨acc⟩ _ = _
                  apply Array.toList_inj.1
                  simp
                rw [e1, ih]; simp
            exact fold bs []
          · cases hl
        · cases hl
      · cases hl
        simp only [vr] at hv
        obtain ⟨p, c, off, _, rfl⟩ := hv
        refine ⟨.string ⟨⟨[]⟩⟩, ?_, vr_s.2 ⟨[], rfl, rfl, rfl⟩⟩
        rw [hconv ⟨_, _, _, rfl⟩]
        have e : (loadCells ⟨p.blk, off, none⟩ 0).run P w = .ok (([] : List Int).map (Value.int .u8)).toArray w := rfl
        rw [Go.run_bytesToString w _ _ _ _ e]
        rfl
      · cases hl
        simp only [vr] at hv; subst hv
        refine ⟨.string ⟨⟨[]⟩⟩, ?_, vr_s.2 ⟨[], rfl, rfl, rfl⟩⟩
        rw [hconv ⟨_, _, _, rfl⟩]; rfl
      · cases hl
    · cases hl
  · cases hl

/-- an operation that looks at the memory -/
theorem semR_sound {n0 : Nat} {w0 : World} {μ : Mu} {st : St} {w : World} (h : RS n0 w0 μ st w) {P : Program} {ev : Od → Option AV} {od : Operand → Od} {ρ : Operand → Value} {o : Oper} {a : AV}
    (hr : OdRel μ ev od ρ) (hs : semR P o.op ev (o.op.operands.toList.map od) st = some a) (hc : cls P o.op = 1) : ∃ v, (execOp ρ o).run P w = .ok (.value v) w ∧ vr μ a v := by
  obtain ⟨dst, op, ty, pos, after, guard⟩ := o
  cases op <;> simp only [semR] at hs <;> try (cases hs; done)
  case load t x =>
    obtain ⟨b, h1, h2⟩ := one_elim (x := x) hs hr
    obtain ⟨p, e1, u, e2, e3⟩ := aLoad_sound h (P := P) h2 h1
    refine ⟨u, run_value ?_, e3⟩
    simp only [e1]
    exact e2
  case lookup t x k ok =>
    obtain ⟨b, c, h1, h2, h3⟩ := two_elim (x := x) (y := k) hs hr
    obtain ⟨u, e1, e2⟩ := aLookup_sound h h3 h1 h2
    exact ⟨u, run_value e1, e2⟩
  case convert s d x =>
    obtain ⟨b, h1, h2⟩ := one_elim (x := x) hs hr
    have hd : P.underlying d = some .string := by
      simp only [cls] at hc
      split at hc
      · cases hc
      · assumption
      · cases hc
      · cases hc
    obtain ⟨u, e1, e2⟩ := aBytesStr_sound h h2 hd h1
    exact ⟨u, run_value e1, e2⟩

end Go.Proofs.YtilakiobihifnaaGreatDoor.Ev
