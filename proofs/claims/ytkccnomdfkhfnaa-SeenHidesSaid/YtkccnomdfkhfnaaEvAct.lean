/- What functions of the program compute, written down; read off their code. -/
import Derived.Test.YtkccnomdfkhfnaaEvRead
set_option linter.unusedSimpArgs false
set_option linter.unusedVariables false
namespace Go.Proofs.Ytkccnomdfkhfnaa.Ev
open Go.RowKit

/-! ## what changes the memory -/
/-- the operation returns a value, or none -/
def ActOk (n0 : Nat) (w0 : World) (μ : Mu) (st st' : St) (a : AV) (r : Result Next) : Prop :=
  ∃ μ' w' v, Post n0 w0 μ st μ' st' w' ∧ vr μ' a v ∧ (r = .ok (.value v) w' ∨ (r = .ok .skip w' ∧ v = undef))

theorem undefA_vr (μ : Mu) : vr μ undefA undef := by unfold undefA; simp only [vr]; exact ⟨[], rfl, by simp only [vrL]⟩

theorem ActOk.value {n0 : Nat} {w0 : World} {μ μ' : Mu} {st st' : St} {a : AV} {P : Program} {s : Sem Value} {w w' : World} {v : Value} (h : s.run P w = .ok v w') (hp : Post n0 w0 μ st μ' st' w') (hv : vr μ' a v) :
    ActOk n0 w0 μ st st' a ((do pure (.value (← s)) : Sem Next).run P w) := ⟨μ', w', v, hp, hv, .inl (run_value h)⟩
theorem ActOk.skip {n0 : Nat} {w0 : World} {μ μ' : Mu} {st st' : St} {P : Program} {s : Sem Unit} {w w' : World} (h : s.run P w = .ok () w') (hp : Post n0 w0 μ st μ' st' w') :
    ActOk n0 w0 μ st st' undefA ((do s; pure .skip : Sem Next).run P w) := ⟨μ', w', undef, hp, undefA_vr _, .inr ⟨by rw [run_bind_ok h]; rfl, rfl⟩⟩

section
variable {P : Program} {n0 : Nat} {w0 : World} {μ : Mu} {st st' : St} {w : World}

theorem allOk_ne_top {a : AV} (h : allOk (acells a) = true) : a ≠ .top := by
  rintro rfl
  have := (allOk_iff _).1 h .top (by simp [acells])
  simp [cellOk] at this

theorem aStore_sound (h : RS n0 w0 μ st w) {t : TypeId} {p x : AV} {v u : Value} (hs : aStore P st t p x = some st') (hp : vr μ p v) (hx : vr μ x u) :
    ∃ a w', v = .pointer (some a) ∧ (storeVar t a u).run P w = .ok () w' ∧ Post n0 w0 μ st μ st' w' := by
  unfold aStore at hs
  split at hs
  · rename_i o k
    simp only [vr] at hp
    obtain ⟨q, hq, hk, rfl⟩ := hp
    split at hs
    · rename_i n hn
      cases hb : Nat.beq (lenA (acells x)) n with
      | false => rw [hb] at hs; cases hs
      | true =>
        rw [hb] at hs
        simp only [cond_true] at hs
        rw [beq_iff', lenA_eq] at hb
        have hok : x ≠ .top := by
          unfold stCells at hs
          obtain ⟨ob, _, hs'⟩ := obind_elim hs
          cases ob with
          | cells c lim esz ro tw =>
            cases ro with
            | true => cases hs'
            | false =>
              dsimp only at hs'
              obtain ⟨_, hs2⟩ := need_some hs'
              obtain ⟨c2, _⟩ := need_some hs2
              exact allOk_ne_top c2
          | map es clock => cases hs'
          | iter s pos => cases hs'
          | dead => cases hs'
          | miter m => cases hs'
        have hc := acells_vr hx hok
        obtain ⟨w', g1, g2⟩ := stCells_sound h (P := P) hs hq hk hc
        refine ⟨_, w', rfl, ?_, g2⟩
        unfold storeVar
        rw [run_bind_ok (run_sizeOf hn w)]
        have : u.cells.size = n := by rw [← hb, ← vrL_length _ _ hc]; simp
        rw [if_neg (by simp [this])]
        exact g1
    · cases hs
  · cases hs

theorem aNewVar_sound (h : RS n0 w0 μ st w) {t : TypeId} {x a : AV} {u : Value} (hs : aNewVar st x = some (a, st')) (hx : vr μ x u) :
    ∃ μ' w' b, (newVar t u).run P w = .ok b w' ∧ Post n0 w0 μ st μ' st' w' ∧ vr μ' a (.pointer (some b)) := by
  unfold aNewVar at hs
  cases hb : allOk (acells x) with
  | false => rw [hb] at hs; cases hs
  | true =>
    rw [hb] at hs
    cases hs
    have hc := acells_vr hx (allOk_ne_top hb)
    have := newCells_sound' (esz := lenA (acells x)) (el := t) h hc
    refine ⟨_, _, _, run_newRow P w t u.cells, this, ?_⟩
    simp only [vr]
    exact ⟨_, Mu.add_same _ _ _, Nat.zero_le _, rfl⟩

/-! ### rows of zeros -/
def repL (l : List Value) : Nat → List Value
  | 0 => []
  | n + 1 => l ++ repL l n
theorem repL_length (l : List Value) : ∀ n, (repL l n).length = n * l.length
  | 0 => by simp [repL]
  | n + 1 => by rw [repL, List.length_append, repL_length l n, Nat.succ_mul]; omega
theorem repL_get (l : List Value) (hl : 0 < l.length) : ∀ n i, i < n * l.length → (repL l n)[i]? = l[i % l.length]?
  | 0, i, h => by simp at h
  | n + 1, i, h => by
    rw [repL]
    by_cases hi : i < l.length
    · rw [List.getElem?_append_left hi, Nat.mod_eq_of_lt hi]
    · rw [List.getElem?_append_right (by omega), repL_get l hl n (i - l.length) (by rw [Nat.succ_mul] at h; omega)]
      rw [← Nat.mod_eq_sub_mod (by omega)]
theorem zerosOf_vr {z : List AV} {l : List Value} (h : vrL μ z l) : ∀ n, vrL μ (zerosOf z n) (repL l n)
  | 0 => by simp [zerosOf, repL, vrL]
  | n + 1 => by simp only [zerosOf, repL]; exact vrL_app _ _ _ _ h (zerosOf_vr h n)
theorem range_rep (zs : Array Value) (n : Nat) (hs : 0 < zs.size) : ((Array.range (n * zs.size)).map fun i => zs[i % zs.size]!) = ⟨repL zs.toList n⟩ := by
  apply Array.ext_getElem?
  intro i
  have hl : 0 < zs.toList.length := by simpa using hs
  by_cases hi : i < n * zs.size
  · have e1 : (⟨repL zs.toList n⟩ : Array Value)[i]? = zs.toList[i % zs.toList.length]? := by
      rw [← repL_get zs.toList hl n i (by simpa using hi)]; simp
    rw [e1]
    have hm : i % zs.size < zs.size := Nat.mod_lt _ hs
    simp [hi, hm]
  · have e1 : (⟨repL zs.toList n⟩ : Array Value)[i]? = none := by
      rw [Array.getElem?_eq_none]; simp [repL_length]; omega
    rw [e1]
    simp [Array.getElem?_map]
    omega
theorem range_zero (zs : Array Value) (k : Nat) (h : k = 0) : ((Array.range k).map fun i => zs[i % zs.size]!) = ⟨[]⟩ := by subst h; simp

theorem buildCs_run {t : TypeId} {len size : Nat} {ps : List (Nat × AV)} {qs : Array (Nat × Value)} {cs : List AV} (hs : buildCs P t len ps = some (cs, size)) (hq : partsRel μ ps qs.toList) (w : World) :
    ∃ ys el, (Instr.buildSlice t len qs).run P w = .ok (.slice (some ⟨w.heap.size, 0, none⟩) len len) (pushed w (.cells ⟨ys⟩ el)) ∧ vrL μ cs ys ∧ ys.length = len * size := by
  unfold buildCs at hs
  split at hs
  · rename_i e hu
    split at hs
    · rename_i size' z hsz hz
      cases hb : (Nat.ble (Nat.mul len size') 16777216 && Nat.beq (lenA (acells z)) size' && Nat.ble 1 size' && allOk (acells z)) with
      | false => rw [hb] at hs; cases hs
      | true =>
        rw [hb] at hs
        simp only [cond_true] at hs
        rw [Bool.and_eq_true, Bool.and_eq_true, Bool.and_eq_true, ble_iff, beq_iff', ble_iff, lenA_eq, mul_eq'] at hb
        obtain ⟨⟨⟨c1, c2⟩, c3⟩, c4⟩ := hb
        split at hs
        · rename_i cs hcs
          cases hs
          obtain ⟨zv, e1, e2⟩ := run_zeroValue hz μ w
          have hc := acells_vr e2 (allOk_ne_top c4)
          have hsize : zv.cells.size = size := by rw [← c2, ← vrL_length _ _ hc]; simp
          obtain ⟨ys, g1, g2⟩ := aFill_sound (place' := fun i => some (i * size, size)) (fun _ => rfl) ps qs.toList _ cs (repL zv.cells.toList len) hcs hq (zerosOf_vr hc len)
          -- how many cells
          have hlen : ys.length = len * size := by
            have h1 := vrL_length _ _ g2
            have h2 : ∀ (ps : List (Nat × AV)) (cs cs' : List AV), aFill (fun i => some (Nat.mul i size, size)) cs ps = some cs' → cs'.length = cs.length := by
              intro ps
              induction ps with
              | nil => intro cs cs' hf; simp only [aFill, Option.some.injEq] at hf; rw [hf]
              | cons p ps ih =>
                intro cs cs' hf
                simp only [aFill] at hf
                cases hb : (Nat.beq (lenA (acells p.2)) size && Nat.ble (Nat.add (Nat.mul p.1 size) size) (lenA cs) && allOk (acells p.2)) with
                | false => rw [hb] at hf; cases hf
                | true =>
                  rw [hb] at hf
                  simp only [cond_true] at hf
                  rw [Bool.and_eq_true, Bool.and_eq_true, beq_iff', ble_iff, lenA_eq, lenA_eq, add_eq', mul_eq'] at hb
                  rw [ih _ _ hf]
                  unfold lay
                  rw [lenA_eq, add_eq']
                  simp only [List.length_append, List.length_take, List.length_drop, mul_eq']
                  omega
            have h3 : ∀ n, (zerosOf (acells z) n).length = n * size := by
              intro n
              induction n with
              | zero => simp [zerosOf]
              | succ n ih => simp only [zerosOf, List.length_append, ih, c2, Nat.succ_mul]; omega
            rw [h1, h2 _ _ _ hcs, h3]
          refine ⟨ys, e, ?_, g2, hlen⟩
          · unfold Instr.buildSlice
            rw [run_bind_ok (run_underlying hu w)]
            simp only []
            rw [run_bind_ok (run_sizeOf hsz w)]
            rw [if_neg (by omega)]
            by_cases h0 : len * size = 0
            · have hl0 : len = 0 := by
                rcases Nat.mul_eq_zero.1 h0 with e | e
                · exact e
                · omega
              subst hl0
              have e0 : repL zv.cells.toList 0 = [] := rfl
              rw [e0] at g1
              simp only [h0, if_true]
              rw [run_bind_ok (run_pure P _ w)]
              rw [show (Array.map (fun x => (#[] : Array Value)[x % (#[] : Array Value).size]!) (Array.range 0)) = (⟨[]⟩ : Array Value) from by simp]
              simp only [g1]
              rfl
            · simp only [h0, if_false]
              rw [run_bind_ok e1, run_bind_ok (run_pure P _ w)]
              have e4 : (Array.range (len * size)).map (fun x => zv.cells[x % zv.cells.size]!) = ⟨repL zv.cells.toList len⟩ := by
                rw [← hsize]; exact range_rep zv.cells len (by omega)
              rw [e4]
              simp only [g1]
              rfl
        · cases hs
    · cases hs
  · cases hs

theorem aBuildSlice_sound (h : RS n0 w0 μ st w) {t : TypeId} {len : Nat} {ps : List (Nat × AV)} {qs : Array (Nat × Value)} {a : AV} (hs : aBuildSlice P st t len ps = some (a, st')) (hq : partsRel μ ps qs.toList) :
    ∃ μ' w' v, (Instr.buildSlice t len qs).run P w = .ok v w' ∧ Post n0 w0 μ st μ' st' w' ∧ vr μ' a v := by
  obtain ⟨cs, size, h1, h2⟩ := obind2_elim hs
  cases h2
  obtain ⟨ys, el, g1, g2, g3⟩ := buildCs_run (P := P) h1 hq w
  refine ⟨_, _, _, g1, newCells_sound' (esz := size) (el := el) h g2, ?_⟩
  simp only [vr]
  exact ⟨_, len, Mu.add_same _ _ _, Nat.zero_le _, rfl, rfl, Nat.le_refl _, fun _ => rfl, Nat.le_refl _, by simp [Place.at_, g3]⟩

theorem aMakeSlice_sound (h : RS n0 w0 μ st w) {t : TypeId} {x y a : AV} {v u : Value} (hs : aMakeSlice P st t x y = some (a, st')) (hx : vr μ x v) (hy : vr μ y u) :
    ∃ μ' w' z, (Instr.makeSlice t v u).run P w = .ok z w' ∧ Post n0 w0 μ st μ' st' w' ∧ vr μ' a z := by
  unfold aMakeSlice at hs
  split at hs
  · rename_i e hu
    split at hs
    · rename_i k l k' c i z hi hz
      cases hb : (Nat.ble l c && Nat.ble c 1048576 && Nat.ble (Nat.mul i.bytes c) 281474976710656 && Nat.beq (lenA (acells z)) i.size && Nat.ble 1 i.size && allOk (acells z)) with
      | false => rw [hb] at hs; cases hs
      | true =>
        rw [hb] at hs
        simp only [cond_true] at hs
        rw [Bool.and_eq_true, Bool.and_eq_true, Bool.and_eq_true, Bool.and_eq_true, Bool.and_eq_true, ble_iff, ble_iff, ble_iff, beq_iff', ble_iff, lenA_eq, mul_eq'] at hb
        obtain ⟨⟨⟨⟨⟨c1, c2⟩, c3⟩, c4⟩, c5⟩, c6⟩ := hb
        cases hs
        obtain ⟨zv, e1, e2⟩ := run_zeroValue hz μ w
        have hc := acells_vr e2 (allOk_ne_top c6)
        have hsize : zv.cells.size = i.size := by rw [← c4, ← vrL_length _ _ hc]; simp
        have hsz : sizeT P e = some i.size := by unfold sizeT; rw [hi]
        have hpost := newCells_sound' (esz := i.size) (el := e) h (zerosOf_vr hc c)
        simp only [vr] at hx hy; subst hx; subst hy
        have w1 : IntKind.i64.wrap (Int.ofNat l) = Int.ofNat l := by
          rw [← wrapI_eq]; unfold wrapI; simp only []
          rw [show Nat.blt l 9223372036854775808 = true from blt_iff.2 (by omega)]; rfl
        have w2 : IntKind.i64.wrap (Int.ofNat c) = Int.ofNat c := by
          rw [← wrapI_eq]; unfold wrapI; simp only []
          rw [show Nat.blt c 9223372036854775808 = true from blt_iff.2 (by omega)]; rfl
        have hlen : (repL zv.cells.toList c).length = c * i.size := by rw [repL_length]; simp [hsize]
        refine ⟨_, _, .slice (some ⟨w.heap.size, 0, none⟩) l c, ?_, hpost, ?_⟩
        · unfold Instr.makeSlice
          rw [run_bind_ok (run_underlying hu w)]
          simp only []
          rw [show (asInt (.int k (Int.ofNat l)) : Sem Int) = pure (Int.ofNat l) from rfl, show (asInt (.int k' (Int.ofNat c)) : Sem Int) = pure (Int.ofNat c) from rfl]
          rw [run_bind_ok (run_pure P _ w), run_bind_ok (run_pure P _ w), run_bind_ok (run_typeInfo hi w)]
          simp only [w1, w2]
          have t1 : (decide (Int.ofNat c < 0) || decide ((i.bytes : Int) * Int.ofNat c > 2 ^ 48)) = false := by
            rw [Bool.or_eq_false_iff, decide_eq_false_iff_not, decide_eq_false_iff_not]
            have h1 : (i.bytes : Int) * Int.ofNat c = ((i.bytes * c : Nat) : Int) := by simp
            constructor
            · simp
            · rw [h1]
              have h2 : ((i.bytes * c : Nat) : Int) ≤ (281474976710656 : Nat) := Int.ofNat_le.2 c3
              have h3 : (2 : Int) ^ 48 = (281474976710656 : Nat) := by decide
              rw [h3]
              omega
          have t2 : (decide (Int.ofNat l < 0)) = false := by rw [decide_eq_false_iff_not]; simp
          have t3 : (decide (Int.ofNat l > Int.ofNat c)) = false := by rw [decide_eq_false_iff_not]; simp; omega
          rw [if_neg (by rw [t1, t2, t3]; simp)]
          rw [run_bind_ok (a := ()) (w' := w) (by simp)]
          rw [run_bind_ok (run_sizeOf hsz w)]
          have tn : (Int.ofNat c).toNat = c := rfl
          have tl : (Int.ofNat l).toNat = l := rfl
          simp only [tn, tl]
          by_cases h0 : c * i.size = 0
          · have hl0 : c = 0 := by
              rcases Nat.mul_eq_zero.1 h0 with e | e
              · exact e
              · omega
            subst hl0
            simp only [h0, if_true]
            rw [run_bind_ok (run_pure P _ w)]
            rw [show (Array.map (fun x => (#[] : Array Value)[x % (#[] : Array Value).size]!) (Array.range 0)) = (⟨[]⟩ : Array Value) from by simp]
            rfl
          · simp only [h0, if_false]
            rw [run_bind_ok e1, run_bind_ok (run_pure P _ w)]
            have e4 : (Array.range (c * i.size)).map (fun x => zv.cells[x % zv.cells.size]!) = ⟨repL zv.cells.toList c⟩ := by
              rw [← hsize]; exact range_rep zv.cells c (by omega)
            rw [e4]
            rfl
        · simp only [vr]
          exact ⟨_, c, Mu.add_same _ _ _, Nat.zero_le _, rfl, rfl, Nat.le_refl _, fun _ => rfl, c1, by simp [Place.at_, hlen]⟩
    · cases hs
  · cases hs

end
end Go.Proofs.Ytkccnomdfkhfnaa.Ev
