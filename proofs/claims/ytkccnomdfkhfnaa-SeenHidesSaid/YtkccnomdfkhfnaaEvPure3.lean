/- What functions of the program compute, written down; read off their code. -/
import Derived.Test.YtkccnomdfkhfnaaEvPure2
set_option linter.unusedSimpArgs false
set_option linter.unusedVariables false
namespace Go.Proofs.Ytkccnomdfkhfnaa.Ev
open Go.RowKit

/-! ### aggregates -/
theorem foldl_zip (off : Nat) : ∀ (ys : List Value) (n : Nat) (cs : Array Value), (ys.zipIdx n).foldl (fun cs (x : Value × Nat) => cs.setIfInBounds (off + x.2) x.1) cs = wrC cs (off + n) ys
  | [], n, cs => rfl
  | v :: r, n, cs => by
    rw [List.zipIdx_cons, List.foldl_cons, foldl_zip off r (n + 1)]
    rfl
theorem fold_cells (v : Value) (off : Nat) (cs : Array Value) : (v.cells.zipIdx.foldl (fun cs (x : Value × Nat) => cs.setIfInBounds (off + x.2) x.1) cs) = wrC cs off v.cells.toList := by
  rw [← Array.foldl_toList, Array.toList_zipIdx]
  simpa using foldl_zip off v.cells.toList 0 cs
theorem wrC_toList (ys : List Value) (cs : Array Value) (k : Nat) (h : k + ys.length ≤ cs.size) :
    (wrC cs k ys).toList = cs.toList.take k ++ (ys ++ cs.toList.drop (k + ys.length)) := by
  apply List.ext_getElem?
  intro j
  rw [Array.getElem?_toList, wrC_get _ _ _ _ h]
  have hk : (cs.toList.take k).length = k := by rw [List.length_take]; simp; omega
  by_cases h1 : j < k
  · rw [if_neg (by omega), List.getElem?_append_left (by rw [hk]; exact h1), List.getElem?_take, if_pos h1, Array.getElem?_toList]
  · rw [List.getElem?_append_right (by rw [hk]; omega), hk]
    by_cases h2 : j < k + ys.length
    · rw [if_pos (by omega), List.getElem?_append_left (by omega)]
    · rw [if_neg (by omega), List.getElem?_append_right (by omega), List.getElem?_drop, ← Array.getElem?_toList]
      congr 1; omega

theorem lay_vr {μ : Mu} {cs vs : List AV} {xs ys : List Value} {off : Nat} (hx : vrL μ cs xs) (hy : vrL μ vs ys) (h : off + ys.length ≤ xs.length) :
    vrL μ (lay cs off vs) (wrC ⟨xs⟩ off ys).toList := by
  rw [wrC_toList _ _ _ (by simpa using h)]
  unfold lay
  rw [lenA_eq, add_eq', ← vrL_length _ _ hy]
  exact vrL_app _ _ _ _ (vrL_take _ _ _ hx) (vrL_app _ _ _ _ hy (vrL_drop _ _ _ hx))

def partsRel (μ : Mu) : List (Nat × AV) → List (Nat × Value) → Prop
  | [], vs => vs = []
  | p :: ps, vs => ∃ v r, vs = (p.1, v) :: r ∧ vr μ p.2 v ∧ partsRel μ ps r

theorem partsRel_zip {μ : Mu} : ∀ (is : List Nat) (l : List AV) (vs : List Value), vrL μ l vs → partsRel μ (is.zip l) (is.zip vs)
  | [], l, vs, _ => by simp [partsRel]
  | i :: is, [], vs, h => by simp only [vrL] at h; subst h; simp [partsRel]
  | i :: is, a :: l, vs, h => by
    simp only [vrL] at h
    obtain ⟨v, r, rfl, h2, h3⟩ := h
    exact ⟨v, is.zip r, rfl, h2, partsRel_zip is l r h3⟩

theorem aFill_sound {μ : Mu} {place place' : Nat → Option (Nat × Nat)} (hp : ∀ i, place i = place' i) : ∀ (ps : List (Nat × AV)) (qs : List (Nat × Value)) (cs cs' : List AV) (xs : List Value),
    aFill place cs ps = some cs' → partsRel μ ps qs → vrL μ cs xs → ∃ ys, Instr.fill place' ⟨xs⟩ qs = some ⟨ys⟩ ∧ vrL μ cs' ys
  | [], qs, cs, cs', xs, h, hq, hx => by
    simp only [partsRel] at hq; subst hq
    simp only [aFill, Option.some.injEq] at h; subst h
    exact ⟨xs, rfl, hx⟩
  | (i, a) :: ps, qs, cs, cs', xs, h, hq, hx => by
    obtain ⟨v, r, rfl, h1, h2⟩ := hq
    simp only [aFill] at h
    split at h
    · cases h
    · rename_i off size hpl
      cases hc : (Nat.beq (lenA (acells a)) size && Nat.ble (Nat.add off size) (lenA cs) && allOk (acells a)) with
      | false => rw [hc] at h; cases h
      | true =>
        rw [hc] at h
        simp only [cond_true] at h
        rw [Bool.and_eq_true, Bool.and_eq_true, beq_iff', ble_iff, lenA_eq, lenA_eq, add_eq', allOk_iff] at hc
        obtain ⟨⟨c1, c2⟩, c3⟩ := hc
        have hnt : a ≠ .top := by
          rintro rfl
          have := c3 .top (by simp [acells])
          simp [cellOk] at this
        have hcells := acells_vr h1 hnt
        have hlen := vrL_length _ _ hcells
        have hlx := vrL_length _ _ hx
        have hsz : v.cells.size = size := by rw [← c1, ← hlen]; simp
        have hlay := lay_vr (off := off) hx hcells (by rw [hlen, c1, hlx]; exact c2)
        obtain ⟨ys, g1, g2⟩ := aFill_sound hp ps r (lay cs off (acells a)) cs' _ h h2 hlay
        refine ⟨ys, ?_, g2⟩
        rw [Instr.fill, ← hp i, hpl]
        have hn : ¬ (v.cells.size ≠ size ∨ off + v.cells.size > xs.length) := by rw [hsz]; omega
        have hif : (decide (v.cells.size ≠ size) || decide (off + v.cells.size > (⟨xs⟩ : Array Value).size)) = false := by
          rw [Bool.or_eq_false_iff, decide_eq_false_iff_not, decide_eq_false_iff_not]
          exact ⟨fun e => hn (.inl e), fun e => hn (.inr e)⟩
        simp only [hif, Bool.false_eq_true, if_false]
        rw [show (fun (cs : Array Value) (x : Value × Nat) => match x with | (c, j) => cs.setIfInBounds (off + j) c) = (fun cs (x : Value × Nat) => cs.setIfInBounds (off + x.2) x.1) from rfl, fold_cells]
        exact g1

theorem run_places {P : Program} (w : World) : ∀ (fs : List Field) (l : List (Nat × Nat)), aPlaces P fs = some l →
    (fs.mapM fun f => (do pure (f.offset, ← sizeOf f.type) : Sem (Nat × Nat))).run P w = .ok l w
  | [], l, h => by simp [aPlaces] at h; subst h; rfl
  | f :: fs, l, h => by
    simp only [aPlaces] at h
    split at h
    · cases h
    · rename_i n hn
      split at h
      · cases h
      · rename_i l' hl
        cases h
        rw [List.mapM_cons]
        have h1 : (do pure (f.offset, ← sizeOf f.type) : Sem (Nat × Nat)).run P w = .ok (f.offset, n) w := by rw [run_bind_ok (run_sizeOf hn w)]; rfl
        rw [run_bind_ok h1, run_bind_ok (run_places w fs l' hl)]
        rfl

theorem run_placesA {P : Program} (w : World) {fs : Array Field} {l : List (Nat × Nat)} (h : aPlaces P fs.toList = some l) :
    (fs.mapM fun f => (do pure (f.offset, ← sizeOf f.type) : Sem (Nat × Nat))).run P w = .ok ⟨l⟩ w := by
  rw [Array.mapM_eq_mapM_toList, ← bind_pure_comp, run_bind_ok (run_places w _ _ h)]
  rfl

theorem aBuild_sound {P : Program} {μ : Mu} {t : TypeId} {ps : List (Nat × AV)} {qs : Array (Nat × Value)} {a : AV} (h : aBuild P t ps = some a) (hq : partsRel μ ps qs.toList) (w : World) :
    ∃ v, (Instr.build t qs).run P w = .ok v w ∧ vr μ a v := by
  unfold aBuild at h
  split at h
  · rename_i z fs hz hu
    obtain ⟨zv, h1, h2⟩ := run_zeroValue hz μ w
    split at h
    · rename_i l hl
      split at h
      · rename_i cs hcs
        cases h
        unfold placesT at hl
        rw [hu] at hl
        simp only [] at hl
        by_cases ht : z = .top
        · subst ht
          -- a zero value is known
          exfalso
          unfold zeroT at hz
          split at hz
          · split at hz
            · rename_i z' _
              have : ∀ n v, cv n v ≠ some .top := by
                intro n v e
                cases n with
                | zero => simp [cv] at e
                | succ n =>
                  rw [cv.eq_def] at e
                  dsimp only at e
                  split at e <;> first | (cases e; done) | (split at e <;> cases e)
              exact this _ _ hz
            · cases hz
          · cases hz
        · obtain ⟨ys, g1, g2⟩ := aFill_sound (place' := fun i => (⟨l⟩ : Array (Nat × Nat))[i]?) (fun i => by simp) ps qs.toList (acells z) cs zv.cells.toList hcs hq (acells_vr h2 ht)
          refine ⟨.agg ⟨ys⟩, ?_, by simp only [vr]; exact ⟨ys, rfl, g2⟩⟩
          unfold Instr.build
          rw [run_bind_ok h1, run_bind_ok (run_underlying hu w)]
          simp only []
          rw [run_bind_ok (run_placesA w hl)]
          rw [show (⟨zv.cells.toList⟩ : Array Value) = zv.cells from rfl] at g1
          simp only [g1]
          rfl
      · cases h
    · cases h
  · rename_i z n e hz hu
    obtain ⟨zv, h1, h2⟩ := run_zeroValue hz μ w
    split at h
    · rename_i size hs
      split at h
      · rename_i cs hcs
        cases h
        by_cases ht : z = .top
        · exfalso
          subst ht
          unfold zeroT at hz
          split at hz
          · split at hz
            · have : ∀ n v, cv n v ≠ some .top := by
                intro n v e
                cases n with
                | zero => simp [cv] at e
                | succ n =>
                  rw [cv.eq_def] at e
                  dsimp only at e
                  split at e <;> first | (cases e; done) | (split at e <;> cases e)
              exact this _ _ hz
            · cases hz
          · cases hz
        · obtain ⟨ys, g1, g2⟩ := aFill_sound (place' := fun i => some (i * size, size)) (fun i => rfl) ps qs.toList (acells z) cs zv.cells.toList hcs hq (acells_vr h2 ht)
          refine ⟨.agg ⟨ys⟩, ?_, by simp only [vr]; exact ⟨ys, rfl, g2⟩⟩
          unfold Instr.build
          rw [run_bind_ok h1, run_bind_ok (run_underlying hu w)]
          simp only []
          rw [run_bind_ok (run_sizeOf hs w)]
          rw [show (⟨zv.cells.toList⟩ : Array Value) = zv.cells from rfl] at g1
          simp only [g1]
          rfl
      · cases h
    · cases h
  · cases h

end Go.Proofs.Ytkccnomdfkhfnaa.Ev
