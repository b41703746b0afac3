/- What an argument of a data type reads as: data, in the blocks that stand in memory. -/
import Derived.Test.YtkccnomdfkhfnaaEvTree
import Derived.OpenShut
import Derived.Deep.Strs
import Derived.Deep.Slices
import Derived.SizedLaws
set_option linter.unusedSimpArgs false
set_option linter.unusedVariables false
namespace Go.Proofs.Ytkccnomdfkhfnaa.Ev
open Go.RowKit
open Go.ChangeShapes

/-! ## rows that are short -/
mutual
def BdL (M : Nat) : (l : LT) → l.T → Prop
  | .int _, _ => True
  | .bool, _ => True
  | .str, x => List.length x ≤ M
  | .row e, xs => List.length xs ≤ M ∧ ∀ x ∈ (show List e.T from xs), BdE M e x
def BdE (M : Nat) : (e : ET) → e.T → Prop
  | .one l, x => BdL M l x
  | .cons l e, x => BdL M l x.1 ∧ BdE M e x.2
end
structure BulkOk {H : Type} (bulk : DataW H → Nat) : Prop where
  str : ∀ b : List UInt8, b.length ≤ bulk (.lit (.string b))
  len : ∀ el sp : List (DataW H), el.length + sp.length ≤ bulk (.slice el sp)
  elem : ∀ (el sp : List (DataW H)) (d : DataW H), d ∈ el → bulk d ≤ bulk (.slice el sp)
  part : ∀ (ps : List (DataW H)) (d : DataW H), d ∈ ps → bulk d ≤ bulk (.agg ps)

/-! ## a type's cells, laid one behind the other -/
mutual
noncomputable def shL : Nat → Program → TypeId → Option (List LT)
  | 0, _, _ => none
  | n + 1, P, t => match P.underlying t with
    | some (.int k) => some [.int k]
    | some .bool => some [.bool]
    | some .string => some [.str]
    | some (.slice u) => match shL n P u with
      | some ls => match ofLs ls with
        | some e => bif Nat.beq (P.cellsOf u) e.sz && Nat.beq (P.bytesOf u) e.by then some [.row e] else none
        | none => none
      | none => none
    | some (.struct fs) => match shF n P 0 fs.toList with
      | some ls => bif Nat.beq (P.cellsOf t) ls.length then some ls else none
      | none => none
    | _ => none
noncomputable def shF : Nat → Program → Nat → List Field → Option (List LT)
  | 0, _, _, _ => none
  | _ + 1, _, _, [] => some []
  | n + 1, P, off, f :: r => match shL n P f.type with
    | some a => bif Nat.beq f.offset off && Nat.beq (P.cellsOf f.type) a.length then (match shF n P (off + a.length) r with
        | some b => some (a ++ b)
        | none => none) else none
    | none => none
end
def fzW (w : World) : Fz := fun b => match w.heap[b]? with
  | some (.cells cs _ _) => some cs
  | _ => none
theorem fzW_in (w : World) : FzIn (fzW w) w := fun b cs h => by
  unfold fzW at h
  split at h
  · rename_i el fr q; cases h; exact ⟨_, _, q⟩
  · cases h
def CellsOk (fz : Fz) (M : Nat) (ls : List LT) (cs : List Value) : Prop := cs.length = ls.length ∧ ∀ (i : Nat) (l : LT), ls[i]? = some l → ∃ v, cs[i]? = some v ∧ ∃ x : l.T, decL fz l x v ∧ BdL M l x
theorem cells_elem {fz : Fz} {M : Nat} : ∀ (ls : List LT) (e : ET), ofLs ls = some e → ls.length = e.sz ∧ ∀ (cs : List Value) (arr : Array Value) (p : Nat), CellsOk fz M ls cs → (∀ i, i < e.sz → arr[p + i]? = cs[i]?) → ∃ x : e.T, decE fz e x arr p ∧ BdE M e x
  | [], e, h => by simp [ofLs] at h
  | [l], e, h => by
    simp only [ofLs] at h
    cases h
    refine ⟨rfl, fun cs arr p hc ha => ?_⟩
    obtain ⟨v, hv, x, h1, h2⟩ := hc.2 0 l rfl
    refine ⟨x, ?_, ?_⟩
    · simp only [decE]
      exact ⟨v, by have := ha 0 (Nat.succ_pos 0); rw [Nat.add_zero] at this; rw [this]; exact hv, h1⟩
    · simp only [BdE]; exact h2
  | l :: m :: r, e, h => by
    simp only [ofLs] at h
    obtain ⟨e', h1, h2⟩ := obind_elim h
    cases h2
    obtain ⟨k1, k2⟩ := cells_elem (m :: r) e' h1
    refine ⟨by simp only [List.length_cons, ET.sz] at k1 ⊢; omega, fun cs arr p hc ha => ?_⟩
    obtain ⟨v, hv, x, g1, g2⟩ := hc.2 0 l rfl
    match cs, hc, hv with
    | v' :: cs', hc, hv =>
      have hv : v' = v := by simpa using hv
      subst hv
      obtain ⟨y, q1, q2⟩ := k2 cs' arr (p + 1) ⟨by have := hc.1; simpa using this, fun i l' hi => by simpa using hc.2 (i + 1) l' (by simpa using hi)⟩ (fun i hi => by
        have := ha (i + 1) (Nat.succ_lt_succ hi)
        rw [show p + 1 + i = p + (i + 1) from by omega]; simpa using this)
      refine ⟨(x, y), ?_, ?_⟩
      · simp only [decE]
        exact ⟨⟨v', by have := ha 0 (Nat.succ_pos _); rw [Nat.add_zero] at this; rw [this]; rfl, g1⟩, q1⟩
      · simp only [BdE]; exact ⟨g2, q2⟩

section
variable {H : Type} {enc : TypeId × Value → H} {P : Program} {W : World} {bulk : DataW H → Nat}
/-- every slice and string that is met fits into memory -/
def FitsW (P : Program) (t : TypeId) (d : DataW H) : Prop := ∀ n ∈ d.weights P t, n ≤ reachBytes
theorem weightsAll_mem' {e : TypeId} : ∀ {l : List (DataW H)} {d : DataW H}, d ∈ l → ∀ n ∈ d.weights P e, n ∈ DataW.weightsAll P e l
  | x :: l, d, hd, n, hn => by
    rw [DataW.weightsAll, List.mem_append]
    rcases List.mem_cons.1 hd with rfl | hd
    · exact .inl hn
    · exact .inr (weightsAll_mem' hd n hn)
abbrev TrW (enc : TypeId × Value → H) (P : Program) (W : World) (n : Nat) (t : TypeId) (cs : List Value) (y : DataW H × List MemPlace) : Prop := DataW.trod (H := H) enc P W 0 (fun _ => true) true n t cs = some y
theorem intKind_in {k : IntKind} {n : Int} (h : (Lit.int k n).wf = true) : InR k n := by
  unfold InR
  simp only [Lit.wf, Bool.and_eq_true, decide_eq_true_eq] at h
  obtain ⟨h1, h2⟩ := h
  cases k <;> simp [IntKind.min, IntKind.max, IntKind.wrap, IntKind.bits, IntKind.signed] at h1 h2 ⊢ <;> omega
theorem readings (B : BulkOk bulk) : ∀ (n : Nat),
    (∀ (t : TypeId) (ls : List LT), shL n P t = some ls → ∀ (m M : Nat) (cs : List Value) (y : DataW H × List MemPlace), TrW enc P W m t cs y → FitsW P t y.1 → bulk y.1 ≤ M → CellsOk (fzW W) M ls cs) ∧
    (∀ (off : Nat) (fs : List Field) (ls : List LT), shF n P off fs = some ls → ∀ (m M : Nat) (cs : List Value) (ys : List (DataW H × List MemPlace)),
      (∀ (i : Nat) (f : Field), fs[i]? = some f → ∃ y, ys[i]? = some y ∧ TrW enc P W m f.type ((cs.drop f.offset).take (P.cellsOf f.type)) y ∧ FitsW P f.type y.1 ∧ bulk y.1 ≤ M) →
      ∀ (i : Nat) (l : LT), ls[i]? = some l → ∃ v, cs[off + i]? = some v ∧ ∃ x : l.T, decL (fzW W) l x v ∧ BdL M l x)
  | 0 => ⟨fun t ls h => by simp [shL] at h, fun off fs ls h => by simp [shF] at h⟩
  | n + 1 => by
    obtain ⟨ihL, ihF⟩ := readings B n
    have one : ∀ (l : LT) (v : Value) (M : Nat) (x : l.T), decL (fzW W) l x v → BdL M l x → CellsOk (fzW W) M [l] [v] := fun l v M x h1 h2 => ⟨rfl, fun i l' hi => by
      cases i with
      | zero => cases hi; exact ⟨v, rfl, x, h1, h2⟩
      | succ i => simp at hi⟩
    refine ⟨fun t ls h m M cs y hy hf hb => ?_, fun off fs ls h m M cs ys hys i l hi => ?_⟩
    · simp only [shL] at h
      split at h
      · rename_i k hu
        cases h
        obtain ⟨z, rfl, _, hwf⟩ := DataW.trod_int hu hy
        exact one (.int k) _ M z (by simp only [decL]; exact ⟨trivial, intKind_in hwf⟩) (by simp only [BdL])
      · rename_i hu
        cases h
        obtain ⟨z, rfl, _⟩ := DataW.trod_bool hu hy
        exact one .bool _ M z (by simp only [decL]) (by simp only [BdL])
      · rename_i hu
        cases h
        obtain ⟨s, rfl, rfl, _⟩ := DataW.trod_string hu hy
        have h1 := hf s.data.toList.length (by simp [DataW.weights])
        have h2 : s.data.toList.length ≤ M := Nat.le_trans (B.str _) hb
        obtain ⟨⟨s⟩⟩ := s
        exact one .str _ M s (by simp only [decL]; exact ⟨trivial, h1⟩) (by simp only [BdL]; exact h2)
      · rename_i u hu
        split at h
        · rename_i lu hlu
          split at h
          · rename_i e he
            cases hok : Nat.beq (P.cellsOf u) e.sz && Nat.beq (P.bytesOf u) e.by with
            | false => rw [hok] at h; cases h
            | true =>
              rw [hok] at h
              cases h
              rw [Bool.and_eq_true, beq_iff', beq_iff'] at hok
              obtain ⟨hsz, hby⟩ := hok
              obtain ⟨hlen, helem⟩ := cells_elem (fz := fzW W) (M := M) lu e he
              rcases Go.Deep.open_slice hu hy with ⟨rfl, rfl⟩ | ⟨a, len, cap, m2, n', D, Pl, rfl, hbase, hl, hm, hmm, rfl, hx⟩
              · exact one (.row e) _ M [] (by simp only [decL]; exact ⟨none, 0, rfl, Nat.le_refl _, by simp, .inl rfl⟩) (by simp only [BdL]; exact ⟨Nat.zero_le _, fun x hx => nomatch hx⟩)
              · have hm2 : m2 = cap := by rw [hmm]; rfl
                have hlm : len ≤ m2 := by omega
                have hD : ∀ i, i < len → D i ∈ (List.range len).map D := fun i hi => List.mem_map.2 ⟨i, List.mem_range.2 hi, rfl⟩
                have hfit : ∀ i, i < len → FitsW P u (D i) := fun i hi k hk => hf k (by
                  rw [DataW.weights, hu]
                  exact List.mem_cons_of_mem _ (List.mem_append_left _ (weightsAll_mem' (hD i hi) k hk)))
                have hbk : ∀ i, i < len → bulk (D i) ≤ M := fun i hi => Nat.le_trans (B.elem _ _ _ (hD i hi)) hb
                have hsize : len * e.by ≤ Room := by
                  have h1 := hf ((len + (m2 - len)) * P.bytesOf u) (by rw [DataW.weights, hu]; simp)
                  rw [hby] at h1
                  exact Nat.le_trans (Nat.mul_le_mul_right _ (by omega)) h1
                have hlM : len ≤ M := by
                  have := B.len ((List.range len).map D) ((List.range (m2 - len)).map fun j => D (len + j))
                  simp only [List.length_map, List.length_range] at this
                  exact Nat.le_trans (Nat.le_trans (Nat.le_add_right _ _) this) hb
                by_cases h0 : len = 0
                · subst h0
                  exact one (.row e) _ M [] (by simp only [decL]; exact ⟨some a, cap, rfl, Nat.zero_le _, by simp, .inl rfl⟩) (by simp only [BdL]; exact ⟨Nat.zero_le _, fun x hx => nomatch hx⟩)
                · -- the block
                  have hpos := ET.sz_pos e
                  obtain ⟨c0, hc0, _⟩ := hx 0 (by omega)
                  obtain ⟨_, hcl0, hcg0⟩ := World.cells?_some hc0
                  have h00 := hcg0 0 (by rw [hsz]; omega)
                  have e00 : (a.add (0 * P.cellsOf u)).add 0 = a := by rw [Nat.zero_mul]; rfl
                  rw [e00] at h00
                  obtain ⟨v0, hv0⟩ : ∃ v, c0[0]? = some v := ⟨_, List.getElem?_eq_getElem (by rw [hcl0, hsz]; omega)⟩
                  rw [hv0] at h00
                  obtain ⟨b, off, spot⟩ := a
                  unfold World.cell? at h00
                  split at h00
                  · rename_i arr el fr hblk
                    have hsp : spot = none := by
                      cases spot with
                      | none => rfl
                      | some z => simp at h00
                    subst hsp
                    have hfz : fzW W b = some arr := by
                      have hblk : W.heap[b]? = some (.cells arr el fr) := hblk
                      unfold fzW; rw [hblk]
                    have hcell : ∀ j, W.cell? ⟨b, off + j, none⟩ = arr[off + j]? := fun j => cell_of hblk (off + j)
                    have hel : ∀ i, i < m2 → ∃ c, c.length = e.sz ∧ (∀ j, j < e.sz → arr[off + i * e.sz + j]? = c[j]?) ∧ TrW enc P W n' u c (D i, Pl i) := fun i hi => by
                      obtain ⟨c, h1, h2⟩ := hx i hi
                      obtain ⟨_, g1, g2⟩ := World.cells?_some h1
                      refine ⟨c, by rw [g1, hsz], fun j hj => ?_, h2⟩
                      have := g2 j (by rw [hsz]; exact hj)
                      rw [Go.Deep.add_add, hsz, add_off, hcell, ← Nat.add_assoc] at this
                      exact this
                    have hcap : off + cap * e.sz ≤ arr.size := by
                      have hc1 : 0 < cap := by omega
                      obtain ⟨c, g1, g2, _⟩ := hel (cap - 1) (by omega)
                      have := g2 (e.sz - 1) (by omega)
                      rw [List.getElem?_eq_getElem (by omega)] at this
                      have hlt := (Array.getElem?_eq_some_iff.1 this).1
                      have : (cap - 1) * e.sz + e.sz = cap * e.sz := by rw [← Nat.succ_mul]; congr 1; omega
                      omega
                    have hone : ∀ i, i < len → ∃ x : e.T, decE (fzW W) e x arr (off + i * e.sz) ∧ BdE M e x := fun i hi => by
                      obtain ⟨c, g1, g2, g3⟩ := hel i (by omega)
                      exact helem c arr (off + i * e.sz) (ihL u lu hlu n' M c _ g3 (hfit i hi) (hbk i hi)) g2
                    have hall : ∀ k, k ≤ len → ∃ xs : List e.T, xs.length = k ∧ ∀ i x, xs[i]? = some x → decE (fzW W) e x arr (off + i * e.sz) ∧ BdE M e x := by
                      intro k
                      induction k with
                      | zero => intro _; exact ⟨[], rfl, fun i x hx => by simp at hx⟩
                      | succ k ih =>
                        intro hk
                        obtain ⟨xs, h1, h2⟩ := ih (by omega)
                        obtain ⟨x, g1⟩ := hone k (by omega)
                        refine ⟨xs ++ [x], by simp [h1], fun i z hz => ?_⟩
                        rcases Nat.lt_or_ge i xs.length with q | q
                        · rw [List.getElem?_append_left q] at hz; exact h2 i z hz
                        · rw [List.getElem?_append_right q] at hz
                          have hi0 : i - xs.length = 0 := by
                            rcases Nat.eq_zero_or_pos (i - xs.length) with h | h
                            · exact h
                            · rw [List.getElem?_eq_none (by show 1 ≤ _; omega)] at hz; cases hz
                          rw [hi0] at hz
                          obtain rfl : x = z := by simpa using hz
                          obtain rfl : i = k := by omega
                          exact g1
                    obtain ⟨xs, h1, h2⟩ := hall len (Nat.le_refl _)
                    subst h1
                    refine one (.row e) _ M xs ?_ ?_
                    · simp only [decL]
                      exact ⟨some ⟨b, off, none⟩, cap, rfl, hl, hsize, .inr ⟨b, off, arr, rfl, hfz, hcap, fun i x hx => (h2 i x hx).1⟩⟩
                    · simp only [BdL]
                      refine ⟨hlM, fun x hx => ?_⟩
                      obtain ⟨i, hi, rfl⟩ := List.getElem_of_mem hx
                      exact (h2 i _ (List.getElem?_eq_getElem hi)).2
                  · cases h00
          · cases h
        · cases h
      · rename_i fs hu
        split at h
        · rename_i ls' hls
          cases hok : Nat.beq (P.cellsOf t) ls'.length with
          | false => rw [hok] at h; cases h
          | true =>
            rw [hok] at h
            cases h
            rw [beq_iff'] at hok
            obtain ⟨xs, n', _, rfl, hlen, hxl, hxs⟩ := DataW.trod_struct hu hy
            refine ⟨by rw [hlen, hok], fun i l hi => ?_⟩
            have := ihF 0 fs.toList ls hls n' M cs xs (fun i f hf' => ?_) i l hi
            · rw [Nat.zero_add] at this; exact this
            · have hf2 : fs[i]? = some f := by simpa using hf'
              have h1 := hxs i f hf2
              have hil : i < fs.size := (Array.getElem?_eq_some_iff.1 hf2).1
              have h2 : xs[i]? = some (xs[i]'(by omega)) := List.getElem?_eq_getElem (by omega)
              refine ⟨_, h2, h1.trans h2, fun k hk => hf k ?_, Nat.le_trans (B.part _ _ (List.mem_map.2 ⟨_, List.getElem_mem (by omega), rfl⟩)) hb⟩
              rw [DataW.weights, hu]
              exact DataW.weights_mem_each (j := i) (t := f.type) (by simp [hf2]) (by simp [h2]) k hk
        · cases h
      · cases h
    · cases fs with
      | nil => simp only [shF] at h; cases h; simp at hi
      | cons f r =>
        simp only [shF] at h
        split at h
        · rename_i la hla
          cases hok : Nat.beq f.offset off && Nat.beq (P.cellsOf f.type) la.length with
          | false => rw [hok] at h; cases h
          | true =>
            rw [hok, cond_true] at h
            rw [Bool.and_eq_true, beq_iff', beq_iff'] at hok
            split at h
            · rename_i lb hlb
              cases h
              rcases Nat.lt_or_ge i la.length with g | g
              · rw [List.getElem?_append_left g] at hi
                obtain ⟨y, _, h2, h3, h4⟩ := hys 0 f rfl
                obtain ⟨v, hv, x, k1, k2⟩ := (ihL f.type la hla m M _ y h2 h3 h4).2 i l hi
                refine ⟨v, ?_, x, k1, k2⟩
                rw [List.getElem?_take] at hv
                split at hv
                · rw [List.getElem?_drop, hok.1] at hv; exact hv
                · cases hv
              · rw [List.getElem?_append_right g] at hi
                obtain ⟨v, hv, x, k1, k2⟩ := ihF (off + la.length) r lb hlb m M cs (ys.drop 1) (fun j f' hj => by
                  obtain ⟨y, h1, h2⟩ := hys (j + 1) f' (by simpa using hj)
                  exact ⟨y, by rw [List.getElem?_drop, Nat.add_comm]; exact h1, h2⟩) (i - la.length) l hi
                exact ⟨v, by rw [← hv]; congr 1; omega, x, k1, k2⟩
            · cases h
        · cases h
/-- an argument of a data type -/
theorem opened (B : BulkOk bulk) {t : TypeId} {ls : List LT} {e : ET} (hs : shL 40 P t = some ls) (he : ofLs ls = some e) {m M : Nat} {v : Value} {y : DataW H × List MemPlace} (hy : TrW enc P W m t v.cells.toList y) (hf : FitsW P t y.1) (hb : bulk y.1 ≤ M) :
    ∃ x : e.T, (∃ cs : List Value, v.cells.toList = cs ∧ cs.length = e.sz ∧ decE (fzW W) e x ⟨cs⟩ 0) ∧ BdE M e x := by
  have h1 := (readings B 40).1 t ls hs m M v.cells.toList y hy hf hb
  obtain ⟨h2, h3⟩ := cells_elem (fz := fzW W) (M := M) ls e he
  obtain ⟨x, h4, h5⟩ := h3 v.cells.toList ⟨v.cells.toList⟩ 0 h1 (fun i hi => by rw [Nat.zero_add]; simp)
  exact ⟨x, ⟨_, rfl, by rw [h1.1, h2], h4⟩, h5⟩
end
end Go.Proofs.Ytkccnomdfkhfnaa.Ev
