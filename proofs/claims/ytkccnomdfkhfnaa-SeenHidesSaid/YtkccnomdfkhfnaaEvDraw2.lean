/- What functions of the program compute, written down; read off their code. -/
import Derived.Test.YtkccnomdfkhfnaaEvDraw
set_option linter.unusedSimpArgs false
set_option linter.unusedVariables false
namespace Go.Proofs.Ytkccnomdfkhfnaa.Ev
open Go.RowKit

theorem count_le {α : Type} {p : α → Bool} : ∀ (l : List α) (k : Nat), (∀ i d, l[i]? = some d → p d = true → i < k) → (l.filter p).length ≤ k
  | [], k, _ => by simp
  | x :: l, k, h => by
    rw [List.filter_cons]
    have ht : ∀ i d, l[i]? = some d → p d = true → i < k - 1 := fun i d h1 h2 => by
      have := h (i + 1) d (by simpa using h1) h2; omega
    have := count_le l (k - 1) ht
    by_cases hx : p x = true
    · rw [if_pos hx, List.length_cons]
      have := h 0 x (by simp) hx
      omega
    · rw [if_neg hx]; omega
theorem count_ge {α : Type} {p : α → Bool} : ∀ (l : List α) (k : Nat), k ≤ l.length → (∀ i d, l[i]? = some d → i < k → p d = true) → k ≤ (l.filter p).length
  | l, 0, _, _ => Nat.zero_le _
  | [], k + 1, hk, _ => by simp at hk
  | x :: l, k + 1, hk, h => by
    rw [List.filter_cons, if_pos (h 0 x (by simp) (by omega)), List.length_cons]
    have := count_ge l k (by simpa using hk) fun i d h1 h2 => h (i + 1) d (by simpa using h1) (by omega)
    omega
theorem count_lt {α : Type} {p q : α → Bool} {d : α} : ∀ (l : List α), (∀ e, q e = true → p e = true) → d ∈ l → p d = true → q d = false → (l.filter q).length < (l.filter p).length
  | [], _, hd, _, _ => by cases hd
  | x :: l, hqp, hd, hp, hq => by
    have hle : (l.filter q).length ≤ (l.filter p).length := by
      clear hd
      induction l with
      | nil => simp
      | cons y l ih =>
        rw [List.filter_cons, List.filter_cons]
        by_cases hy : q y = true
        · rw [if_pos hy, if_pos (hqp y hy)]; simpa using ih
        · rw [if_neg hy]
          split
          · simp; omega
          · exact ih
    rw [List.filter_cons, List.filter_cons]
    rcases List.mem_cons.1 hd with e | hd
    · subst e
      rw [if_neg (by rw [hq]; simp), if_pos hp, List.length_cons]; omega
    · have := count_lt l hqp hd hp hq
      by_cases hy : q x = true
      · rw [if_pos hy, if_pos (hqp x hy)]; simpa using this
      · rw [if_neg hy]
        split
        · simp; omega
        · exact this

theorem chainOk_get : ∀ (l : List DOp), chainOk l = true → ∀ i a b, l[i]? = some a → l[i + 1]? = some b → bit b.anc a.idx = true
  | [], _, i, a, b, h, _ => by simp at h
  | [x], _, i, a, b, _, h => by simp at h
  | x :: y :: r, hc, i, a, b, h1, h2 => by
    simp only [chainOk, Bool.and_eq_true] at hc
    cases i with
    | zero => simp at h1 h2; subst h1; subst h2; exact hc.1
    | succ i => exact chainOk_get (y :: r) hc.2 i a b (by simpa using h1) (by simpa using h2)

theorem pairwise_of {l : List DOp} {R : DOp → DOp → Prop} (h : ∀ pre d q, l = pre ++ d :: q → ∀ e ∈ pre, R e d) {e e' : DOp} (he : e ∈ l) (he' : e' ∈ l) : e = e' ∨ R e e' ∨ R e' e := by
  obtain ⟨p, q, rfl⟩ := List.append_of_mem he
  rcases List.mem_append.1 he' with h1 | h1
  · exact .inr (.inr (h p e q rfl e' h1))
  · rcases List.mem_cons.1 h1 with h1 | h1
    · exact .inl h1.symm
    · obtain ⟨p2, q2, rfl⟩ := List.append_of_mem h1
      exact .inr (.inl (h (p ++ e :: p2) e' q2 (by simp) e (by simp)))

theorem heavies_app (p q : List DOp) : heavies (p ++ q) = heavies p ++ heavies q := by unfold heavies; rw [List.filter_append]

theorem aftMask_bit {o : Oper} {j : Nat} (h : bit (aftMask o) j = true) : ∃ e ∈ o.after, Region.binds .any e = true ∧ e.on = j := by
  unfold aftMask at h
  have key : ∀ (l : List _) (m : Nat), bit (l.foldl (fun m e => bif Region.binds .any e then withBit m e.on else m) m) j = true → bit m j = true ∨ ∃ e ∈ l, Region.binds .any e = true ∧ e.on = j := by
    intro l
    induction l with
    | nil => intro m h; exact .inl h
    | cons e l ih =>
      intro m h
      rw [List.foldl_cons] at h
      rcases ih _ h with g | ⟨x, hx, g⟩
      · cases hb : Region.binds .any e with
        | false => rw [hb, cond_false] at g; exact .inl g
        | true =>
          rw [hb, cond_true, bit_withBit, Bool.or_eq_true, decide_eq_true_eq] at g
          rcases g with g | g
          · exact .inl g
          · exact .inr ⟨e, List.mem_cons_self, hb, g⟩
      · exact .inr ⟨x, List.mem_cons_of_mem _ hx, g⟩
  rcases key _ _ h with g | ⟨e, he, g⟩
  · rw [bit_zero] at g; cases g
  · exact ⟨e, by simpa using he, g⟩
theorem bit_aftMask {o : Oper} {e : _} (he : e ∈ o.after) (hb : Region.binds .any e = true) : bit (aftMask o) e.on = true := by
  unfold aftMask
  have mono : ∀ (l : List _) (m j : Nat), bit m j = true → bit (l.foldl (fun m e => bif Region.binds .any e then withBit m e.on else m) m) j = true := by
    intro l
    induction l with
    | nil => intro m j h; exact h
    | cons x l ih =>
      intro m j h
      rw [List.foldl_cons]
      refine ih _ j ?_
      cases Region.binds .any x with
      | true => exact bit_mono h
      | false => exact h
  have key : ∀ (l : List _) (m : Nat), e ∈ l → bit (l.foldl (fun m e => bif Region.binds .any e then withBit m e.on else m) m) e.on = true := by
    intro l
    induction l with
    | nil => intro m h; cases h
    | cons x l ih =>
      intro m h
      rw [List.foldl_cons]
      rcases List.mem_cons.1 h with g | g
      · subst g
        refine mono _ _ _ ?_
        rw [hb, cond_true, bit_withBit]; simp
      · exact ih _ g
  exact key _ 0 (by simpa using he)

/-! ## any order -/
/-- all that is given -/
structure Given (P : Program) (cf : CallF) (X nt n0 : Nat) (w0 : World) (μ0 : Mu) (st : St) (tm : Tr AV) (ops : Array Oper) (st0 : St) (V0 Vf : Tr AV) (stf : St) (S : List St) : Prop where
  dsts : dstsIn nt ops.toList = true
  ord : Order ops.size (plan P ops)
  once : ∀ pre d r, plan P ops = pre ++ d :: r → ∀ e ∈ pre, ∀ t, d.o.dst = some t → e.o.dst ≠ some t
  chain : chainOk (heavies (plan P ops)) = true
  laid : Laid P (plan P ops) .e st V0 st0
  grow : ∀ j u, V0.get j = some u → Vf.get j = some u
  first : S[0]? = some st0
  last : S[(heavies (plan P ops)).length]? = some stf
  okf : AllP stf.x.cs
  each : ∀ pre d q, plan P ops = pre ++ d :: q → d.cl ≠ 3 → ∃ C, AllP C ∧ DRun P cf tm Vf S C stf (heavies pre).length d
  again : ∀ d ∈ plan P ops, ∃ c, recheck P tm Vf S d = some c ∧ AllP c

structure Inv (P : Program) (X nt n0 : Nat) (w0 : World) (μ0 : Mu) (st : St) (tm : Tr AV) (a0 : Act) (ops : Array Oper) (st0 : St) (Vf : Tr AV) (S : List St) (listed : Array Bool) (k : Nat) (s : St) (μ : Mu) (a : Act) (w : World) : Prop where
  size : listed.size = ops.size
  down : ∀ d ∈ plan P ops, listed.getD d.idx false = true → ∀ j, bit d.aft j = true → listed.getD j false = true
  heads : ∀ i d, (heavies (plan P ops))[i]? = some d → (listed.getD d.idx false = true ↔ i < k)
  kle : k ≤ (heavies (plan P ops)).length
  at_ : S[k]? = some s
  post : Post n0 w0 μ0 st μ s w
  nx : st0.next ≤ s.next
  defers : a.defers = a0.defers
  tsize : nt ≤ a.tmps.size
  vals : ∀ d ∈ plan P ops, listed.getD d.idx false = true → ∀ u t, Vf.get d.idx = some u → d.o.dst = some t → vr μ u (a.tmps.getD t undef)
  free : ∀ t av, (∀ d ∈ plan P ops, d.o.dst = some t → listed.getD d.idx false = false) → tm.get t = some av → bit X t = true ∧ vr μ av (a.tmps.getD t undef)
  wait : ∀ d ∈ plan P ops, d.cl = 3 → listed.getD d.idx false = false → ∀ u, Vf.get d.idx = some u → μ (obOf u) = none

section
variable {P : Program} {cf : CallF} {X nt n0 : Nat} {w0 : World} {μ0 : Mu} {st : St} {tm : Tr AV} {a0 : Act} {ops : Array Oper} {st0 : St} {V0 Vf : Tr AV} {stf : St} {S : List St}
variable {listed : Array Bool} {k : Nat} {s : St} {μ : Mu} {a : Act} {w : World}

/-- the places of an operation that may run now -/
theorem Inv.od (G : Given P cf X nt n0 w0 μ0 st tm ops st0 V0 Vf stf S) (I : Inv P X nt n0 w0 μ0 st tm a0 ops st0 Vf S listed k s μ a w) {d : DOp} (hd : d ∈ plan P ops) (hun : listed.getD d.idx false = false)
    (haft : ∀ j, bit d.aft j = true → listed.getD j false = true) {V : Tr AV} (hV : ∀ j u, V.get j = some u → Vf.get j = some u) : OdRel μ (evOdD V tm) (odD (planL P ops) d.aft d.idx) a.eval := by
  intro x av hx
  cases x with
  | tmp t =>
    simp only [odD] at hx
    cases hw : writerOf t (planL P ops) with
    | none =>
      rw [hw] at hx
      have hnone := writerOf_none _ hw
      refine (I.free t av (fun e he het => ?_) hx).2
      obtain ⟨o, i, b, h1, rfl, h3⟩ := plan_mem he
      exact absurd het (hnone _ h1)
    | some y =>
      obtain ⟨wr, j, b⟩ := y
      rw [hw] at hx
      obtain ⟨h1, h2⟩ := writerOf_some _ _ hw
      have hmem := List.mem_map_of_mem (f := mkDOp P ops (planL P ops) ((planL P ops).filter fun (o, _, _) => Nat.beq (clsR P o) 2)) h1
      dsimp only at hx
      cases hb : bit d.aft j with
      | true =>
        rw [hb] at hx
        exact I.vals _ hmem (haft j hb) av t (hV j av hx) h2
      | false =>
        rw [hb] at hx
        cases hb2 : bit (aftMask wr) d.idx with
        | false => rw [hb2] at hx; cases hx
        | true =>
          rw [hb2] at hx
          refine (I.free t av (fun e he het => ?_) hx).2
          have hone : e = mkDOp P ops (planL P ops) ((planL P ops).filter fun (o, _, _) => Nat.beq (clsR P o) 2) (wr, j, b) := by
            rcases pairwise_of (R := fun e d => ∀ t, d.o.dst = some t → e.o.dst ≠ some t) G.once he hmem with g | g | g
            · exact g
            · exact absurd het (g t h2)
            · exact absurd h2 (g t het)
          cases hl : listed.getD e.idx false with
          | false => rfl
          | true =>
            have := I.down e he hl d.idx (by rw [hone]; exact hb2)
            rw [hun] at this; cases this
  | const v =>
    simp only [odD] at hx
    cases hc : cv 6 v with
    | none => rw [hc] at hx; cases hx
    | some b => rw [hc] at hx; cases hx; exact cv_vr _ _ _ hc
  | global g => cases hx
  | func f =>
    cases hx
    simp only [vr]
    exact ⟨[], [], rfl, by simp only [vrL], by simp only [vrL]⟩

theorem gdD_sound {l : List (Oper × Nat × Nat)} {aft i : Nat} {V tm : Tr AV} (hr : OdRel μ (evOdD V tm) (odD l aft i) a.eval) {o : Oper} {r : Bool} (hg : evGd (evOdD V tm) (gdD ops l aft i o.guard) = some r) :
    Region.wanted o (yielded ops a.tmps) = r := by
  unfold Region.wanted
  cases hgd : o.guard with
  | none => rw [hgd] at hg; cases hg; rfl
  | some p =>
    obtain ⟨j, want⟩ := p
    rw [hgd] at hg
    unfold gdD at hg
    simp only [] at hg ⊢
    unfold yielded
    rw [show ops[j]? = ops.toList[j]? from by simp]
    cases ht : (ops.toList[j]?).bind (·.dst) with
    | none =>
      rw [ht] at hg
      cases hg
    | some t =>
      rw [ht] at hg
      obtain ⟨av, h1, h2⟩ := obind_elim (show obind (evOdD V tm (odD l aft i (.tmp t))) (gdVal want) = some r from hg)
      exact gdVal_sound h2 (hr (.tmp t) av h1)

theorem idx_lt (G : Given P cf X nt n0 w0 μ0 st tm ops st0 V0 Vf stf S) {d : DOp} (hd : d ∈ plan P ops) : d.idx < ops.size := (Array.getElem?_eq_some_iff.1 (plan_facts hd).op).1
theorem getD_set {i j : Nat} (hi : i < listed.size) : (listed.setIfInBounds i true).getD j false = if j = i then true else listed.getD j false := by
  by_cases e : j = i
  · subst e; simp [hi]
  · rw [if_neg e]; simp [Array.getElem?_setIfInBounds_ne (Ne.symm e)]
theorem dst_lt (G : Given P cf X nt n0 w0 μ0 st tm ops st0 V0 Vf stf S) {d : DOp} (hd : d ∈ plan P ops) : ∀ t, d.o.dst = some t → t < nt := by
  have h1 : d.o ∈ ops.toList := List.mem_of_getElem? (by simpa using (plan_facts hd).op)
  have key : ∀ (l : List Oper), dstsIn nt l = true → ∀ o ∈ l, ∀ t, o.dst = some t → t < nt := by
    intro l
    induction l with
    | nil => intro _ o ho; cases ho
    | cons x l ih =>
      intro h o ho
      obtain ⟨h1, h2⟩ := dstsIn_cons h
      rcases List.mem_cons.1 ho with e | ho
      · subst e; exact h1
      · exact ih h2 o ho
  exact key _ G.dsts _ h1

/-- one more is done -/
theorem Inv.step (G : Given P cf X nt n0 w0 μ0 st tm ops st0 V0 Vf stf S) (I : Inv P X nt n0 w0 μ0 st tm a0 ops st0 Vf S listed k s μ a w) {d : DOp} (hd : d ∈ plan P ops) (hun : listed.getD d.idx false = false)
    (haft : ∀ j, bit d.aft j = true → listed.getD j false = true) {k' : Nat} {s' : St} {μ' : Mu} {w' : World} {u : AV} {v : Value}
    (hk : (d.cl = 2 ∧ (heavies (plan P ops))[k]? = some d ∧ k' = k + 1) ∨ (d.cl ≠ 2 ∧ k' = k)) (hs : S[k']? = some s') (hp : Post n0 w0 μ0 st μ' s' w') (hnx : s.next ≤ s'.next) (hx : Ext μ μ')
    (hu : Vf.get d.idx = some u) (hv : vr μ' u v) (hwait : ∀ e ∈ plan P ops, e.cl = 3 → e.idx ≠ d.idx → listed.getD e.idx false = false → ∀ u, Vf.get e.idx = some u → μ' (obOf u) = none) :
    Inv P X nt n0 w0 μ0 st tm a0 ops st0 Vf S (listed.setIfInBounds d.idx true) k' s' μ' (a.put d.o.dst v) w' := by
  have hi : d.idx < listed.size := by rw [I.size]; exact idx_lt G hd
  have hput : ∀ t, (a.put d.o.dst v).tmps.getD t undef = if d.o.dst = some t then v else a.tmps.getD t undef := fun t => by
    cases hdd : d.o.dst with
    | none => rw [if_neg (by simp)]; rfl
    | some q =>
      have hq : q < a.tmps.size := Nat.lt_of_lt_of_le (dst_lt G hd q hdd) I.tsize
      show (a.tmps.setIfInBounds q v).getD t undef = _
      rw [getD_put _ _ _ _ hq]
      by_cases e : t = q
      · subst e; simp
      · rw [if_neg e, if_neg (by simpa using Ne.symm e)]
  have hsame : ∀ e ∈ plan P ops, e.idx = d.idx → e = d := fun e he heq => by
    rcases pairwise_of (R := fun e d => e.idx ≠ d.idx) G.ord.apart he hd with g | g | g
    · exact g
    · exact absurd heq g
    · exact absurd heq.symm g
  refine ⟨by simp [I.size], fun e he hl j hj => ?_, fun i e hie => ?_, ?_, hs, hp, Nat.le_trans I.nx hnx, by rw [put_defers']; exact I.defers, ?_, fun e he hl u' t hu' ht => ?_, fun t av hall ht => ?_, fun e he h3 hl o ho => ?_⟩
  · rw [getD_set hi] at hl ⊢
    by_cases e2 : e.idx = d.idx
    · have := hsame e he e2; subst this
      rw [haft j hj]; split <;> rfl
    · rw [if_neg e2] at hl
      rw [I.down e he hl j hj]; split <;> rfl
  · rw [getD_set hi]
    have hemem : e ∈ plan P ops := by
      have := List.mem_of_getElem? hie
      unfold heavies at this
      exact (List.mem_filter.1 this).1
    rcases hk with ⟨h2, hkd, rfl⟩ | ⟨h2, rfl⟩
    · by_cases e2 : e.idx = d.idx
      · have := hsame e hemem e2; subst this
        rw [if_pos rfl]
        have hnot : ¬ i < k := fun g => by
          have := (I.heads i e hie).2 g
          rw [hun] at this; cases this
        -- two places of one element
        have : i = k := by
          rcases Nat.lt_trichotomy i k with g | g | g
          · exact absurd g hnot
          · exact g
          · exfalso
            -- k < i: both are e
            have h5 := (List.getElem?_eq_some_iff.1 hkd)
            have h6 := (List.getElem?_eq_some_iff.1 hie)
            obtain ⟨l5, e5⟩ := h5
            obtain ⟨l6, e6⟩ := h6
            -- the elder one lies ahead of the later one
            have hsplit : heavies (plan P ops) = (heavies (plan P ops)).take i ++ e :: (heavies (plan P ops)).drop (i + 1) := by
              rw [← e6, List.getElem_cons_drop, List.take_append_drop]
            have hin : e ∈ (heavies (plan P ops)).take i := by
              rw [List.mem_iff_getElem?]
              exact ⟨k, by rw [List.getElem?_take, if_pos g]; exact hkd⟩
            have hsub : ∀ (l p q : List DOp) (e : DOp), heavies l = p ++ e :: q → ∀ x ∈ p, ∃ p' q', l = p' ++ e :: q' ∧ x ∈ p' := by
              intro l
              induction l with
              | nil => intro p q e h; simp [heavies] at h
              | cons y l ih =>
                intro p q e h x hxp
                rw [heavies_cons] at h
                split at h
                · cases p with
                  | nil => cases hxp
                  | cons z p =>
                    simp at h
                    obtain ⟨rfl, h⟩ := h
                    rcases List.mem_cons.1 hxp with e3 | hxp
                    · subst e3
                      have : e ∈ heavies l := by rw [h]; simp
                      unfold heavies at this
                      obtain ⟨p', q', rfl⟩ := List.append_of_mem (List.mem_filter.1 this).1
                      exact ⟨x :: p', q', rfl, List.mem_cons_self⟩
                    · obtain ⟨p', q', rfl, h4⟩ := ih p q e h x hxp
                      exact ⟨y :: p', q', rfl, List.mem_cons_of_mem _ h4⟩
                · obtain ⟨p', q', rfl, h4⟩ := ih p q e h x hxp
                  exact ⟨y :: p', q', rfl, List.mem_cons_of_mem _ h4⟩
            obtain ⟨p', q', h7, h8⟩ := hsub _ _ _ _ hsplit e hin
            exact G.ord.apart p' e q' h7 e h8 rfl
        simp; omega
      · rw [if_neg e2, I.heads i e hie]
        have : i ≠ k := fun g => by subst g; rw [hkd] at hie; cases hie; exact e2 rfl
        omega
    · by_cases e2 : e.idx = d.idx
      · have := hsame e hemem e2; subst this
        exfalso
        have := List.mem_of_getElem? hie
        unfold heavies at this
        exact h2 (beq_iff'.1 (List.mem_filter.1 this).2)
      · rw [if_neg e2]; exact I.heads i e hie
  · rcases hk with ⟨h2, hkd, rfl⟩ | ⟨h2, rfl⟩
    · exact (List.getElem?_eq_some_iff.1 hkd).1
    · exact I.kle
  · cases hdd : d.o.dst with
    | none => exact I.tsize
    | some q => show nt ≤ (a.tmps.setIfInBounds q v).size; rw [Array.size_setIfInBounds]; exact I.tsize
  · rw [hput]
    by_cases e2 : e.idx = d.idx
    · have := hsame e he e2; subst this
      rw [if_pos ht]
      rw [hu] at hu'; cases hu'; exact hv
    · have hne : d.o.dst ≠ some t := fun g => by
        rcases pairwise_of (R := fun e d => ∀ t, d.o.dst = some t → e.o.dst ≠ some t) G.once he hd with h1 | h1 | h1
        · subst h1; exact e2 rfl
        · exact h1 t g ht
        · exact h1 t ht g
      rw [if_neg hne]
      rw [getD_set hi, if_neg e2] at hl
      exact vr_ext hx _ _ (I.vals e he hl u' t hu' ht)
  · have hne : d.o.dst ≠ some t := fun g => by
      have := hall d hd g
      rw [getD_set hi, if_pos rfl] at this; cases this
    rw [hput, if_neg hne]
    have := I.free t av (fun e he het => by
      have h1 := hall e he het
      rw [getD_set hi] at h1
      split at h1
      · cases h1
      · exact h1) ht
    exact ⟨this.1, vr_ext hx _ _ this.2⟩
  · rw [getD_set hi] at hl
    split at hl
    · cases hl
    · rename_i hne; exact hwait e he h3 hne hl o ho
end
end Go.Proofs.Ytkccnomdfkhfnaa.Ev
