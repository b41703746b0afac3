/- What functions of the program compute, written down; read off their code. -/
import Derived.Test.YtkccnomdfkhfnaaEvBody
set_option linter.unusedSimpArgs false
set_option linter.unusedVariables false
namespace Go.Proofs.Ytkccnomdfkhfnaa.Ev
open Go.RowKit

/-! ## the plan of a region that draws its order -/
section
variable {P : Program} {ops : Array Oper}

theorem pickReady_mem {done : Nat} {heavy : Bool} : ∀ (l : List (Oper × Nat)) (x : Oper × Nat), pickReady P done heavy l = some x → x ∈ l
  | [], x, h => by cases h
  | (o, i) :: r, x, h => by
    simp only [pickReady] at h
    cases hb : (!(bit done i) && subM (aftMask o) done && (heavy || !(Nat.beq (clsR P o) 2))) with
    | true => rw [hb, cond_true] at h; cases h; exact List.mem_cons_self
    | false => rw [hb, cond_false] at h; exact List.mem_cons_of_mem _ (pickReady_mem r x h)
theorem orderF_mem {l : List (Oper × Nat)} : ∀ (f done : Nat) (x : Oper × Nat), x ∈ orderF P l f done → x ∈ l
  | 0, _, x, h => by cases h
  | f + 1, done, x, h => by
    simp only [orderF] at h
    split at h
    · rename_i y hy
      rcases List.mem_cons.1 h with e | h
      · subst e; exact pickReady_mem _ _ hy
      · exact orderF_mem f _ x h
    · split at h
      · rename_i y hy
        rcases List.mem_cons.1 h with e | h
        · subst e; exact pickReady_mem _ _ hy
        · exact orderF_mem f _ x h
      · cases h
theorem withAnc_mem : ∀ (l : List (Oper × Nat)) (acc : List (Nat × Nat)) (o : Oper) (i a : Nat), (o, i, a) ∈ withAnc l acc → (o, i) ∈ l
  | [], acc, o, i, a, h => by cases h
  | (o', i') :: r, acc, o, i, a, h => by
    simp only [withAnc] at h
    rcases List.mem_cons.1 h with e | h
    · cases e; exact List.mem_cons_self
    · exact List.mem_cons_of_mem _ (withAnc_mem r _ o i a h)
theorem planL_op {o : Oper} {i a : Nat} (h : (o, i, a) ∈ planL P ops) : ops[i]? = some o := by
  have h1 := orderF_mem _ _ _ (withAnc_mem _ _ _ _ _ h)
  obtain ⟨h2, h3⟩ := List.mem_zipIdx' h1
  have : ops.toList[i]? = some o := by rw [List.getElem?_eq_getElem h2, ← h3]
  simpa using this

/-- listed, and whatever it waits for -/
def Down (L : Nat → Prop) (l : List (Oper × Nat × Nat)) : Prop := ∀ x ∈ l, L x.2.1 → ∀ j, bit (aftMask x.1) j = true → L j

theorem ancOf_bit {L : Nat → Prop} {aft : Nat} (haft : ∀ j, bit aft j = true → L j) : ∀ (acc : List (Nat × Nat)) (m : Nat), (∀ p ∈ acc, L p.1 → ∀ j, bit p.2 j = true → L j) → (∀ j, bit m j = true → L j) →
    ∀ j, bit (ancOf aft acc m) j = true → L j
  | [], m, _, hm, j, h => hm j h
  | (k, b) :: r, m, hacc, hm, j, h => by
    simp only [ancOf] at h
    refine ancOf_bit haft r _ (fun p hp => hacc p (List.mem_cons_of_mem _ hp)) (fun j' hj' => ?_) j h
    cases hb : bit aft k with
    | false => rw [hb, cond_false] at hj'; exact hm j' hj'
    | true =>
      rw [hb, cond_true, bit_withBit, bit_lor] at hj'
      simp only [Bool.or_eq_true, decide_eq_true_eq] at hj'
      rcases hj' with (g | g) | g
      · exact hm j' g
      · exact hacc (k, b) List.mem_cons_self (haft k hb) j' g
      · subst g; exact haft k hb
theorem bit_zero (j : Nat) : bit 0 j = false := by rw [bit_eq]; simp
theorem withAnc_closed {L : Nat → Prop} : ∀ (l : List (Oper × Nat)) (acc : List (Nat × Nat)), (∀ x ∈ l, L x.2 → ∀ j, bit (aftMask x.1) j = true → L j) → (∀ p ∈ acc, L p.1 → ∀ j, bit p.2 j = true → L j) →
    ∀ x ∈ withAnc l acc, (∀ j, bit (aftMask x.1) j = true → L j) → ∀ j, bit x.2.2 j = true → L j
  | [], acc, _, _, x, hx => by cases hx
  | (o, i) :: r, acc, hd, hacc, x, hx => by
    simp only [withAnc] at hx
    rcases List.mem_cons.1 hx with e | hx
    · subst e
      intro haft j hj
      exact ancOf_bit haft acc 0 hacc (fun j h => by rw [bit_zero] at h; cases h) j hj
    · refine withAnc_closed r _ (fun y hy => hd y (List.mem_cons_of_mem _ hy)) (fun p hp => ?_) x hx
      rcases List.mem_cons.1 hp with e | hp
      · subst e
        intro hL j hj
        exact ancOf_bit (fun j h => hd (o, i) List.mem_cons_self hL j h) acc 0 hacc (fun j h => by rw [bit_zero] at h; cases h) j hj
      · exact hacc p hp

theorem plan_mem {d : DOp} (h : d ∈ plan P ops) : ∃ o i a, (o, i, a) ∈ planL P ops ∧ d = mkDOp P ops (planL P ops) ((planL P ops).filter fun (o, _, _) => Nat.beq (clsR P o) 2) (o, i, a) ∧ ops[i]? = some o := by
  unfold plan at h
  obtain ⟨⟨o, i, a⟩, h1, h2⟩ := List.mem_map.1 h
  exact ⟨o, i, a, h1, h2.symm, planL_op h1⟩

/-- what is told of an element of the plan -/
structure DFacts (P : Program) (ops : Array Oper) (d : DOp) : Prop where
  op : ops[d.idx]? = some d.o
  cl : d.cl = clsR P d.o
  aft : d.aft = aftMask d.o
  ods : d.ods = d.o.op.operands.toList.map (odD (planL P ops) d.aft d.idx)
  gd : d.gd = gdD ops (planL P ops) d.aft d.idx d.o.guard
  low : d.low = ((heavies (plan P ops)).filter fun h => bit d.anc h.idx).length
  high : d.high = ((heavies (plan P ops)).filter fun h => !(Nat.beq h.idx d.idx) && !(bit h.anc d.idx)).length

theorem heavies_plan : heavies (plan P ops) = ((planL P ops).filter fun (o, _, _) => Nat.beq (clsR P o) 2).map (mkDOp P ops (planL P ops) ((planL P ops).filter fun (o, _, _) => Nat.beq (clsR P o) 2)) := by
  unfold heavies plan
  rw [List.filter_map]
  rfl

theorem plan_facts {d : DOp} (h : d ∈ plan P ops) : DFacts P ops d := by
  obtain ⟨o, i, a, h1, rfl, h3⟩ := plan_mem h
  refine ⟨h3, rfl, rfl, rfl, rfl, ?_, ?_⟩
  · rw [heavies_plan, List.filter_map, List.length_map]; rfl
  · rw [heavies_plan, List.filter_map, List.length_map]; rfl

theorem withAnc_mem' : ∀ (l : List (Oper × Nat)) (acc : List (Nat × Nat)) (x : Oper × Nat), x ∈ l → ∃ a, (x.1, x.2, a) ∈ withAnc l acc
  | [], acc, x, h => by cases h
  | (o', i') :: r, acc, x, h => by
    simp only [withAnc]
    rcases List.mem_cons.1 h with e | h
    · subst e; exact ⟨_, List.mem_cons_self⟩
    · obtain ⟨a, ha⟩ := withAnc_mem' r ((i', ancOf (aftMask o') acc 0) :: acc) x h
      exact ⟨a, List.mem_cons_of_mem _ ha⟩

theorem plan_closed {L : Nat → Prop} (hd : ∀ d ∈ plan P ops, L d.idx → ∀ j, bit d.aft j = true → L j) {d : DOp} (h : d ∈ plan P ops) (ha : ∀ j, bit d.aft j = true → L j) : ∀ j, bit d.anc j = true → L j := by
  obtain ⟨o, i, a, h1, rfl, h3⟩ := plan_mem h
  refine withAnc_closed (L := L) _ _ (fun x hx hL => ?_) (fun p hp => by cases hp) _ h1 ha
  obtain ⟨b, hb⟩ := withAnc_mem' _ [] x hx
  exact hd _ (List.mem_map_of_mem (f := mkDOp P ops (planL P ops) ((planL P ops).filter fun (o, _, _) => Nat.beq (clsR P o) 2)) hb) hL

theorem writerOf_none {t : Nat} : ∀ (l : List (Oper × Nat × Nat)), writerOf t l = none → ∀ x ∈ l, x.1.dst ≠ some t
  | [], _, x, hx => by cases hx
  | d :: r, h, x, hx => by
    simp only [writerOf] at h
    rcases List.mem_cons.1 hx with e | hx
    · subst e
      intro e2
      rw [e2] at h
      simp only [show Nat.beq t t = true from beq_iff'.2 rfl, cond_true] at h
      cases h
    · refine writerOf_none r ?_ x hx
      cases hd : d.1.dst with
      | none => rw [hd] at h; exact h
      | some u =>
        rw [hd] at h
        dsimp only at h
        cases hb : Nat.beq u t with
        | true => rw [hb] at h; cases h
        | false => rw [hb] at h; exact h
theorem writerOf_some {t : Nat} : ∀ (l : List (Oper × Nat × Nat)) (x : Oper × Nat × Nat), writerOf t l = some x → x ∈ l ∧ x.1.dst = some t
  | [], x, h => by cases h
  | d :: r, x, h => by
    simp only [writerOf] at h
    cases hd : d.1.dst with
    | none => rw [hd] at h; obtain ⟨g1, g2⟩ := writerOf_some r x h; exact ⟨List.mem_cons_of_mem _ g1, g2⟩
    | some u =>
      rw [hd] at h
      dsimp only at h
      cases hb : Nat.beq u t with
      | true => rw [hb] at h; cases h; rw [beq_iff'] at hb; subst hb; exact ⟨List.mem_cons_self, hd⟩
      | false => rw [hb] at h; obtain ⟨g1, g2⟩ := writerOf_some r x h; exact ⟨List.mem_cons_of_mem _ g1, g2⟩

/-! ### the order of the plan -/
theorem subM_iff {a b : Nat} (h : subM a b = true) : ∀ j, bit a j = true → bit b j = true := by
  intro j hj
  unfold subM at h
  rw [beq_iff'] at h
  rw [bit_eq] at hj ⊢
  rw [← h, show Nat.land a b = a &&& b from rfl, Nat.testBit_and, Bool.and_eq_true] at hj
  exact hj.2

structure Order (size : Nat) (pl : List DOp) : Prop where
  apart : ∀ pre d r, pl = pre ++ d :: r → ∀ e ∈ pre, e.idx ≠ d.idx
  waits : ∀ pre d r, pl = pre ++ d :: r → ∀ j, bit d.aft j = true → ∃ e ∈ pre, e.idx = j
  all : ∀ i, i < size → ∃ d ∈ pl, d.idx = i

theorem topo_sound {full : Nat} : ∀ (r pre : List DOp) (m : Nat), (∀ j, bit m j = true ↔ ∃ e ∈ pre, e.idx = j) → topo full r m = true →
    (∀ p d q, r = p ++ d :: q → (∀ e ∈ pre ++ p, e.idx ≠ d.idx) ∧ (∀ j, bit d.aft j = true → ∃ e ∈ pre ++ p, e.idx = j)) ∧ (∀ i, bit full i = true → ∃ d ∈ pre ++ r, d.idx = i)
  | [], pre, m, hm, h => by
    simp only [topo] at h
    rw [beq_iff'] at h
    subst h
    refine ⟨(fun p d q e => by simp at e), fun i hi => ?_⟩
    rw [List.append_nil]; exact (hm i).1 hi
  | d :: r, pre, m, hm, h => by
    simp only [topo, bsel_eq] at h
    by_cases h1 : bit m d.idx = true
    · rw [if_pos h1] at h; cases h
    · rw [if_neg h1] at h
      by_cases h2 : subM d.aft m = true
      · rw [if_pos h2] at h
        have hm' : ∀ j, bit (withBit m d.idx) j = true ↔ ∃ e ∈ pre ++ [d], e.idx = j := fun j => by
          rw [bit_withBit, Bool.or_eq_true, decide_eq_true_eq, hm j]
          constructor
          · rintro (⟨e, he, g⟩ | g)
            · exact ⟨e, List.mem_append_left _ he, g⟩
            · exact ⟨d, by simp, g⟩
          · rintro ⟨e, he, g⟩
            rcases List.mem_append.1 he with he | he
            · exact .inl ⟨e, he, g⟩
            · simp at he; subst he; exact .inr g
        obtain ⟨g1, g2⟩ := topo_sound r (pre ++ [d]) _ hm' h
        refine ⟨fun p e q heq => ?_, fun i hi => by simpa [List.append_assoc] using g2 i hi⟩
        cases p with
        | nil =>
          simp at heq
          obtain ⟨rfl, rfl⟩ := heq
          rw [List.append_nil]
          exact ⟨fun e he g => h1 ((hm _).2 ⟨e, he, g⟩), fun j hj => (hm j).1 (subM_iff h2 j hj)⟩
        | cons x p =>
          simp at heq
          obtain ⟨rfl, heq⟩ := heq
          have := g1 p e q heq
          simpa [List.append_assoc] using this
      · rw [if_neg h2] at h; cases h

theorem order_of {n : Nat} {pl : List DOp} (h : topo (Nat.sub (Nat.shiftLeft 1 n) 1) pl 0 = true) : Order n pl := by
  obtain ⟨g1, g2⟩ := topo_sound pl [] 0 (fun j => by rw [bit_zero]; simp) h
  exact ⟨(fun pre d r e => by simpa using (g1 pre d r e).1), (fun pre d r e => by simpa using (g1 pre d r e).2), (fun i hi => by simpa using g2 i (bit_low hi))⟩

theorem dstsOnce_sound : ∀ (pl : List DOp) (m : Nat), dstsOnce pl m = true → (∀ d ∈ pl, ∀ t, d.o.dst = some t → bit m t = false) ∧ ∀ pre d r, pl = pre ++ d :: r → ∀ e ∈ pre, ∀ t, d.o.dst = some t → e.o.dst ≠ some t
  | [], m, h => ⟨(fun d hd => by cases hd), (fun pre d r e => by simp at e)⟩
  | x :: r, m, h => by
    simp only [dstsOnce] at h
    cases hx : x.o.dst with
    | none =>
      rw [hx] at h
      obtain ⟨g1, g2⟩ := dstsOnce_sound r m h
      refine ⟨fun d hd t ht => ?_, fun pre d q e y hy t ht => ?_⟩
      · rcases List.mem_cons.1 hd with e | hd
        · subst e; rw [hx] at ht; cases ht
        · exact g1 d hd t ht
      · cases pre with
        | nil => cases hy
        | cons z pre =>
          simp at e
          obtain ⟨rfl, e⟩ := e
          rcases List.mem_cons.1 hy with e2 | hy
          · subst e2; rw [hx]; intro h; cases h
          · exact g2 pre d q e y hy t ht
    | some u =>
      rw [hx] at h
      simp only [bsel_eq] at h
      by_cases hb : bit m u = true
      · rw [if_pos hb] at h; cases h
      · rw [if_neg hb] at h
        have hb' : bit m u = false := by simpa using hb
        obtain ⟨g1, g2⟩ := dstsOnce_sound r _ h
        have g1' : ∀ d ∈ r, ∀ t, d.o.dst = some t → bit m t = false ∧ u ≠ t := fun d hd t ht => by
          have := g1 d hd t ht
          rw [bit_withBit, Bool.or_eq_false_iff, decide_eq_false_iff_not] at this
          exact this
        refine ⟨fun d hd t ht => ?_, fun pre d q e y hy t ht => ?_⟩
        · rcases List.mem_cons.1 hd with e | hd
          · subst e; rw [hx] at ht; cases ht; exact hb'
          · exact (g1' d hd t ht).1
        · cases pre with
          | nil => cases hy
          | cons z pre =>
            simp at e
            obtain ⟨rfl, e⟩ := e
            rcases List.mem_cons.1 hy with e2 | hy
            · subst e2
              rw [hx]; intro h; cases h
              exact (g1' d (by rw [e]; simp) _ ht).2 rfl
            · exact g2 pre d q e y hy t ht
end

/-! ## the run in the order of the plan -/
/-- a guard's value, as it was asked -/
def FxP (v0 v : AV) : Prop := v = v0 ∨ ∃ (c d : Bool), v0 = .x (.b c) ∧ v = .b d ∧ c = d
def Fx (C : List Prop) (v0 v : AV) : Prop := v = v0 ∨ ∃ (c d : Bool), v0 = .x (.b c) ∧ v = .b d ∧ (c = d) ∈ C
theorem Fx.mono {C C' : List Prop} {v0 v : AV} (h : Fx C v0 v) (hs : ∀ p ∈ C, p ∈ C') : Fx C' v0 v := h.imp id fun ⟨c, d, h1, h2, h3⟩ => ⟨c, d, h1, h2, hs _ h3⟩
theorem Fx.holds {C : List Prop} {v0 v : AV} (h : Fx C v0 v) (hs : AllP C) : FxP v0 v := h.imp id fun ⟨c, d, h1, h2, h3⟩ => ⟨c, d, h1, h2, hs _ h3⟩
theorem FxP.vr {μ : Mu} {v0 v : AV} {u : Value} (h : FxP v0 v) (hv : vr μ v0 u) : vr μ v u := by
  rcases h with rfl | ⟨c, d, rfl, rfl, rfl⟩
  · exact hv
  · have : u = .bool c := vr_x.1 hv
    subst this
    simp only [Ev.vr]
theorem askG_ok {isg : Bool} {v0 v : AV} {c seen orc : List Prop × List Bool} {c' : List Prop} {o : List Bool} (h : askG isg v0 c seen orc = some (v, c', o)) : (∀ p ∈ c.1, p ∈ c') ∧ Fx c' v0 v := by
  unfold askG at h
  rcases bsel_some h with ⟨_, h⟩ | ⟨_, h⟩
  · split at h
    · split at h
      · cases h
      · cases h
        exact ⟨fun p hp => List.mem_cons_of_mem _ hp, .inr ⟨_, _, rfl, rfl, List.mem_cons_self⟩⟩
    · cases h; exact ⟨fun _ h => h, .inl rfl⟩
  · cases h; exact ⟨fun _ h => h, .inl rfl⟩
/-- what the run found at an element of the plan -/
def DRun (P : Program) (cf : CallF) (tm Vf : Tr AV) (S : List St) (C : List Prop) (stf : St) (rank : Nat) (d : DOp) : Prop :=
  ∃ (V : Tr AV) (g : Bool), (∀ j u, V.get j = some u → Vf.get j = some u) ∧ evGd (evOdD V tm) d.gd = some g ∧
    (g = false → Vf.get d.idx = some undefA ∧ (d.cl = 2 → ∃ s, S[rank]? = some s ∧ S[rank + 1]? = some s)) ∧
    (g = true → ∃ v, Vf.get d.idx = some v ∧
      (d.cl = 0 → ∃ v0 c, semP2 P d.o.op d.o.type (evOdD V tm) d.ods = some (v0, c) ∧ (∀ p ∈ c, p ∈ C) ∧ Fx C v0 v) ∧
      (d.cl = 1 → ∃ s v0 c, S[d.low]? = some s ∧ semR2 P d.o.op (evOdD V tm) d.ods s = some (v0, c) ∧ Fx C v0 v) ∧
      (d.cl = 2 → ∃ s s' v0, S[rank]? = some s ∧ S[rank + 1]? = some s' ∧ semA2 P cf d.o.op (evOdD V tm) d.ods s = some (v0, s') ∧ Gr s' stf ∧ Fx C v0 v))

theorem nth_get {α : Type} : ∀ (l : List α) (n : Nat), nth l n = l[n]?
  | [], n => by simp [nth]
  | x :: xs, 0 => rfl
  | x :: xs, n + 1 => by
    simp only [nth]
    rw [show Nat.beq (n + 1) 0 = false from rfl, cond_false, show Nat.sub (n + 1) 1 = n from rfl, nth_get xs n]
    simp

structure RunD (P : Program) (cf : CallF) (tm : Tr AV) (r : List DOp) (V : Tr AV) (ss : List St) (n : Nat) (cs : List Prop) (Vf : Tr AV) (stf : St) (ssf : List St) (C : List Prop) : Prop where
  gr : ∀ s, ss.head? = some s → Gr s stf
  sub : ∀ p ∈ cs, p ∈ C
  grow : ∀ j u, V.get j = some u → Vf.get j = some u
  more : ∃ T, ssf = T ++ ss
  last : ssf.head? = some stf
  len : ssf.length = n + 1 + (heavies r).length
  each : ∀ pre d q, r = pre ++ d :: q → d.cl ≠ 3 → DRun P cf tm Vf ssf.reverse C stf (n + (heavies pre).length) d


theorem heavies_cons (d : DOp) (r : List DOp) : heavies (d :: r) = if d.cl = 2 then d :: heavies r else heavies r := by
  unfold heavies
  rw [List.filter_cons]
  by_cases h : d.cl = 2
  · rw [if_pos h, if_pos (beq_iff'.2 h)]
  · rw [if_neg h, if_neg (fun g => h (beq_iff'.1 g))]

section
variable {P : Program} {cf : CallF} {tm V V' Vf : Tr AV} {r : List DOp} {d : DOp} {ss ssf : List St} {st' stf : St} {n : Nat} {cs cs' C : List Prop}
theorem RunD.light (hd : d.cl ≠ 2) (R : RunD P cf tm r V' ss n cs' Vf stf ssf C) (hcs : ∀ p ∈ cs, p ∈ cs') (hV : ∀ j u, V.get j = some u → V'.get j = some u) (hdr : d.cl ≠ 3 → DRun P cf tm Vf ssf.reverse C stf n d) : RunD P cf tm (d :: r) V ss n cs Vf stf ssf C := by
  refine ⟨R.gr, fun p hp => R.sub p (hcs p hp), fun j u h => R.grow j u (hV j u h), R.more, R.last, by rw [heavies_cons, if_neg hd]; exact R.len, fun pre e q heq hc => ?_⟩
  cases pre with
  | nil => simp at heq; obtain ⟨rfl, rfl⟩ := heq; exact hdr hc
  | cons x pre =>
    simp at heq
    obtain ⟨rfl, heq⟩ := heq
    rw [heavies_cons, if_neg hd]
    exact R.each pre e q heq hc
theorem RunD.heavy (hd : d.cl = 2) (R : RunD P cf tm r V' (st' :: ss) (n + 1) cs' Vf stf ssf C) (hcs : ∀ p ∈ cs, p ∈ cs') (hg : ∀ s, ss.head? = some s → Gr s st') (hV : ∀ j u, V.get j = some u → V'.get j = some u) (hdr : DRun P cf tm Vf ssf.reverse C stf n d) : RunD P cf tm (d :: r) V ss n cs Vf stf ssf C := by
  refine ⟨fun s hs => (hg s hs).trans (R.gr st' rfl), fun p hp => R.sub p (hcs p hp), fun j u h => R.grow j u (hV j u h), ?_, R.last, by rw [heavies_cons, if_pos hd, R.len, List.length_cons]; omega, fun pre e q heq hc => ?_⟩
  · obtain ⟨T, hT⟩ := R.more
    exact ⟨T ++ [st'], by rw [hT]; simp⟩
  · cases pre with
    | nil => simp at heq; obtain ⟨rfl, rfl⟩ := heq; exact hdr
    | cons x pre =>
      simp at heq
      obtain ⟨rfl, heq⟩ := heq
      rw [heavies_cons, if_pos hd, List.length_cons]
      have := R.each pre e q heq hc
      rw [show n + ((heavies pre).length + 1) = n + 1 + (heavies pre).length from by omega]
      exact this

theorem rev_get {ss : List St} {n low : Nat} {s : St} (hlen : ss.length = n + 1) (hl : low ≤ n) (h : ss[n - low]? = some s) : ss.reverse[low]? = some s := by
  rw [List.getElem?_reverse (by omega)]
  rw [← h]
  congr 1
  omega
theorem rev_app {T ss : List St} {n i : Nat} (hlen : ss.length = n + 1) (hi : i ≤ n) : (T ++ ss).reverse[i]? = ss.reverse[i]? := by
  rw [List.reverse_append, List.getElem?_append_left (by simp; omega)]

theorem set_keeps {V : Tr AV} {i : Nat} {v : AV} (h : V.get i = none) : ∀ j u, V.get j = some u → (V.set i v).get j = some u := fun j u hj => by
  rw [Tr.get_set_ne _ _ (fun e => by subst e; rw [h] at hj; cases hj)]; exact hj

theorem runD_spec {gl : List Nat} (hcf : CFGrow cf) : ∀ (r : List DOp) (V : Tr AV) (st : St) (ss : List St) (n : Nat) (cs : List Prop) (oo : List Bool) (Vf : Tr AV) (stf : St) (ssf : List St) (C : List Prop) (of : List Bool), runD P cf tm gl r V st ss n cs oo = some (Vf, stf, ssf, C, of) → ss.head? = some st → ss.length = n + 1 →
    (∀ d ∈ r, d.cl ≤ 3) → (∀ d ∈ r, d.cl ≠ 3 → V.get d.idx = none) → (∀ pre d q, r = pre ++ d :: q → ∀ e ∈ pre, e.idx ≠ d.idx) → RunD P cf tm r V ss n cs Vf stf ssf C
  | [], V, st, ss, n, cs, oo, Vf, stf, ssf, C, of, h, hh, hl, _, _, _ => by
    simp only [runD] at h
    cases h
    exact ⟨fun s hs => (by rw [hh] at hs; cases hs; exact Gr.refl _), fun _ h => h, fun _ _ h => h, ⟨[], rfl⟩, hh, by simpa [heavies] using hl, fun pre d q e => by simp at e⟩
  | d :: r, V, st, ss, n, cs, oo, Vf, stf, ssf, C, of, h, hh, hl, hc, hV, hap => by
    have hc' : ∀ e ∈ r, e.cl ≤ 3 := fun e he => hc e (List.mem_cons_of_mem _ he)
    have hap' : ∀ pre e q, r = pre ++ e :: q → ∀ x ∈ pre, x.idx ≠ e.idx := fun pre e q heq x hx => hap (d :: pre) e q (by rw [heq]; rfl) x (List.mem_cons_of_mem _ hx)
    have hne : ∀ e ∈ r, d.idx ≠ e.idx := fun e he => by
      obtain ⟨p, q, heq⟩ := List.append_of_mem he
      exact hap (d :: p) e q (by rw [heq]; rfl) d List.mem_cons_self
    have hVs : ∀ v, ∀ e ∈ r, e.cl ≠ 3 → (V.set d.idx v).get e.idx = none := fun v e he h3 => by
      rw [Tr.get_set_ne _ _ (Ne.symm (hne e he))]; exact hV e (List.mem_cons_of_mem _ he) h3
    by_cases h3 : d.cl = 3
    · simp only [runD, h3] at h
      have R := runD_spec hcf r V st ss n cs oo Vf stf ssf C of h hh hl hc' (fun e he => hV e (List.mem_cons_of_mem _ he)) hap'
      exact R.light (by omega) (fun _ h => h) (fun _ _ h => h) fun g => absurd h3 g
    · have hVd := hV d List.mem_cons_self h3
      have hcd := hc d List.mem_cons_self
      -- what every branch has in common
      have light : ∀ v g c oo, d.cl ≠ 2 → runD P cf tm gl r (V.set d.idx v) st ss n (c ++ cs) oo = some (Vf, stf, ssf, C, of) → evGd (evOdD V tm) d.gd = some g → (g = false → v = undefA) →
          (g = true → (d.cl = 0 → ∃ v0 c0, semP2 P d.o.op d.o.type (evOdD V tm) d.ods = some (v0, c0) ∧ (∀ p ∈ c0, p ∈ c) ∧ Fx c v0 v) ∧ (d.cl = 1 → d.low ≤ n ∧ ∃ s v0 c0, ss[n - d.low]? = some s ∧ semR2 P d.o.op (evOdD V tm) d.ods s = some (v0, c0) ∧ Fx c v0 v)) →
          RunD P cf tm (d :: r) V ss n cs Vf stf ssf C := fun v g c oo h2 hrun hg hf ht => by
        have R := runD_spec hcf r (V.set d.idx v) st ss n (c ++ cs) oo Vf stf ssf C of hrun hh hl hc' (hVs v) hap'
        have hk : ∀ j u, V.get j = some u → Vf.get j = some u := fun j u hj => R.grow j u (set_keeps hVd j u hj)
        have hme : Vf.get d.idx = some v := R.grow _ _ (Tr.get_set_same _ _ _)
        refine R.light h2 (fun p hp => List.mem_append_right _ hp) (set_keeps hVd) fun _ => ⟨V, g, hk, hg, fun e => ⟨by rw [hme, hf e], fun g => absurd g h2⟩, fun e => ⟨v, hme, fun h0 => ?_, fun h1 => ?_, fun g => absurd g h2⟩⟩
        · obtain ⟨v0, c0, q1, q2, q3⟩ := (ht e).1 h0
          exact ⟨v0, c0, q1, fun p hp => R.sub p (List.mem_append_left _ (q2 p hp)), q3.mono fun p hp => R.sub p (List.mem_append_left _ hp)⟩
        · obtain ⟨hlow, s, v0, c0, q1, q2, q3⟩ := (ht e).2 h1
          obtain ⟨T, hT⟩ := R.more
          exact ⟨s, v0, c0, by rw [hT, rev_app hl hlow]; exact rev_get hl hlow q1, q2, q3.mono fun p hp => R.sub p (List.mem_append_left _ hp)⟩
      have heavy : ∀ v s' g c oo, d.cl = 2 → runD P cf tm gl r (V.set d.idx v) s' (s' :: ss) (n + 1) (c ++ cs) oo = some (Vf, stf, ssf, C, of) → evGd (evOdD V tm) d.gd = some g → (g = false → v = undefA ∧ s' = st) →
          (g = true → ∃ v0, semA2 P cf d.o.op (evOdD V tm) d.ods st = some (v0, s') ∧ Fx c v0 v) → RunD P cf tm (d :: r) V ss n cs Vf stf ssf C := fun v s' g c oo h2 hrun hg hf ht => by
        have R := runD_spec hcf r (V.set d.idx v) s' (s' :: ss) (n + 1) (c ++ cs) oo Vf stf ssf C of hrun rfl (by simp [hl]) hc' (hVs v) hap'
        have hk : ∀ j u, V.get j = some u → Vf.get j = some u := fun j u hj => R.grow j u (set_keeps hVd j u hj)
        have hme : Vf.get d.idx = some v := R.grow _ _ (Tr.get_set_same _ _ _)
        obtain ⟨T, hT⟩ := R.more
        have hl' : (s' :: ss).length = (n + 1) + 1 := by simp [hl]
        have s0 : ssf.reverse[n]? = some st := by
          rw [hT, rev_app hl' (by omega)]
          refine rev_get hl' (by omega) ?_
          rw [show n + 1 - n = 1 from by omega]
          cases ss with
          | nil => simp at hl
          | cons x ss => simpa using hh
        have s1 : ssf.reverse[n + 1]? = some s' := by
          rw [hT, rev_app hl' (Nat.le_refl _)]
          refine rev_get hl' (Nat.le_refl _) ?_
          simp
        have hstep : ∀ s, ss.head? = some s → Gr s s' := fun s hs => by
          rw [hh] at hs; cases hs
          cases g with
          | false => rw [(hf rfl).2]; exact Gr.refl _
          | true => obtain ⟨v0, q1, _⟩ := ht rfl; exact semA2_xp hcf _ _ q1
        refine RunD.heavy h2 (cs := cs) (cs' := c ++ cs) R (fun p hp => List.mem_append_right _ hp) hstep (set_keeps hVd) ⟨V, g, hk, hg, fun e => ⟨by rw [hme, (hf e).1], fun _ => ⟨st, s0, by rw [s1, (hf e).2]⟩⟩, fun e => ⟨v, hme, fun g => by omega, fun g => by omega, fun _ => ?_⟩⟩
        obtain ⟨v0, q1, q2⟩ := ht e
        exact ⟨st, s', v0, s0, s1, q1, R.gr s' rfl, q2.mono fun p hp => R.sub p (List.mem_append_left _ hp)⟩
      have h012 : d.cl = 0 ∨ d.cl = 1 ∨ d.cl = 2 := by omega
      cases hg : evGd (evOdD V tm) d.gd with
      | none => rcases h012 with h0 | h0 | h0 <;> (simp only [runD, h0, hg] at h; cases h)
      | some g =>
        cases g with
        | false =>
          rcases h012 with h0 | h0 | h0 <;> simp only [runD, h0, hg] at h
          · exact light _ false [] _ (by omega) h hg (fun _ => rfl) (fun e => by cases e)
          · exact light _ false [] _ (by omega) h hg (fun _ => rfl) (fun e => by cases e)
          · exact heavy _ _ false [] _ h0 h hg (fun _ => ⟨rfl, rfl⟩) (fun e => by cases e)
        | true =>
          rcases h012 with h0 | h0 | h0 <;> simp only [runD, h0, hg] at h
          · split at h
            · rename_i v0 c0 hv
              split at h
              · rename_i v c o hq
                obtain ⟨g1, g2⟩ := askG_ok hq
                exact light v true c o (by omega) h hg (fun e => by cases e) (fun _ => ⟨fun _ => ⟨v0, c0, hv, g1, g2⟩, fun g => by omega⟩)
              · cases h
            · cases h
          · split at h
            · rename_i s hs
              obtain ⟨hlow, hs⟩ := need_some hs
              rw [ble_iff] at hlow
              rw [nth_get] at hs
              split at h
              · rename_i v0 c0 hv
                split at h
                · rename_i v c o hq
                  obtain ⟨g1, g2⟩ := askG_ok hq
                  exact light v true c o (by omega) h hg (fun e => by cases e) (fun _ => ⟨fun g => by omega, fun _ => ⟨hlow, s, v0, c0, hs, hv, g2⟩⟩)
                · cases h
              · cases h
            · cases h
          · split at h
            · rename_i v0 s' hv
              split at h
              · rename_i v c o hq
                obtain ⟨g1, g2⟩ := askG_ok hq
                exact heavy v s' true c o h0 h hg (fun e => by cases e) (fun _ => ⟨v0, hv, g2⟩)
              · cases h
            · cases h
end

/-! ## the new variables, laid ahead -/
theorem RS.lay {n0 : Nat} {w0 : World} {μ : Mu} {st : St} {w : World} (h : RS n0 w0 μ st w) (cs : List AV) (esz : Nat) : RS n0 w0 μ (newCells st cs esz) w := by
  rw [newCells_eq]
  have hn : μ st.next = none := h.fresh _ (Nat.le_refl _)
  have hget : ∀ o p, μ o = some p → (newObj st (.cells (wr .e 0 cs) cs.length esz false 0)).heap.get o = st.heap.get o := fun o p hp => by
    rw [newObj_heap, Tr.get_set, if_neg (fun e => by subst e; rw [hn] at hp; cases hp)]
  refine ⟨fun o ho => h.fresh o (by rw [newObj_next] at ho; omega), h.blk, fun o p ob h1 h2 => h.obj o p ob h1 (by rw [← hget o p h1]; exact h2), fun o p ob h1 h2 => h.own o p ob h1 (by rw [← hget o p h1]; exact h2),
    fun o o' p p' ob ob' hne h1 h1' h2 h2' => h.apart o o' p p' ob ob' hne h1 h1' (by rw [← hget o p h1]; exact h2) (by rw [← hget o' p' h1']; exact h2'), h.below, h.pos, ?_, ?_⟩
  · rw [newObj_next, newObj_wmin]; have := h.wle; omega
  · exact h.x.move (by rw [newObj_x]) (by rw [newObj_next]; omega) (fun _ _ _ => rfl) fun o p ob h1 h2 h3 => .inr ⟨o, p, ob, h1, by rw [← hget o p h1]; exact h2, h3, rfl, rfl⟩

/-- the object that a value names -/
def obOf : AV → Nat
  | .ptr o _ => o
  | .sl o _ _ _ _ _ => o
  | _ => 0
/-- what was laid for an operation -/
def LaidVal (P : Program) (d : DOp) (v : AV) : Prop :=
  (∃ t z, d.o.op = .alloc t ∧ zeroT P t = some z ∧ v = .ptr (obOf v) 0) ∨ (∃ t n parts size, d.o.op = .buildSlice t n parts ∧ v = .sl (obOf v) 0 n n true size)
structure Laid (P : Program) (pl : List DOp) (V : Tr AV) (st : St) (V0 : Tr AV) (st0 : St) : Prop where
  next : st.next ≤ st0.next
  wmin : st0.wmin = st.wmin
  old : ∀ o, o < st.next → st0.heap.get o = st.heap.get o
  keys : ∀ j, (∀ d ∈ pl, d.cl = 3 → d.idx ≠ j) → V0.get j = V.get j
  each : ∀ d ∈ pl, d.cl = 3 → True ∧ ∃ v, V0.get d.idx = some v ∧ LaidVal P d v ∧ st.next ≤ obOf v ∧ obOf v < st0.next
  inj : ∀ d ∈ pl, ∀ e ∈ pl, d.cl = 3 → e.cl = 3 → ∀ u v, V0.get d.idx = some u → V0.get e.idx = some v → obOf u = obOf v → d.idx = e.idx
  rs : ∀ (n0 : Nat) (w0 : World) (μ : Mu) (w : World), RS n0 w0 μ st w → RS n0 w0 μ st0 w

theorem Laid.cons {P : Program} {d : DOp} {r : List DOp} {V : Tr AV} {st : St} {V0 : Tr AV} {st0 : St} {v : AV} {cs : List AV} {esz : Nat} (h3 : d.cl = 3) (hne : ∀ e ∈ r, d.idx ≠ e.idx)
    (hv : LaidVal P d v) (hob : obOf v = st.next) (R : Laid P r (V.set d.idx v) (newCells st cs esz) V0 st0) : Laid P (d :: r) V st V0 st0 := by
  have hnx : (newCells st cs esz).next = st.next + 1 := by rw [newCells_eq, newObj_next]
  have hwm : (newCells st cs esz).wmin = st.wmin := by rw [newCells_eq, newObj_wmin]
  have hme : V0.get d.idx = some v := by rw [R.keys d.idx fun e he _ => Ne.symm (hne e he)]; exact Tr.get_set_same _ _ _
  refine ⟨by have := R.next; omega, by rw [R.wmin, hwm], fun o ho => ?_, fun j hj => ?_, fun e he h => ?_, fun e he f hf c1 c2 x y hx hy heq => ?_, fun n0 w0 μ w hrs => R.rs n0 w0 μ w (hrs.lay _ _)⟩
  · rw [R.old o (by omega), newCells_eq, newObj_heap, Tr.get_set_ne _ _ (by omega)]
  · rw [R.keys j fun e he => hj e (List.mem_cons_of_mem _ he), Tr.get_set_ne _ _ (Ne.symm (hj d List.mem_cons_self h3))]
  · rcases List.mem_cons.1 he with e1 | he
    · subst e1; exact ⟨trivial, v, hme, hv, by omega, by have := R.next; omega⟩
    · obtain ⟨g1, v', g2, g3, g4, g5⟩ := R.each e he h
      exact ⟨g1, v', g2, g3, by omega, g5⟩
  · rcases List.mem_cons.1 he with e1 | he2
    · rcases List.mem_cons.1 hf with e2 | hf2
      · subst e1; subst e2; rfl
      · obtain ⟨g1, v', g2, g3, g4, g5⟩ := R.each f hf2 c2
        rw [e1, hme] at hx; rw [g2] at hy
        cases hx; cases hy
        omega
    · rcases List.mem_cons.1 hf with e2 | hf2
      · obtain ⟨g1, v', g2, g3, g4, g5⟩ := R.each e he2 c1
        rw [e2, hme] at hy; rw [g2] at hx
        cases hx; cases hy
        omega
      · exact R.inj e he2 f hf2 c1 c2 x y hx hy heq

theorem layAllocs_spec {P : Program} : ∀ (pl : List DOp) (gs : List (List AV × Nat)) (V : Tr AV) (st : St) (V0 : Tr AV) (st0 : St), layAllocs P pl gs V st = some (V0, st0) → (∀ pre d q, pl = pre ++ d :: q → ∀ e ∈ pre, e.idx ≠ d.idx) → Laid P pl V st V0 st0
  | [], gs, V, st, V0, st0, h, _ => by
    simp only [layAllocs] at h
    cases h
    exact ⟨Nat.le_refl _, rfl, fun _ _ => rfl, fun _ _ => rfl, (fun d hd => by cases hd), (fun d hd => by cases hd), fun _ _ _ _ h => h⟩
  | d :: r, gs, V, st, V0, st0, h, hap => by
    have hap' : ∀ pre e q, r = pre ++ e :: q → ∀ x ∈ pre, x.idx ≠ e.idx := fun pre e q heq x hx => hap (d :: pre) e q (by rw [heq]; rfl) x (List.mem_cons_of_mem _ hx)
    have hne : ∀ e ∈ r, d.idx ≠ e.idx := fun e he => by
      obtain ⟨p, q, heq⟩ := List.append_of_mem he
      exact hap (d :: p) e q (by rw [heq]; rfl) d List.mem_cons_self
    by_cases h3 : d.cl = 3
    · rw [layAllocs, show Nat.beq d.cl 3 = true from beq_iff'.2 h3, cond_true] at h
      split at h
      · rename_i t hop
        obtain ⟨v, st1, h1, h2⟩ := obind2_elim h
        obtain ⟨z, hz, h1⟩ := obind_elim (show obind (zeroT P t) (aNewVar st) = some (v, st1) from h1)
        unfold aNewVar at h1
        cases hok : allOk (acells z) with
        | false => rw [hok] at h1; cases h1
        | true =>
          rw [hok] at h1
          cases h1
          exact Laid.cons h3 hne (.inl ⟨t, z, hop, hz, rfl⟩) rfl (layAllocs_spec r gs _ _ V0 st0 h2 hap')
      · rename_i t n parts hop
        split at h
        · rename_i g gs'
          exact Laid.cons h3 hne (.inr ⟨t, n, parts, g.2, hop, rfl⟩) rfl (layAllocs_spec r gs' _ _ V0 st0 h hap')
        · cases h
      · cases h
    · have hb : Nat.beq d.cl 3 = false := by cases hb : Nat.beq d.cl 3 with | false => rfl | true => exact absurd (beq_iff'.1 hb) h3
      simp only [layAllocs, hb, cond_false] at h
      have R := layAllocs_spec r gs V st V0 st0 h hap'
      refine ⟨R.next, R.wmin, R.old, fun j hj => R.keys j fun e he => hj e (List.mem_cons_of_mem _ he), fun e he h => ?_, fun e he f hf c1 c2 x y hx hy heq => ?_, R.rs⟩
      · rcases List.mem_cons.1 he with e1 | he
        · subst e1; exact absurd h h3
        · exact R.each e he h
      · rcases List.mem_cons.1 he with e1 | he
        · subst e1; exact absurd c1 h3
        · rcases List.mem_cons.1 hf with e2 | hf
          · subst e2; exact absurd c2 h3
          · exact R.inj e he f hf c1 c2 x y hx hy heq

/-- a new variable that was laid ahead is made -/
theorem RS.adopt {n0 : Nat} {w0 : World} {μ : Mu} {st : St} {w : World} (h : RS n0 w0 μ st w) {o : Nat} {c : Tr AV} {esz : Nat} {cs : Array Value} {el : TypeId} (hn : μ o = none) (hlt : o < st.next)
    (hob : st.heap.get o = some (.cells c cs.size esz false 0)) (hv : vrL μ (rd c 0 cs.size) cs.toList) : RS n0 w0 (μ.add o ⟨w.heap.size, 0, 0, esz, cs.size⟩) st (pushed w (.cells cs el)) := by
  have hext : Ext μ (μ.add o ⟨w.heap.size, 0, 0, esz, cs.size⟩) := Mu.add_ext _ hn
  refine ⟨fun a ha => by rw [Mu.add_ne _ _ (by omega)]; exact h.fresh a ha, fun a p hp => ?_, fun a p ob hp ho => ?_, fun a p ob hp ho hf => ?_, fun a a' p p' ob ob' hne hp hp' ho ho' hl hl' he => ?_, ?_, by rw [pushed_size]; have := h.pos; omega, h.wle, ?_⟩
  · rw [pushed_size]
    by_cases e : a = o
    · subst e; rw [Mu.add_same] at hp; cases hp; exact Nat.lt_succ_self _
    · rw [Mu.add_ne _ _ e] at hp; have := h.blk a p hp; omega
  · by_cases e : a = o
    · subst e; rw [Mu.add_same] at hp; cases hp
      rw [hob] at ho; cases ho
      refine ⟨cs, el, (0, 0), pushed_new _ _, rfl, rfl, fun _ => noFrz_none _ _, fun k _ hk => ?_⟩
      have e0 : (⟨w.heap.size, 0, 0, esz, cs.size⟩ : Place).at_ k = k := by simp [Place.at_]
      obtain ⟨v, v1, v2⟩ := vrL_get _ _ hv k _ (rd_get _ _ _ _ hk)
      rw [Nat.zero_add] at v2
      exact ⟨v, by rw [e0]; simpa using v1, vr_ext hext _ _ v2⟩
    · rw [Mu.add_ne _ _ e] at hp
      exact ORel_ext hext (ORel_heap (pushed_old (h.blk a p hp)) (h.obj a p ob hp ho))
  · by_cases e : a = o
    · subst e; rw [Mu.add_same] at hp; cases hp; exact h.pos
    · rw [Mu.add_ne _ _ e] at hp; exact h.own a p ob hp ho hf
  · by_cases e : a = o
    · subst e; rw [Mu.add_same] at hp; cases hp
      rw [Mu.add_ne _ _ (Ne.symm hne)] at hp'
      have := h.blk a' p' hp'
      have he : w.heap.size = p'.blk := he
      omega
    · rw [Mu.add_ne _ _ e] at hp
      by_cases e' : a' = o
      · subst e'; rw [Mu.add_same] at hp'; cases hp'
        have := h.blk a p hp
        have he : p.blk = w.heap.size := he
        omega
      · rw [Mu.add_ne _ _ e'] at hp'
        exact h.apart a a' p p' ob ob' hne hp hp' ho ho' hl hl' he
  · refine ⟨h.below.os, h.below.tape, h.below.output, by rw [pushed_size]; have := h.below.size; omega, fun i hi => ?_⟩
    rw [pushed_old (by have := h.pos; omega)]; exact h.below.block i hi
  · refine h.x.move rfl (Nat.le_refl _) (fun b hb _ => pushed_old hb) fun a p ob h1 h2 h3 => ?_
    have h1 : μ.add o ⟨w.heap.size, 0, 0, esz, cs.size⟩ a = some p := h1
    by_cases e : a = o
    · subst e; rw [Mu.add_same] at h1; cases h1; rw [hob] at h2; cases h2; exact .inl ⟨Nat.le_refl _, rfl⟩
    · rw [Mu.add_ne _ _ e] at h1; exact .inr ⟨a, p, ob, h1, h2, h3, rfl, rfl⟩
end Go.Proofs.Ytkccnomdfkhfnaa.Ev
