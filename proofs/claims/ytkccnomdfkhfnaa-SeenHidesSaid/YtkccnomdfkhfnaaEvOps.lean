/- What functions of the program compute, written down; read off their code. -/
import Derived.Test.YtkccnomdfkhfnaaEvCall
set_option linter.unusedSimpArgs false
set_option linter.unusedVariables false
namespace Go.Proofs.Ytkccnomdfkhfnaa.Ev
open Go.RowKit

/-! ## regions that keep the order of the text -/
/-- the slots known outside of regions: those of the mask alone -/
structure TmRel (X nt : Nat) (μ : Mu) (tm : Tr AV) (tmps : Array Value) : Prop where
  size : nt ≤ tmps.size
  rel : ∀ t av, tm.get t = some av → bit X t = true ∧ vr μ av (tmps.getD t undef)

/-- the slots within a region -/
structure LeRel (X nt : Nat) (μ : Mu) (tm : Tr AV) (loc : List (Option Nat)) (le : List AV) (tmps : Array Value) : Prop where
  size : nt ≤ tmps.size
  len : le.length = loc.length
  here : ∀ t j av, posOf t loc 0 = some j → lget le j = some av → vr μ av (tmps.getD t undef)
  there : ∀ t av, posOf t loc 0 = none → tm.get t = some av → bit X t = true ∧ vr μ av (tmps.getD t undef)

theorem TmRel.ext {X nt : Nat} {μ μ' : Mu} {tm : Tr AV} {tmps : Array Value} (h : TmRel X nt μ tm tmps) (e : Ext μ μ') : TmRel X nt μ' tm tmps :=
  ⟨h.size, fun t av ht => ⟨(h.rel t av ht).1, vr_ext e _ _ (h.rel t av ht).2⟩⟩
theorem LeRel.ext {X nt : Nat} {μ μ' : Mu} {tm : Tr AV} {loc : List (Option Nat)} {le : List AV} {tmps : Array Value} (h : LeRel X nt μ tm loc le tmps) (e : Ext μ μ') : LeRel X nt μ' tm loc le tmps :=
  ⟨h.size, h.len, fun t j av h1 h2 => vr_ext e _ _ (h.here t j av h1 h2), fun t av h1 h2 => ⟨(h.there t av h1 h2).1, vr_ext e _ _ (h.there t av h1 h2).2⟩⟩
theorem TmRel.start {X nt : Nat} {μ : Mu} {tm : Tr AV} {tmps : Array Value} (h : TmRel X nt μ tm tmps) : LeRel X nt μ tm [] [] tmps :=
  ⟨h.size, rfl, fun t j av h1 _ => by simp [posOf] at h1, fun t av _ h2 => h.rel t av h2⟩

theorem posOf_shift (t : Nat) : ∀ (l : List (Option Nat)) (k : Nat), posOf t l (k + 1) = (posOf t l k).map (· + 1)
  | [], k => rfl
  | some u :: r, k => by
    simp only [posOf]
    cases Nat.beq u t with
    | true => rfl
    | false => exact posOf_shift t r (k + 1)
  | none :: r, k => by
    simp only [posOf]
    exact posOf_shift t r (k + 1)
theorem lget_succ (x : AV) (l : List AV) (j : Nat) : lget (x :: l) (j + 1) = lget l j := by
  rw [lget_cons]; rfl
theorem lget_zero (x : AV) (l : List AV) : lget (x :: l) 0 = some x := by rw [lget_cons]; rfl

theorem getD_put (tmps : Array Value) (t u : Nat) (v : Value) (h : u < tmps.size) : (tmps.setIfInBounds u v).getD t undef = if t = u then v else tmps.getD t undef := by
  by_cases e : t = u
  · subst e; simp [h]
  · rw [if_neg e]
    simp [Array.getElem?_setIfInBounds_ne (Ne.symm e)]

theorem LeRel.put {X nt : Nat} {μ : Mu} {tm : Tr AV} {loc : List (Option Nat)} {le : List AV} {a : Act} (h : LeRel X nt μ tm loc le a.tmps) {dst : Option Tmp} {av : AV} {v : Value}
    (hd : ∀ t, dst = some t → t < nt) (hv : vr μ av v) : LeRel X nt μ tm (dst :: loc) (av :: le) (a.put dst v).tmps := by
  cases dst with
  | none =>
    refine ⟨h.size, by simp [h.len], fun t j b h1 h2 => ?_, fun t b h1 h2 => ?_⟩
    · have h1 : posOf t loc (0 + 1) = some j := h1
      rw [posOf_shift] at h1
      cases hp : posOf t loc 0 with
      | none => rw [hp] at h1; cases h1
      | some k =>
        rw [hp] at h1
        cases h1
        rw [lget_succ] at h2
        exact h.here t k b hp h2
    · have h1 : posOf t loc (0 + 1) = none := h1
      rw [posOf_shift] at h1
      exact h.there t b (by cases hp : posOf t loc 0 with | none => rfl | some k => rw [hp] at h1; cases h1) h2
  | some u =>
    have hu : u < a.tmps.size := Nat.lt_of_lt_of_le (hd u rfl) h.size
    have hput : ∀ t, (a.put (some u) v).tmps.getD t undef = if t = u then v else a.tmps.getD t undef := fun t => getD_put a.tmps t u v hu
    refine ⟨by show nt ≤ (a.tmps.setIfInBounds u v).size; rw [Array.size_setIfInBounds]; exact h.size, by simp [h.len], fun t j b h1 h2 => ?_, fun t b h1 h2 => ?_⟩
    · rw [hput]
      have h1 : (bif Nat.beq u t then some 0 else posOf t loc (0 + 1)) = some j := h1
      cases hb : Nat.beq u t with
      | true =>
        rw [hb] at h1
        cases h1
        rw [beq_iff'] at hb
        rw [if_pos hb.symm]
        rw [lget_zero] at h2; cases h2; exact hv
      | false =>
        rw [hb, cond_false, posOf_shift] at h1
        have hne : t ≠ u := fun e => by rw [beq_iff'.2 e.symm] at hb; cases hb
        rw [if_neg hne]
        cases hp : posOf t loc 0 with
        | none => rw [hp] at h1; cases h1
        | some k =>
          rw [hp] at h1
          cases h1
          rw [lget_succ] at h2
          exact h.here t k b hp h2
    · have h1 : (bif Nat.beq u t then some 0 else posOf t loc (0 + 1)) = none := h1
      cases hb : Nat.beq u t with
      | true => rw [hb] at h1; cases h1
      | false =>
        rw [hb, cond_false, posOf_shift] at h1
        have hne : t ≠ u := fun e => by rw [beq_iff'.2 e.symm] at hb; cases hb
        rw [hput, if_neg hne]
        exact h.there t b (by cases hp : posOf t loc 0 with | none => rfl | some k => rw [hp] at h1; cases h1) h2

theorem LeRel.od {X nt : Nat} {μ : Mu} {tm : Tr AV} {loc : List (Option Nat)} {le : List AV} {a : Act} (h : LeRel X nt μ tm loc le a.tmps) : OdRel μ (evOd le tm) (odOf loc) a.eval := by
  intro x av hx
  cases x with
  | tmp t =>
    simp only [odOf] at hx
    cases hp : posOf t loc 0 with
    | none => rw [hp] at hx; exact (h.there t av hp hx).2
    | some j => rw [hp] at hx; exact h.here t j av hp hx
  | const v =>
    simp only [odOf] at hx
    cases hc : cv 6 v with
    | none => rw [hc] at hx; cases hx
    | some b => rw [hc] at hx; cases hx; exact cv_vr _ _ _ hc
  | global g => cases hx
  | func f =>
    cases hx
    simp only [vr]
    exact ⟨[], [], rfl, by simp only [vrL], by simp only [vrL]⟩

theorem gdVal_sound {μ : Mu} {want r : Bool} {av : AV} {tmps : Array Value} {t : Nat} (h : gdVal want av = some r) (hv : vr μ av (tmps.getD t undef)) :
    ((match tmps[t]? with | some (.bool b) => some b | _ => none) == some want) = r := by
  cases av <;> simp only [gdVal] at h <;> try (cases h; done)
  · rename_i b
    simp only [vr] at hv
    cases h
    cases ht : tmps[t]? with
    | none => simp [ht, undef] at hv
    | some v =>
      have : v = .bool b := by simpa [ht] using hv
      subst this
      rfl
  · simp only [vr] at hv
    obtain ⟨xs, hv, _⟩ := hv
    cases h
    cases ht : tmps[t]? with
    | none => rfl
    | some v =>
      have : v = .tuple ⟨xs⟩ := by simpa [ht] using hv
      subst this
      rfl

theorem LeRel.gd {X nt : Nat} {μ : Mu} {tm : Tr AV} {loc : List (Option Nat)} {le : List AV} {a : Act} (h : LeRel X nt μ tm loc le a.tmps) {ops : Array Oper} {o : Oper} {r : Bool}
    (hg : evGd (evOd le tm) (gdOf ops loc o.guard) = some r) : Region.wanted o (yielded ops a.tmps) = r := by
  unfold Region.wanted
  cases hgd : o.guard with
  | none => rw [hgd] at hg; cases hg; rfl
  | some p =>
    obtain ⟨j, want⟩ := p
    rw [hgd] at hg
    unfold gdOf at hg
    simp only [] at hg ⊢
    unfold yielded
    rw [show ops[j]? = ops.toList[j]? from by simp]
    cases ht : (ops.toList[j]?).bind (·.dst) with
    | none => rw [ht] at hg; cases hg
    | some t =>
      rw [ht] at hg
      obtain ⟨av, h1, h2⟩ := obind_elim (show obind (evOd le tm (odOf loc (.tmp t))) (gdVal want) = some r from hg)
      exact gdVal_sound h2 (h.od (.tmp t) av h1)

theorem cls_cases (P : Program) (o : Op) : cls P o = 0 ∨ cls P o = 1 ∨ cls P o = 2 := by
  unfold cls
  repeat' split
  all_goals simp

/-- one operation -/
theorem sem_sound {P : Program} {cf : CallF} (hcf : CFSound P cf) {n0 : Nat} {w0 : World} {μ : Mu} {st st' : St} {w : World} (h : RS n0 w0 μ st w) {ev : Od → Option AV} {od : Operand → Od} {o : Oper} {a : Act} {r : AV}
    (hr : OdRel μ ev od a.eval) (hs : sem P cf o.op o.type (cls P o.op) ev (o.op.operands.toList.map od) st = some (r, st')) (hC : AllP st'.x.cs) {next : Act → World → Prop} {Q : Exit → Act → World → Prop}
    (hk : ∀ μ' w' v, Post n0 w0 μ st μ' st' w' → vr μ' r v → next (a.put o.dst v) w') : o.wp P a w next Q := by
  unfold sem at hs
  rcases cls_cases P o.op with hc | hc | hc
  · rw [hc] at hs
    obtain ⟨av, c, h1, h2⟩ := obind2_elim (show obind2 (semP2 P o.op o.type ev _) (keepC st) = some (r, st') from hs)
    cases h2
    rw [addC_cs] at hC
    obtain ⟨v, e1, e2⟩ := semP2_sound hr h1 hC.app.1 w
    unfold Oper.wp; rw [e1]
    exact hk μ w v ((Post.refl h).addC c) e2
  · rw [hc] at hs
    obtain ⟨av, c, h1, h2⟩ := obind2_elim (show obind2 (semR2 P o.op ev _ st) (keepC st) = some (r, st') from hs)
    cases h2
    obtain ⟨v, e1, e2⟩ := semR2_sound h hr h1 hc
    unfold Oper.wp; rw [e1]
    exact hk μ w v ((Post.refl h).addC c) e2
  · rw [hc] at hs
    exact semA2_sound hcf h hr hs hC hc hk

theorem ask_post {n0 : Nat} {w0 : World} {μ : Mu} {st st' : St} {w : World} (h : RS n0 w0 μ st w) {c d : Bool} (ha : ask c st = some (d, st')) : Post n0 w0 μ st μ st' w := by
  obtain ⟨_, h1, h2, h3, h4⟩ := ask_ok ha
  exact (Post.refl h).congr ⟨fun o => by rw [h1], h2.symm, h3.symm, h4.symm⟩
theorem LeRel.gdS {X nt n0 : Nat} {w0 : World} {μ : Mu} {tm : Tr AV} {loc : List (Option Nat)} {le : List AV} {a : Act} {st st' : St} {w : World} (hR : RS n0 w0 μ st w) (h : LeRel X nt μ tm loc le a.tmps) {ops : Array Oper} {o : Oper} {r : Bool}
    (hg : evGdS (evOd le tm) (gdOf ops loc o.guard) st = some (r, st')) (hC : AllP st'.x.cs) : Region.wanted o (yielded ops a.tmps) = r ∧ Post n0 w0 μ st μ st' w := by
  unfold Region.wanted
  unfold evGdS at hg
  cases hgd : o.guard with
  | none => rw [hgd] at hg; cases hg; exact ⟨rfl, Post.refl hR⟩
  | some p =>
    obtain ⟨j, want⟩ := p
    rw [hgd] at hg
    unfold gdOf at hg
    simp only [] at hg ⊢
    unfold yielded
    rw [show ops[j]? = ops.toList[j]? from by simp]
    cases ht : (ops.toList[j]?).bind (·.dst) with
    | none => rw [ht] at hg; cases hg
    | some t =>
      rw [ht] at hg
      obtain ⟨av, h1, h2⟩ := obind_elim (show obind (evOd le tm (odOf loc (.tmp t))) (fun v => gdAsk want v st) = some (r, st') from hg)
      have hv := h.od (.tmp t) av h1
      unfold gdAsk at h2
      split at h2
      · rename_i c
        obtain ⟨d, st2, h3, h4⟩ := obind2_elim h2
        cases h4
        have hc := (ask_ok h3).1
        rw [hc] at hC
        have hcd : c = d := hC.cons.1
        refine ⟨?_, ask_post hR h3⟩
        have hv : a.tmps.getD t undef = .bool c := vr_x.1 hv
        cases ht2 : a.tmps[t]? with
        | none => simp [ht2, undef] at hv
        | some v =>
          have : v = .bool c := by simpa [ht2] using hv
          subst this
          subst hcd
          show ((match a.tmps[t]? with | some (.bool b) => some b | _ => none) == some want) = _
          rw [ht2]
          rfl
      · obtain ⟨b, h3, h4⟩ := obind_elim h2
        cases h4
        exact ⟨gdVal_sound h3 hv, Post.refl hR⟩

theorem setB_len (d : Bool) : ∀ (l : List AV) (j : Nat), (setB d l j).length = l.length
  | [], j => rfl
  | a :: r, j => by
    simp only [setB, bsel_eq]
    split
    · rfl
    · rw [List.length_cons, List.length_cons, setB_len d r]
theorem setB_get (d : Bool) : ∀ (l : List AV) (j i : Nat) (av : AV), lget (setB d l j) i = some av → lget l i = some av ∨ (i = j ∧ av = .b d)
  | [], j, i, av, h => .inl h
  | a :: r, j, i, av, h => by
    simp only [setB] at h
    rw [bsel_eq] at h
    by_cases hj : Nat.beq j 0 = true
    · rw [if_pos hj] at h
      rw [lget_cons, bsel_eq] at h ⊢
      by_cases hi : Nat.beq i 0 = true
      · rw [if_pos hi] at h
        cases h
        exact .inr ⟨by rw [beq_iff'.1 hi, beq_iff'.1 hj], rfl⟩
      · rw [if_neg hi] at h ⊢; exact .inl h
    · rw [if_neg hj] at h
      rw [lget_cons, bsel_eq] at h ⊢
      by_cases hi : Nat.beq i 0 = true
      · rw [if_pos hi] at h ⊢; exact .inl h
      · rw [if_neg hi] at h ⊢
        have hi' : i ≠ 0 := fun q => hi (beq_iff'.2 q)
        have hj' : j ≠ 0 := fun q => hj (beq_iff'.2 q)
        exact (setB_get d r _ _ av h).imp id fun ⟨q1, q2⟩ => ⟨by rw [sub_eq', sub_eq'] at q1; omega, q2⟩
theorem LeRel.fix {X nt : Nat} {μ : Mu} {tm : Tr AV} {loc : List (Option Nat)} {le : List AV} {tmps : Array Value} {st st' : St} (h : LeRel X nt μ tm loc le tmps) {gd : Option (Od × Bool)} {g : Bool}
    (hg : evGdS (evOd le tm) gd st = some (g, st')) (hC : AllP st'.x.cs) : LeRel X nt μ tm loc (fixG le gd g) tmps := by
  unfold fixG
  split
  · rename_i j want
    split
    · rename_i c hc
      have hg : obind (lget le j) (fun v => gdAsk want v st) = some (g, st') := hg
      rw [hc] at hg
      have hg : obind2 (ask c st) (fun d st' => some (d == want, st')) = some (g, st') := hg
      obtain ⟨d, st2, h3, h4⟩ := obind2_elim hg
      cases h4
      have hq := (ask_ok h3).1
      rw [hq] at hC
      have hcd : c = d := hC.cons.1
      have hd : ((d == want) == want) = d := by cases d <;> cases want <;> rfl
      rw [hd]
      refine ⟨h.size, by rw [setB_len]; exact h.len, fun t i av h1 h2 => ?_, h.there⟩
      rcases setB_get _ _ _ _ _ h2 with e | ⟨rfl, rfl⟩
      · exact h.here t i av h1 e
      · have := h.here t i _ h1 hc
        have this : tmps.getD t undef = .bool c := vr_x.1 this
        rw [this, hcd]
        simp only [vr]
    · exact h
  · exact h

theorem dstsIn_cons {nt : Nat} {o : Oper} {r : List Oper} (h : dstsIn nt (o :: r) = true) : (∀ t, o.dst = some t → t < nt) ∧ dstsIn nt r = true := by
  simp only [dstsIn, Bool.and_eq_true] at h
  refine ⟨fun t ht => ?_, h.2⟩
  have := h.1
  rw [ht] at this
  exact blt_iff.1 this

theorem put_defers' (a : Act) (d : Option Tmp) (v : Value) : (a.put d v).defers = a.defers := by cases d <;> rfl

theorem evOps_sound {P : Program} {cf : CallF} (hcf : CFSound P cf) {n0 : Nat} {w0 : World} {X nt : Nat} {tm : Tr AV} {ops : Array Oper} {Q : Exit → Act → World → Prop} {st' : St} {le' : List AV} (hC : AllP st'.x.cs) :
    ∀ (r : List Oper) (i : Nat) (loc : List (Option Nat)) (le : List AV) (μ : Mu) (st : St) (a : Act) (w : World), ops.toList.drop i = r → dstsIn nt r = true → RS n0 w0 μ st w → LeRel X nt μ tm loc le a.tmps →
      evOps P cf tm (iops P ops r loc) le st = some (le', st') →
      (∀ μ' a' w', Post n0 w0 μ st μ' st' w' → a'.defers = a.defers → LeRel X nt μ' tm ((r.map (·.dst)).reverse ++ loc) le' a'.tmps → Q .normal a' w') → wpOps P ops Q (List.range' i r.length) a w
  | [], i, loc, le, μ, st, a, w, hdrop, hd, h, hl, hev, hk => by
    rw [iops, evOps_nil] at hev
    cases hev
    show Q .normal a w
    exact hk μ a w (Post.refl h) rfl (by simpa using hl)
  | o :: r, i, loc, le, μ, st, a, w, hdrop, hd, h, hl, hev, hk => by
    obtain ⟨hd1, hd2⟩ := dstsIn_cons hd
    have ho : ops[i]? = some o := by
      have : ops.toList[i]? = some o := by
        have := congrArg (fun l => l[0]?) hdrop
        simpa using this
      simpa using this
    have hdrop' : ops.toList.drop (i + 1) = r := by
      have := congrArg List.tail hdrop
      simpa using this
    rw [iops, evOps_cons] at hev
    obtain ⟨g, st0, hg, hev⟩ := obind2_elim hev
    have hgr : Gr st0 st' := by
      rcases bsel_some hev with ⟨_, hev2⟩ | ⟨_, hev2⟩
      · obtain ⟨v, st1, hs, hev3⟩ := obind2_elim hev2
        exact (sem_xp hcf.grow _ _ hs).trans (evOps_gr hcf.grow _ _ _ _ _ hev3)
      · exact evOps_gr hcf.grow _ _ _ _ _ hev2
    obtain ⟨hw, hp0⟩ := hl.gdS h hg (hgr.all hC)
    have hl := hl.fix hg (hgr.all hC)
    generalize fixG le (gdOf ops loc o.guard) g = le at hl hev
    show wpOps P ops Q (List.range' i (r.length + 1)) a w
    rw [List.range'_succ]
    simp only [wpOps, ho, hw]
    rcases bsel_some hev with ⟨hgt, hev2⟩ | ⟨hgf, hev2⟩
    · subst hgt
      rw [if_pos rfl]
      left
      obtain ⟨v, st1, hs, hev3⟩ := obind2_elim hev2
      refine sem_sound hcf hp0.rs hl.od hs ((evOps_gr hcf.grow _ _ _ _ _ hev3).all hC) fun μ' w' u hp hu => ?_
      refine evOps_sound hcf hC r (i + 1) (o.dst :: loc) (v :: le) μ' st1 _ w' hdrop' hd2 hp.rs ((hl.ext hp.ext).put hd1 hu) hev3 fun μ'' a'' w'' hp' hde hl' => ?_
      refine hk μ'' a'' w'' ((hp0.trans hp).trans hp') (by rw [hde, put_defers']) ?_
      simpa [List.append_assoc] using hl'
    · subst hgf
      rw [if_neg (by simp)]
      refine evOps_sound hcf hC r (i + 1) (o.dst :: loc) (undefA :: le) μ st0 _ w hdrop' hd2 hp0.rs (hl.put hd1 (undefA_vr μ)) hev2 fun μ'' a'' w'' hp' hde hl' => ?_
      refine hk μ'' a'' w'' (hp0.trans hp') (by rw [hde, put_defers']) ?_
      simpa [List.append_assoc] using hl'

/-! ### what is known behind the region -/
theorem exps_mem {X : Nat} : ∀ (loc : List (Option Nat)) (k t j : Nat), (t, j) ∈ exps X loc k → bit X t = true
  | [], k, t, j, h => by simp [exps] at h
  | some u :: r, k, t, j, h => by
    simp only [exps] at h
    cases hb : bit X u with
    | true =>
      rw [hb, cond_true] at h
      rcases List.mem_cons.1 h with e | h
      · cases e; exact hb
      · exact exps_mem r _ t j h
    | false => rw [hb, cond_false] at h; exact exps_mem r _ t j h
  | none :: r, k, t, j, h => by simp only [exps] at h; exact exps_mem r _ t j h

/-- a slot's first mention in the list stands -/
theorem export_get {le : List AV} {tm : Tr AV} {X : Nat} : ∀ (loc : List (Option Nat)) (k : Nat) (tm' : Tr AV), export_ le tm (exps X loc k) = some tm' → ∀ t,
    (bit X t = true → ∀ j, posOf t loc k = some j → tm'.get t = lget le j) ∧ ((bit X t = false ∨ posOf t loc k = none) → tm'.get t = tm.get t)
  | [], k, tm', h, t => by
    simp only [exps] at h
    rw [export_nil] at h
    cases h
    exact ⟨fun _ j hj => by simp [posOf] at hj, fun _ => rfl⟩
  | some u :: r, k, tm', h, t => by
    simp only [exps] at h
    cases hb : bit X u with
    | true =>
      rw [hb, cond_true, export_cons] at h
      obtain ⟨v, h1, h⟩ := obind_elim h
      obtain ⟨tm2, h2, h⟩ := obind_elim h
      cases h
      obtain ⟨g1, g2⟩ := export_get r (k + 1) tm2 h2 t
      rw [Tr.get_set]
      have hp : posOf t (some u :: r) k = bif Nat.beq u t then some k else posOf t r (k + 1) := rfl
      rw [hp]
      by_cases e : t = u
      · subst e
        rw [if_pos rfl, show Nat.beq t t = true from beq_iff'.2 rfl, cond_true]
        refine ⟨fun _ j hj => ?_, fun hh => ?_⟩
        · cases hj; exact h1.symm
        · rcases hh with hh | hh
          · rw [hb] at hh; cases hh
          · cases hh
      · rw [if_neg e]
        have : Nat.beq u t = false := by cases hc : Nat.beq u t with | false => rfl | true => exact absurd (beq_iff'.1 hc).symm e
        rw [this, cond_false]
        exact ⟨g1, g2⟩
    | false =>
      rw [hb, cond_false] at h
      obtain ⟨g1, g2⟩ := export_get r (k + 1) tm' h t
      have hp : posOf t (some u :: r) k = bif Nat.beq u t then some k else posOf t r (k + 1) := rfl
      rw [hp]
      by_cases e : t = u
      · subst e
        exact ⟨(fun hx => by rw [hb] at hx; cases hx), fun _ => g2 (.inl hb)⟩
      · have : Nat.beq u t = false := by cases hc : Nat.beq u t with | false => rfl | true => exact absurd (beq_iff'.1 hc).symm e
        rw [this, cond_false]
        exact ⟨g1, g2⟩
  | none :: r, k, tm', h, t => by
    simp only [exps] at h
    exact export_get r (k + 1) tm' h t

theorem LeRel.out {X nt : Nat} {μ : Mu} {tm tm' : Tr AV} {loc : List (Option Nat)} {le : List AV} {tmps : Array Value} (h : LeRel X nt μ tm loc le tmps) (hx : ∀ t av, tm.get t = some av → bit X t = true) (he : export_ le tm (exps X loc 0) = some tm') : TmRel X nt μ tm' tmps := by
  refine ⟨h.size, fun t av ht => ?_⟩
  obtain ⟨g1, g2⟩ := export_get loc 0 tm' he t
  cases hb : bit X t with
  | false => rw [g2 (.inl hb)] at ht; have := hx t av ht; rw [hb] at this; cases this
  | true =>
    refine ⟨rfl, ?_⟩
    cases hp : posOf t loc 0 with
    | none => rw [g2 (.inr hp)] at ht; exact (h.there t av hp ht).2
    | some j => rw [g1 hb j hp] at ht; exact h.here t j av hp ht

end Go.Proofs.Ytkccnomdfkhfnaa.Ev
