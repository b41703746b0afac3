/- What functions of the program compute, written down; read off their code. -/
import Derived.Test.YtkccnomdfkhfnaaEvLoop
import Derived.Test.YtkccnomdfkhfnaaEvSpec
set_option linter.unusedSimpArgs false
set_option linter.unusedVariables false
namespace Go.Proofs.Ytkccnomdfkhfnaa.Ev
open Go.RowKit

/-! ## a loop by a rule -/
/-- a way out of a loop: which exit (none: the function is left), the shape there, when, and with what -/
structure Alt (A : Type) where
  kind : Option Nat
  sh : Shape
  cond : A → Bool
  g : A → sh.T
noncomputable def Alt.res {A : Type} (a : Alt A) (x : A) (cs : List Prop) (orc : List Bool) : Res :=
  Option.rec (motive := fun _ => Res) (.rt (a.sh.tm (a.g x)) (a.sh.st (a.g x) cs orc)) (fun id => .ex id (a.sh.tm (a.g x)) (a.sh.st (a.g x) cs orc)) a.kind
/-- the oracle says which way out it is; what it says is noted -/
noncomputable def pickAlt {A : Type} (x : A) : List (Alt A) → List Prop → List Bool → Res
  | [], _, _ => .no
  | a :: r, cs, orc => match r with
    | [] => a.res x cs orc
    | _ :: _ => match orc with
      | [] => .no
      | true :: o => a.res x ((a.cond x = true) :: cs) o
      | false :: o => pickAlt x r ((a.cond x = false) :: cs) o
def picked {A : Type} (x : A) : List (Alt A) → Option (Alt A)
  | [] => none
  | a :: r => match r with
    | [] => some a
    | _ :: _ => bif a.cond x then some a else picked x r
noncomputable def lspec (sh : Shape) (inv : sh.T → Prop) (alts : List (Alt sh.T)) : LSpec := fun tm st =>
  match sh.norm tm st with
  | none => .no
  | some x => pickAlt x alts (inv x :: st.x.cs) st.x.orc

theorem pickAlt_elim {A : Type} {x : A} : ∀ {alts : List (Alt A)} {cs : List Prop} {orc : List Bool}, pickAlt x alts cs orc = .no ∨ ∃ a o c, pickAlt x alts cs orc = a.res x (c ++ cs) o ∧ ((∀ p ∈ c, p) → picked x alts = some a)
  | [], cs, orc => .inl rfl
  | [a], cs, orc => .inr ⟨a, orc, [], rfl, fun _ => rfl⟩
  | a :: b :: r, cs, [] => .inl rfl
  | a :: b :: r, cs, true :: o => .inr ⟨a, o, [a.cond x = true], rfl, fun h => by
    have := h _ (List.mem_singleton.2 rfl)
    show (bif a.cond x then some a else _) = _
    rw [this]; rfl⟩
  | a :: b :: r, cs, false :: o => (pickAlt_elim (alts := b :: r) (cs := (a.cond x = false) :: cs) (orc := o)).imp id fun ⟨d, o', c, h1, h2⟩ => ⟨d, o', c ++ [a.cond x = false], by rw [List.append_assoc]; exact h1, fun h => by
    have := h (a.cond x = false) (by simp)
    show (bif a.cond x then some a else _) = _
    rw [this]
    exact h2 fun p hp => h p (List.mem_append_left _ hp)⟩

theorem lspec_gr {sh : Shape} {inv : sh.T → Prop} {alts : List (Alt sh.T)} (tm : Tr AV) (st : St) : ResGr st (lspec sh inv alts tm st) := by
  unfold lspec
  cases sh.norm tm st with
  | none => trivial
  | some x =>
    dsimp only
    rcases pickAlt_elim (x := x) (cs := inv x :: st.x.cs) (alts := alts) (orc := st.x.orc) with h | ⟨a, o, c, h, _⟩
    · rw [h]; trivial
    · rw [h]
      obtain ⟨kind, s, cond, g⟩ := a
      have hg : Gr st (s.st (g x) (c ++ inv x :: st.x.cs) o) := ⟨c ++ [inv x], by simp [Shape.st, St.x]⟩
      cases kind with
      | none => exact hg
      | some id => exact hg

/-- one round -/
def StepOk (sh : Shape) (inv : sh.T → Prop) (alts : List (Alt sh.T)) (m : sh.T → Nat) (x : sh.T) : Res → Prop
  | .no => False
  | .ok tm st => AllP st.x.cs ∧ ∃ x', sh.norm tm st = some x' ∧ inv x' ∧ m x' < m x ∧ ∀ b, picked x alts = some b → picked x' alts = some b ∧ b.g x' = b.g x
  | .ex id tm st => AllP st.x.cs ∧ ∀ b, picked x alts = some b → b.kind = some id ∧ b.sh.norm tm st = some (b.g x)
  | .rt tm st => AllP st.x.cs ∧ ∀ b, picked x alts = some b → b.kind = none ∧ b.sh.norm tm st = some (b.g x)

section
variable {P : Program} {cf : CallF} {X nt : Nat}
theorem lspec_ok (hcf : CFSound P cf) (hdr : DrawSound P cf) {lf : Nat} {ls : Nat → Option LSpec} {k : Nat} {cl : Code} (hl : LoopsOk P true X nt ls (k + 1) cl) {sh : Shape} {inv : sh.T → Prop} {alts : List (Alt sh.T)} (m : sh.T → Nat)
    (hstep : ∀ x, inv x → ∃ orc, StepOk sh inv alts m x (evI P cf lf ls (comp P X nt (k + 1) cl) (sh.tm x) (sh.st x [] orc))) : LoopOk P X nt cl (lspec sh inv alts) := by
  intro n0 w0 μ0 tm0 st0 a0 w Q h0 ht0 hE
  unfold lspec at hE
  cases hn : sh.norm tm0 st0 with
  | none => rw [hn] at hE; exact hE.elim
  | some x =>
  rw [hn] at hE
  dsimp only at hE
  rcases pickAlt_elim (x := x) (cs := inv x :: st0.x.cs) (alts := alts) (orc := st0.x.orc) with hp | ⟨b, o, c, hp, hb⟩
  · rw [hp] at hE; exact hE.elim
  rw [hp] at hE
  -- what is wanted at the way out
  have hq : AllP (c ++ inv x :: st0.x.cs) ∧ ∀ μ' a' w', PostL true n0 w0 μ0 st0 μ' (b.sh.st (b.g x) (c ++ inv x :: st0.x.cs) o) w' → a'.defers = a0.defers → TmRel X nt μ' (b.sh.tm (b.g x)) a'.tmps → Q (b.kind.elim .ret .exit) a' w' := by
    obtain ⟨kind, s, cond, g⟩ := b
    cases kind with
    | none => exact hE
    | some id => exact hE
  clear hE hp
  obtain ⟨hall, hq⟩ := hq
  have hinv : inv x := hall _ (by simp)
  have hb := hb fun p hp => hall p (by simp [hp])
  clear hall
  generalize hgx : b.g x = y at hq
  generalize (c ++ inv x :: st0.x.cs) = cs at hq
  have key : ∀ (n : Nat) (x : sh.T) (tm : Tr AV) (st : St) (μ : Mu) (a : Act) (w : World), m x < n → inv x → picked x alts = some b → b.g x = y → RS n0 w0 μ st w → TmRel X nt μ tm a.tmps → sh.norm tm st = some x →
      FzExt μ0.fz μ.fz → μ.f0 = μ0.f0 → μ.kp = μ0.kp → a.defers = a0.defers → LoopW P cl Q a w := by
    intro n
    induction n with
    | zero => intro x tm st μ a w hm; omega
    | succ n ih =>
      intro x tm st μ a w hm hi hc hy h ht hn f1 f2 f3 hd
      obtain ⟨orc, hs⟩ := hstep x hi
      obtain ⟨μ1, r1, t1, e1, e2, e3⟩ := sh.norm_ok h ht hn [] orc
      refine LoopW.round (evI_sound (lf := lf) (ls := ls) hcf hdr cl (k + 1) (sh.tm x) (sh.st x [] orc) μ1 a w _ hl r1 t1 ?_)
      generalize evI P cf lf ls (comp P X nt (k + 1) cl) (sh.tm x) (sh.st x [] orc) = res at hs
      have out : ∀ (tm' : Tr AV) (st' : St) (μ' : Mu) (a' : Act) (w' : World), b.sh.norm tm' st' = some (b.g x) → PostL true n0 w0 μ1 (sh.st x [] orc) μ' st' w' → a'.defers = a.defers → TmRel X nt μ' tm' a'.tmps → Q (b.kind.elim .ret .exit) a' w' := by
        intro tm' st' μ' a' w' k1 g1 g2 g3
        rw [hy] at k1
        obtain ⟨μ2, r2, t2, d1, d2, d3⟩ := b.sh.norm_ok g1.rs g3 k1 cs o
        exact hq μ2 a' w' ⟨r2, ((f1.trans e1).trans g1.fz).trans d1, by rw [d2, g1.f0, e2, f2], by rw [d3, g1.kp, e3, f3], fun e => by cases e⟩ (by rw [g2, hd]) t2
      cases res with
      | no => exact hs
      | ok tm' st' =>
        obtain ⟨k1, x', k2, k3, k4, k5⟩ := hs
        obtain ⟨k6, k7⟩ := k5 b hc
        refine ⟨k1, fun μ' a' w' g1 g2 g3 => ?_⟩
        exact ih x' tm' st' μ' a' w' (by omega) k3 k6 (k7.trans hy) g1.rs g3 k2 ((f1.trans e1).trans g1.fz) (by rw [g1.f0, e2, f2]) (by rw [g1.kp, e3, f3]) (by rw [g2, hd])
      | ex id tm' st' =>
        obtain ⟨k1, k2⟩ := hs
        obtain ⟨k3, k4⟩ := k2 b hc
        refine ⟨k1, fun μ' a' w' g1 g2 g3 => ?_⟩
        have := out tm' st' μ' a' w' k4 g1 g2 g3
        rw [k3] at this
        exact this
      | rt tm' st' =>
        obtain ⟨k1, k2⟩ := hs
        obtain ⟨k3, k4⟩ := k2 b hc
        refine ⟨k1, fun μ' a' w' g1 g2 g3 => ?_⟩
        have := out tm' st' μ' a' w' k4 g1 g2 g3
        rw [k3] at this
        exact this
  exact key (m x + 1) x tm0 st0 μ0 a0 w (Nat.lt_succ_self _) hinv hb hgx h0 ht0 hn (FzExt.refl _) rfl rfl rfl
end

/-! ## all the loops of a function -/
theorem nthLoop_nth : ∀ (c : Code) (k : Nat) (cl : Code) (i : Nat) (c2 : Code), nthLoop c k = some cl → nthLoop cl i = some c2 → nthLoop c (k + 1 + i) = some c2
  | .seq a b, k, cl, i, c2, h, h2 => by
    have h : bsel (Nat.blt k (loopsIn a)) (nthLoop a k) (nthLoop b (Nat.sub k (loopsIn a))) = some cl := h
    show bsel (Nat.blt (k + 1 + i) (loopsIn a)) (nthLoop a (k + 1 + i)) (nthLoop b (Nat.sub (k + 1 + i) (loopsIn a))) = some c2
    rcases bsel_some h with ⟨h1, h3⟩ | ⟨h1, h3⟩
    · have := nthLoop_nth a k cl i c2 h3 h2
      rw [blt_iff.2 (nthLoop_lt a _ _ this), bsel_true]; exact this
    · have := nthLoop_nth b _ cl i c2 h3 h2
      have hk : ¬ k < loopsIn a := fun q => by rw [blt_iff.2 q] at h1; cases h1
      have : Nat.blt (k + 1 + i) (loopsIn a) = false := by
        cases q : Nat.blt (k + 1 + i) (loopsIn a) with
        | false => rfl
        | true => rw [blt_iff] at q; omega
      rw [this, bsel_false, sub_eq', show k + 1 + i - loopsIn a = k - loopsIn a + 1 + i from by omega]
      rw [sub_eq'] at h3
      exact nthLoop_nth b _ cl i c2 h3 h2
  | .cond _ a b, k, cl, i, c2, h, h2 => by
    have h : bsel (Nat.blt k (loopsIn a)) (nthLoop a k) (nthLoop b (Nat.sub k (loopsIn a))) = some cl := h
    show bsel (Nat.blt (k + 1 + i) (loopsIn a)) (nthLoop a (k + 1 + i)) (nthLoop b (Nat.sub (k + 1 + i) (loopsIn a))) = some c2
    rcases bsel_some h with ⟨h1, h3⟩ | ⟨h1, h3⟩
    · have := nthLoop_nth a k cl i c2 h3 h2
      rw [blt_iff.2 (nthLoop_lt a _ _ this), bsel_true]; exact this
    · have := nthLoop_nth b _ cl i c2 h3 h2
      have hk : ¬ k < loopsIn a := fun q => by rw [blt_iff.2 q] at h1; cases h1
      have : Nat.blt (k + 1 + i) (loopsIn a) = false := by
        cases q : Nat.blt (k + 1 + i) (loopsIn a) with
        | false => rfl
        | true => rw [blt_iff] at q; omega
      rw [this, bsel_false, sub_eq', show k + 1 + i - loopsIn a = k - loopsIn a + 1 + i from by omega]
      rw [sub_eq'] at h3
      exact nthLoop_nth b _ cl i c2 h3 h2
  | .block _ a, k, cl, i, c2, h, h2 => nthLoop_nth a k cl i c2 h h2
  | .loop a, k, cl, i, c2, h, h2 => by
    have h : bsel (Nat.beq k 0) (some a) (nthLoop a (Nat.sub k 1)) = some cl := h
    show bsel (Nat.beq (k + 1 + i) 0) (some a) (nthLoop a (Nat.sub (k + 1 + i) 1)) = some c2
    have hz : Nat.beq (k + 1 + i) 0 = false := by
      cases q : Nat.beq (k + 1 + i) 0 with
      | false => rfl
      | true => rw [beq_iff'] at q; omega
    rw [hz, bsel_false, sub_eq']
    rcases bsel_some h with ⟨h1, h3⟩ | ⟨h1, h3⟩
    · rw [beq_iff'] at h1
      cases h3
      rw [show k + 1 + i - 1 = i from by omega]; exact h2
    · have hk : ¬ k = 0 := fun q => by rw [beq_iff'.2 q] at h1; cases h1
      rw [sub_eq'] at h3
      rw [show k + 1 + i - 1 = k - 1 + 1 + i from by omega]
      exact nthLoop_nth a _ cl i c2 h3 h2
  | .skip, _, _, _, _, h, _ => nomatch h
  | .label _, _, _, _, _, h, _ => nomatch h
  | .exit _, _, _, _, _, h, _ => nomatch h
  | .goto _, _, _, _, _, h, _ => nomatch h
  | .ret, _, _, _, _, h, _ => nomatch h
  | .region .., _, _, _, _, h, _ => nomatch h
  | .rangeFunc .., _, _, _, _, h, _ => nomatch h
  | .scope _, _, _, _, _, h, _ => nomatch h
  | .refuse _, _, _, _, _, h, _ => nomatch h

/-- a loop's body as the evaluator takes it -/
noncomputable def loopIn (P : Program) (fn : Func) (k : Nat) (c : Code) : ICode :=
  Option.rec (motive := fun _ => ICode) .no (fun cl => comp P (needs P c (needRes fn.results.toList (Nat.sub (Nat.shiftLeft 1 (Nat.add fn.params.size fn.nfree)) 1))) fn.ntmps (Nat.succ k) cl) (nthLoop c k)
noncomputable def loopBody (P : Program) (f : FuncId) (k : Nat) : ICode := match P.funcs.toList[f]? with
  | none => .no
  | some fn => match fn.body with
    | none => .no
    | some c => loopIn P fn k c
theorem loopBody_eq {P : Program} {f : FuncId} {fn : Func} {c cl : Code} {k : Nat} (hf : P.funcs[f]? = some fn) (hb : fn.body = some c) (hc : nthLoop c k = some cl) :
    loopBody P f k = comp P (needs P c (needRes fn.results.toList (Nat.sub (Nat.shiftLeft 1 (Nat.add fn.params.size fn.nfree)) 1))) fn.ntmps (k + 1) cl := by
  unfold loopBody
  rw [show P.funcs.toList[f]? = some fn from by simpa using hf]
  dsimp only
  rw [hb]
  dsimp only
  unfold loopIn
  rw [hc]

/-- what is to be shown of one loop -/
structure Rule where
  sh : Shape
  inv : sh.T → Prop
  alts : List (Alt sh.T)
  m : sh.T → Nat
noncomputable def Rule.spec (r : Rule) : LSpec := lspec r.sh r.inv r.alts
noncomputable def lsOf : List (Nat × Rule) → Nat → Option LSpec
  | [], _ => none
  | (j, r) :: l, k => bsel (Nat.beq j k) (some r.spec) (lsOf l k)
def RuleOk (P : Program) (g : Cfg) (n : Nat) (ls : Nat → Option LSpec) (f : FuncId) (k : Nat) (r : Rule) : Prop :=
  ∀ x, r.inv x → ∃ orc, StepOk r.sh r.inv r.alts r.m x (evI P (evCall P g n) g.lf ls (loopBody P f k) (r.sh.tm x) (r.sh.st x [] orc))
theorem lsOf_some : ∀ {l : List (Nat × Rule)} {k : Nat} {s : LSpec}, lsOf l k = some s → ∃ r, (k, r) ∈ l ∧ s = r.spec
  | [], k, s, h => by cases h
  | (j, r) :: l, k, s, h => by
    rcases bsel_some (show bsel (Nat.beq j k) (some r.spec) (lsOf l k) = some s from h) with ⟨h1, h2⟩ | ⟨h1, h2⟩
    · rw [beq_iff'] at h1; subst h1; cases h2; exact ⟨r, by simp, rfl⟩
    · obtain ⟨r', h3, h4⟩ := lsOf_some h2
      exact ⟨r', by simp [h3], h4⟩
theorem FnLoops.of_rules {P : Program} {g : Cfg} (hg : CfgOk P g) {n : Nat} {f : FuncId} {l : List (Nat × Rule)} (h : ∀ p ∈ l, RuleOk P g n (lsOf l) f p.1 p.2) : FnLoops P f (lsOf l) := by
  intro fn c hf hb
  have hcf := evCall_sound hg (fun cf hc => evDraw_sound hg.mixed hc) n
  have hdr : DrawSound P (evCall P g n) := evDraw_sound hg.mixed hcf
  have hgr : ∀ j s, lsOf l j = some s → ∀ tm st, ResGr st (s tm st) := fun j s hj tm st => by
    obtain ⟨r, _, rfl⟩ := lsOf_some hj
    exact lspec_gr tm st
  have key : ∀ (d j : Nat) (s : LSpec) (cl : Code), loopsIn c - j ≤ d → lsOf l j = some s → nthLoop c j = some cl → LoopOk P (needs P c (needRes fn.results.toList (Nat.sub (Nat.shiftLeft 1 (Nat.add fn.params.size fn.nfree)) 1))) fn.ntmps cl s := by
    intro d
    induction d with
    | zero => intro j s cl hd h1 h2; have := nthLoop_lt c j cl h2; omega
    | succ d ih =>
      intro j s cl hd h1 h2
      obtain ⟨r, h3, rfl⟩ := lsOf_some h1
      refine lspec_ok hcf hdr (lf := g.lf) (ls := lsOf l) (k := j) ⟨fun _ _ _ => rfl, hgr, fun i s' c2 q1 q2 => ?_⟩ r.m fun x hx => ?_
      · have h4 := nthLoop_nth c j cl i c2 h2 q2
        have := nthLoop_lt c _ _ h4
        exact ih (j + 1 + i) s' c2 (by omega) q1 h4
      · obtain ⟨orc, ho⟩ := h (j, r) h3 x hx
        rw [loopBody_eq hf hb h2] at ho
        exact ⟨orc, ho⟩
  exact ⟨fun _ _ _ => rfl, hgr, fun j s cl h1 h2 => key _ j s cl (Nat.le_refl _) (by rw [Nat.zero_add] at h1; exact h1) h2⟩
end Go.Proofs.Ytkccnomdfkhfnaa.Ev
