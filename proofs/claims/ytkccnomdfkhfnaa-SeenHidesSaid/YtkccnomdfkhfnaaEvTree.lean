/- What functions of the program compute, written down; read off their code. -/
import Derived.Test.YtkccnomdfkhfnaaEvRule
set_option linter.unusedSimpArgs false
set_option linter.unusedVariables false
namespace Go.Proofs.Ytkccnomdfkhfnaa.Ev
open Go.RowKit

abbrev wrp (k : IntKind) (n : Int) : Int := k.wrap n
/-! ## all ways of a run as a tree -/
def AllA : List Prop → Prop
  | [] => True
  | [p] => p
  | p :: r => p ∧ AllA r
theorem allA_iff : ∀ {l : List Prop}, AllA l ↔ AllP l
  | [] => ⟨fun _ p hp => (nomatch hp), fun _ => trivial⟩
  | [p] => ⟨fun h q hq => (List.mem_singleton.1 hq) ▸ h, fun h => h p (by simp)⟩
  | p :: q :: r => ⟨fun h x hx => by
      rcases List.mem_cons.1 hx with rfl | hx
      · exact h.1
      · exact (allA_iff (l := q :: r)).1 h.2 x hx, fun h => ⟨h _ (by simp), (allA_iff (l := q :: r)).2 fun x hx => h x (List.mem_cons_of_mem _ hx)⟩⟩
theorem AllP.and {a b : List Prop} (ha : AllP a) (hb : AllP b) : AllP (a ++ b) := fun p hp => (List.mem_append.1 hp).elim (ha p) (hb p)

inductive DT (β : Type) where
  | leaf (cs : List Prop) (v : β)
  | node (cs : List Prop) (c : Bool) (t f : DT β)
  | req (cs : List Prop) (c b : Bool) (t : DT β)
namespace DT
variable {β : Type}
def fn : DT β → β
  | .leaf _ v => v
  | .node _ c t f => bif c then t.fn else f.fn
  | .req _ _ _ t => t.fn
def pre : DT β → Prop
  | .leaf cs _ => AllA cs
  | .node cs c t f => AllA cs ∧ bif c then t.pre else f.pre
  | .req cs c b t => AllA cs ∧ c = b ∧ t.pre
def ways : DT β → List Prop → List Bool → List (List Bool × List Prop × β)
  | .leaf cs v, acc, bs => [(bs.reverse, cs ++ acc, v)]
  | .node cs c t f, acc, bs => t.ways ((c = true) :: (cs ++ acc)) (true :: bs) ++ f.ways ((c = false) :: (cs ++ acc)) (false :: bs)
  | .req cs c b t, acc, bs => t.ways ((c = b) :: (cs ++ acc)) (b :: bs)
theorem take {run : List Bool → Option (List Prop × β)} : ∀ (t : DT β) (acc : List Prop) (bs : List Bool), (∀ p ∈ t.ways acc bs, run p.1 = some p.2) → AllP acc → t.pre → ∃ orc cs, run orc = some (cs, t.fn) ∧ AllP cs
  | .leaf cs v, acc, bs, h, ha, hp => ⟨_, _, h _ (List.mem_singleton.2 rfl), AllP.and (allA_iff.1 hp) ha⟩
  | .node cs c t f, acc, bs, h, ha, hp => by
    simp only [ways, List.mem_append] at h
    simp only [pre] at hp
    obtain ⟨h1, h2⟩ := hp
    have hc := AllP.and (allA_iff.1 h1) ha
    cases c with
    | true => exact take t _ _ (fun p hp => h p (.inl hp)) (fun p hp => (List.mem_cons.1 hp).elim (fun e => e ▸ rfl) (hc p)) h2
    | false => exact take f _ _ (fun p hp => h p (.inr hp)) (fun p hp => (List.mem_cons.1 hp).elim (fun e => e ▸ rfl) (hc p)) h2
  | .req cs c b t, acc, bs, h, ha, hp => by
    simp only [pre] at hp
    obtain ⟨h1, h2, h3⟩ := hp
    exact take t _ _ h (fun p hp => (List.mem_cons.1 hp).elim (fun e => e ▸ h2) (AllP.and (allA_iff.1 h1) ha p)) h3
end DT
/-- each way is the run's -/
def DT.Is {β : Type} (run : List Bool → Option (List Prop × β)) (t : DT β) : Prop := (t.ways [] []).map (fun p => run p.1) = (t.ways [] []).map (fun p => some p.2)
theorem DT.Is.take {β : Type} {run : List Bool → Option (List Prop × β)} {t : DT β} (h : t.Is run) (hp : t.pre) : ∃ orc cs, run orc = some (cs, t.fn) ∧ AllP cs := by
  refine t.take [] [] (fun p hp => ?_) (fun p hp => by cases hp) hp
  have key : ∀ l : List (List Bool × List Prop × β), l.map (fun p => run p.1) = l.map (fun p => some p.2) → ∀ p ∈ l, run p.1 = some p.2 := by
    intro l
    induction l with
    | nil => intro _ p hp; cases hp
    | cons a r ih =>
      intro h p hp
      simp only [List.map_cons, List.cons.injEq] at h
      rcases List.mem_cons.1 hp with rfl | hp
      · exact h.1
      · exact ih h.2 p hp
  exact key _ h p hp

/-! ## a function's run -/
noncomputable section
def runF (P : Program) (g : Cfg) (n : Nat) (ls : Nat → Option LSpec) (f : FuncId) (as : List AT) (rs : List AT) (x : ATs as) (orc : List Bool) : Option (List Prop × RTs rs) :=
  obind2 (evTop P g n ls f (ofAs as x (st0 orc)).1 (ofAs as x (st0 orc)).2) fun r st => obind2 (toRs rs r st) fun y _ => some (st.x.cs, y)

/-! ## a loop's round -/
def OutT : List (Option Nat × Shape) → Type
  | [] => Empty
  | e :: r => e.2.T ⊕ OutT r
def sameO : Option Nat → Option Nat → Bool
  | none, none => true
  | some a, some b => Nat.beq a b
  | _, _ => false
def outAt (k : Option Nat) (tm : Tr AV) (st : St) : (exs : List (Option Nat × Shape)) → Option (OutT exs)
  | [] => none
  | e :: r => bsel (sameO k e.1) (obind (e.2.norm tm st) fun y => some (.inl y)) (obind (outAt k tm st r) fun y => some (.inr y))
def resOut (sh : Shape) (exs : List (Option Nat × Shape)) : Res → Option (List Prop × (sh.T ⊕ OutT exs))
  | .no => none
  | .ok tm st => obind (sh.norm tm st) fun x => some (st.x.cs, .inl x)
  | .ex id tm st => obind (outAt (some id) tm st exs) fun y => some (st.x.cs, .inr y)
  | .rt tm st => obind (outAt none tm st exs) fun y => some (st.x.cs, .inr y)
def runL (P : Program) (g : Cfg) (n : Nat) (ls : Nat → Option LSpec) (f : FuncId) (k : Nat) (sh : Shape) (exs : List (Option Nat × Shape)) (x : sh.T) (orc : List Bool) : Option (List Prop × (sh.T ⊕ OutT exs)) :=
  resOut sh exs (evI P (evCall P g n) g.lf ls (loopBody P f k) (sh.tm x) (sh.st x [] orc))

/-- a slot's value where none is known -/
def VT.z : (t : VT) → t.T
  | .one l => l.z
  | .agg e => e.z
def ETs.z : (es : List ET) → ETs es
  | [] => ()
  | e :: r => (e.z, ETs.z r)
def SK.z : (k : SK) → k.T
  | .v t => t.z
  | .own e => ([] : List e.T)
  | .val _ => ()
  | .clo _ es => ETs.z es
def KsT.z : (ks : List SK) → KsT ks
  | [] => ()
  | k :: r => (k.z, KsT.z r)
def Shape.z (s : Shape) : s.T := KsT.z s.ks
def isL {A B : Type} : Option (A ⊕ B) → Bool
  | some (.inl _) => true
  | _ => false
def getL {A B : Type} (z : A) : Option (A ⊕ B) → A
  | some (.inl a) => a
  | _ => z
def restR {A B : Type} : Option (A ⊕ B) → Option B
  | some (.inr b) => some b
  | _ => none
def altsOf {A : Type} : (exs : List (Option Nat × Shape)) → (A → Option (OutT exs)) → List (Alt A)
  | [], _ => []
  | e :: r, out => ⟨e.1, e.2, fun x => isL (out x), fun x => getL e.2.z (out x)⟩ :: altsOf r fun x => restR (out x)

/-! ## a loop as a function of the state at its head -/
section
variable {A B : Type} (tr : A → DT (A ⊕ B))
def Fine : Nat → A → Prop
  | 0, _ => False
  | n + 1, x => (tr x).pre ∧ match (tr x).fn with
    | .inl x' => Fine n x'
    | .inr _ => True
def outN : Nat → A → Option B
  | 0, _ => none
  | n + 1, x => match (tr x).fn with
    | .inl x' => outN n x'
    | .inr y => some y
def loopInv (x : A) : Prop := ∃ n, Fine tr n x
open Classical in
def loopOut (x : A) : Option B := if h : ∃ n y, outN tr n x = some y then some h.choose_spec.choose else none
end
end

section
variable {A B : Type} {tr : A → DT (A ⊕ B)}
theorem outN_mono : ∀ (n m : Nat) (x : A) (y : B), n ≤ m → outN tr n x = some y → outN tr m x = some y
  | 0, m, x, y, _, h => by cases h
  | n + 1, 0, x, y, hm, h => by omega
  | n + 1, m + 1, x, y, hm, h => by
    simp only [outN] at h ⊢
    cases q : (tr x).fn with
    | inl x' => rw [q] at h; exact outN_mono n m x' y (by omega) h
    | inr y' => rw [q] at h; exact h
theorem loopOut_some {x : A} {y : B} : loopOut tr x = some y ↔ ∃ n, outN tr n x = some y := by
  unfold loopOut
  constructor
  · intro h
    split at h
    · rename_i hh
      have := hh.choose_spec.choose_spec
      cases h
      exact ⟨_, this⟩
    · cases h
  · rintro ⟨n, h⟩
    have hh : ∃ n y, outN tr n x = some y := ⟨n, y, h⟩
    rw [dif_pos hh]
    have := hh.choose_spec.choose_spec
    have h1 := outN_mono _ (max n hh.choose) x _ (Nat.le_max_right _ _) this
    have h2 := outN_mono _ (max n hh.choose) x _ (Nat.le_max_left _ _) h
    rw [h1] at h2; exact h2
theorem opt_ext {B : Type} {a b : Option B} (h : ∀ y, a = some y ↔ b = some y) : a = b := by
  cases a with
  | none => cases b with
    | none => rfl
    | some y => exact ((h y).2 rfl).symm ▸ rfl
  | some y => rw [(h y).1 rfl]
/-- one more round -/
theorem loopOut_again {x x' : A} (h : (tr x).fn = .inl x') : loopOut tr x = loopOut tr x' := by
  refine opt_ext fun y => ?_
  rw [loopOut_some, loopOut_some]
  constructor
  · rintro ⟨n, hn⟩
    cases n with
    | zero => cases hn
    | succ n => simp only [outN, h] at hn; exact ⟨n, hn⟩
  · rintro ⟨n, hn⟩
    exact ⟨n + 1, by simp only [outN, h]; exact hn⟩
theorem loopOut_exit {x : A} {y : B} (h : (tr x).fn = .inr y) : loopOut tr x = some y := loopOut_some.2 ⟨1, by simp only [outN, h]⟩
theorem loopInv.step {x : A} (h : loopInv tr x) : (tr x).pre ∧ ∀ x', (tr x).fn = .inl x' → loopInv tr x' := by
  obtain ⟨n, h⟩ := h
  cases n with
  | zero => exact h.elim
  | succ n =>
    simp only [Fine] at h
    exact ⟨h.1, fun x' e => ⟨n, by have := h.2; rw [e] at this; exact this⟩⟩
theorem loopInv.again {x x' : A} (hp : (tr x).pre) (h : (tr x).fn = .inl x') (k : loopInv tr x') : loopInv tr x := by
  obtain ⟨n, k⟩ := k
  exact ⟨n + 1, by simp only [Fine, h]; exact ⟨hp, k⟩⟩
theorem loopInv.exit {x : A} {y : B} (hp : (tr x).pre) (h : (tr x).fn = .inr y) : loopInv tr x := ⟨1, by simp only [Fine, h]; exact ⟨hp, trivial⟩⟩
/-- a loop that goes round n times and then ends -/
theorem loop_to (st : Nat → A) (n : Nat) (fin : B) (hp : ∀ i, i ≤ n → (tr (st i)).pre) (hs : ∀ i, i < n → (tr (st i)).fn = .inl (st (i + 1))) (he : (tr (st n)).fn = .inr fin) : ∀ i, i ≤ n → loopInv tr (st i) ∧ loopOut tr (st i) = some fin := by
  have key : ∀ d i, n - i = d → i ≤ n → loopInv tr (st i) ∧ loopOut tr (st i) = some fin := by
    intro d
    induction d with
    | zero =>
      intro i hd hi
      have : i = n := by omega
      subst this
      exact ⟨.exit (hp _ hi) he, loopOut_exit he⟩
    | succ d ih =>
      intro i hd hi
      obtain ⟨j1, j2⟩ := ih (i + 1) (by omega) (by omega)
      have hf := hs i (by omega)
      exact ⟨.again (hp _ hi) hf j1, by rw [loopOut_again hf]; exact j2⟩
  exact fun i hi => key _ i rfl hi
theorem loopInv.out {x : A} (h : loopInv tr x) : ∃ y, loopOut tr x = some y := by
  obtain ⟨n, h⟩ := h
  induction n generalizing x with
  | zero => exact h.elim
  | succ n ih =>
    simp only [Fine] at h
    cases q : (tr x).fn with
    | inr y => exact ⟨y, loopOut_exit q⟩
    | inl x' =>
      have := h.2
      rw [q] at this
      rw [loopOut_again q]
      exact ih this
/-- how many rounds at least -/
theorem least {p : Nat → Prop} : ∀ (n : Nat), p n → ∃ m, p m ∧ ∀ k, p k → m ≤ k := by
  intro n
  induction n using Nat.strongRecOn with
  | ind n ih =>
    intro hn
    by_cases h : ∃ k, k < n ∧ p k
    · obtain ⟨k, h1, h2⟩ := h; exact ih k h1 h2
    · exact ⟨n, hn, fun k hk => Nat.le_of_not_lt fun hlt => h ⟨k, hlt, hk⟩⟩
open Classical in
noncomputable def rounds (tr : A → DT (A ⊕ B)) (x : A) : Nat := if h : loopInv tr x then (least (p := fun n => Fine tr n x) _ h.choose_spec).choose else 0
theorem rounds_spec {x : A} (h : loopInv tr x) : Fine tr (rounds tr x) x ∧ ∀ k, Fine tr k x → rounds tr x ≤ k := by
  unfold rounds
  rw [dif_pos h]
  exact (least (p := fun n => Fine tr n x) _ h.choose_spec).choose_spec
theorem rounds_lt {x x' : A} (h : loopInv tr x) (e : (tr x).fn = .inl x') : rounds tr x' < rounds tr x := by
  obtain ⟨h1, _⟩ := rounds_spec h
  cases q : rounds tr x with
  | zero => rw [q] at h1; exact h1.elim
  | succ n =>
    rw [q] at h1
    simp only [Fine, e] at h1
    have := (rounds_spec ⟨n, h1.2⟩).2 n h1.2
    omega
end

section
variable {P : Program} {g : Cfg} {n : Nat} {ls : Nat → Option LSpec} {f : FuncId}
theorem data_of_tree (ats : List AT) (rts : List AT) (tr : ATs ats → DT (RTs rts)) (hg : CfgOk P g) (hl : FnLoops P f ls) (h : ∀ x, (tr x).Is (runF P g n ls f ats rts x)) : DataOk P f ats rts (fun x => (tr x).pre) (fun x => (tr x).fn) :=
  data_of_run hg hl fun x _ hp => by
    obtain ⟨orc, cs, h1, h2⟩ := (h x).take hp
    unfold runF at h1
    obtain ⟨r, st, k1, k2⟩ := obind2_elim h1
    obtain ⟨y, st', k3, k4⟩ := obind2_elim k2
    cases k4
    exact ⟨orc, r, st, st', k1, h2, k3⟩
theorem DataOk.mono {as : List AT} {rs : List AT} {pre pre' : ATs as → Prop} {fn fn' : ATs as → RTs rs} (h : DataOk P f as rs pre fn) (k : ∀ x, WfAs as x → pre' x → pre x ∧ fn x = fn' x) : DataOk P f as rs pre' fn' := by
  intro fz kp w vs x hf hk hp hd
  obtain ⟨h1, h2⟩ := k x (decAs_wf _ _ _ _ hd) hp
  rw [← h2]
  exact h fz kp w vs x hf hk h1 hd

theorem picked_out {A : Type} {k : Option Nat} {tm : Tr AV} {st : St} {x : A} : ∀ {exs : List (Option Nat × Shape)} {out : A → Option (OutT exs)} {y : OutT exs}, out x = some y → outAt k tm st exs = some y →
    ∀ b, picked x (altsOf exs out) = some b → b.kind = k ∧ b.sh.norm tm st = some (b.g x)
  | [], out, y, _, _, b, hb => nomatch y
  | e :: r, out, y, h1, h2, b, hb => by
    rcases bsel_some (show bsel (sameO k e.1) (obind (e.2.norm tm st) fun y => some (Sum.inl y)) (obind (outAt k tm st r) fun y => some (Sum.inr y)) = some y from h2) with ⟨g1, g2⟩ | ⟨g1, g2⟩
    · obtain ⟨y0, g3, g4⟩ := obind_elim g2
      cases g4
      have hc : isL (out x) = true := by rw [h1]; rfl
      have : b = ⟨e.1, e.2, fun x => isL (out x), fun x => getL e.2.z (out x)⟩ := by
        cases r with
        | nil => exact ((Option.some.injEq _ _).mp hb).symm
        | cons e2 r =>
          have hb : (bif isL (out x) then some ⟨e.1, e.2, fun x => isL (out x), fun x => getL e.2.z (out x)⟩ else picked x (altsOf (e2 :: r) fun x => restR (out x))) = some b := hb
          rw [hc] at hb
          exact ((Option.some.injEq _ _).mp hb).symm
      subst this
      refine ⟨?_, ?_⟩
      · show e.1 = k
        cases k with
        | none => cases q : e.1 with
          | none => rfl
          | some a => rw [q] at g1; cases g1
        | some a => cases q : e.1 with
          | none => rw [q] at g1; cases g1
          | some c => rw [q] at g1; rw [beq_iff'.1 g1]
      · show e.2.norm tm st = some (getL e.2.z (out x))
        rw [g3, h1]; rfl
    · obtain ⟨y0, g3, g4⟩ := obind_elim g2
      cases g4
      have hc : isL (out x) = false := by rw [h1]; rfl
      cases r with
      | nil => exact nomatch y0
      | cons e2 r =>
        have hb : (bif isL (out x) then some ⟨e.1, e.2, fun x => isL (out x), fun x => getL e.2.z (out x)⟩ else picked x (altsOf (e2 :: r) fun x => restR (out x))) = some b := hb
        rw [hc] at hb
        exact picked_out (exs := e2 :: r) (out := fun x => restR (out x)) (y := y0) (by show restR (out x) = _; rw [h1]; rfl) g3 b hb
theorem picked_same {A : Type} {x x' : A} : ∀ {exs : List (Option Nat × Shape)} {out : A → Option (OutT exs)}, out x = out x' → ∀ b, picked x (altsOf exs out) = some b → picked x' (altsOf exs out) = some b ∧ b.g x' = b.g x
  | [], out, h, b, hb => by cases hb
  | [e], out, h, b, hb => by
    refine ⟨hb, ?_⟩
    cases hb
    show getL _ (out x') = getL _ (out x)
    rw [h]
  | e :: e2 :: r, out, h, b, hb => by
    have hb : (bif isL (out x) then some ⟨e.1, e.2, fun x => isL (out x), fun x => getL e.2.z (out x)⟩ else picked x (altsOf (e2 :: r) fun x => restR (out x))) = some b := hb
    show (bif isL (out x') then some ⟨e.1, e.2, fun x => isL (out x), fun x => getL e.2.z (out x)⟩ else picked x' (altsOf (e2 :: r) fun x => restR (out x))) = some b ∧ _
    rw [← h]
    cases q : isL (out x) with
    | true =>
      rw [q] at hb
      refine ⟨hb, ?_⟩
      cases hb
      show getL _ (out x') = getL _ (out x)
      rw [h]
    | false =>
      rw [q] at hb
      exact picked_same (exs := e2 :: r) (out := fun x => restR (out x)) (by show restR (out x) = restR (out x'); rw [h]) b hb

/-- a loop by the tree of a round -/
noncomputable def ruleOf (sh : Shape) (exs : List (Option Nat × Shape)) (tr : sh.T → DT (sh.T ⊕ OutT exs)) : Rule := ⟨sh, loopInv tr, altsOf exs (loopOut tr), rounds tr⟩
theorem rule_of_tree {k : Nat} (sh : Shape) (exs : List (Option Nat × Shape)) (tr : sh.T → DT (sh.T ⊕ OutT exs)) (h : ∀ x, (tr x).Is (runL P g n ls f k sh exs x)) : RuleOk P g n ls f k (ruleOf sh exs tr) := by
  intro x hx
  obtain ⟨hp, hn⟩ := loopInv.step hx
  obtain ⟨orc, cs, h1, h2⟩ := (h x).take hp
  refine ⟨orc, ?_⟩
  show StepOk sh (loopInv tr) (altsOf exs (loopOut tr)) (rounds tr) x (evI P (evCall P g n) g.lf ls (loopBody P f k) (sh.tm x) (sh.st x [] orc))
  unfold runL at h1
  generalize evI P (evCall P g n) g.lf ls (loopBody P f k) (sh.tm x) (sh.st x [] orc) = res at h1
  cases res with
  | no => cases h1
  | ok tm st =>
    obtain ⟨x', g1, g2⟩ := obind_elim (show obind (sh.norm tm st) _ = _ from h1)
    have g3 : st.x.cs = cs ∧ Sum.inl x' = (tr x).fn := by simpa using g2
    exact ⟨by rw [g3.1]; exact h2, x', g1, hn x' g3.2.symm, rounds_lt hx g3.2.symm, fun b hb => picked_same (loopOut_again g3.2.symm) b hb⟩
  | ex id tm st =>
    obtain ⟨y, g1, g2⟩ := obind_elim (show obind (outAt (some id) tm st exs) _ = _ from h1)
    have g3 : st.x.cs = cs ∧ Sum.inr y = (tr x).fn := by simpa using g2
    exact ⟨by rw [g3.1]; exact h2, picked_out (loopOut_exit g3.2.symm) g1⟩
  | rt tm st =>
    obtain ⟨y, g1, g2⟩ := obind_elim (show obind (outAt none tm st exs) _ = _ from h1)
    have g3 : st.x.cs = cs ∧ Sum.inr y = (tr x).fn := by simpa using g2
    exact ⟨by rw [g3.1]; exact h2, picked_out (loopOut_exit g3.2.symm) g1⟩
/-- a function that calls itself: what is known of it so far -/
structure RecC (A B : Type) where
  pre : A → Prop
  fn : A → B
theorem DataOk.none {ats : List AT} {rts : List AT} (fn : ATs ats → RTs rts) : DataOk P f ats rts (fun _ => False) fn := fun _ _ _ _ _ _ _ h _ => h.elim
open Classical in
/-- at whatever depth it ends -/
noncomputable def RecC.all {A B : Type} (z : B) (a : Nat → RecC A B) : RecC A B := ⟨fun x => ∃ n, (a n).pre x, fun x => if h : ∃ n, (a n).pre x then (a h.choose).fn x else z⟩
theorem DataOk.depth {ats : List AT} {rts : List AT} (z : RTs rts) (a : Nat → RecC (ATs ats) (RTs rts)) (h : ∀ n, DataOk P f ats rts (a n).pre (a n).fn) : DataOk P f ats rts (RecC.all z a).pre (RecC.all z a).fn := by
  intro fz kp w vs x hf hk hp hd
  have hp : ∃ n, (a n).pre x := hp
  have e : (RecC.all z a).fn x = (a hp.choose).fn x := dif_pos hp
  rw [e]
  exact h _ fz kp w vs x hf hk hp.choose_spec hd
/-- the rules of a list -/
inductive AllR (P : Program) (g : Cfg) (n : Nat) (ls : Nat → Option LSpec) (f : FuncId) : List (Nat × Rule) → Prop
  | nil : AllR P g n ls f []
  | cons {k : Nat} {r : Rule} {l : List (Nat × Rule)} : RuleOk P g n ls f k r → AllR P g n ls f l → AllR P g n ls f ((k, r) :: l)
theorem AllR.mem {l : List (Nat × Rule)} (h : AllR P g n ls f l) : ∀ p ∈ l, RuleOk P g n ls f p.1 p.2 := by
  induction h with
  | nil => intro p hp; cases hp
  | cons h _ ih => intro p hp; rcases List.mem_cons.1 hp with rfl | hp; exact h; exact ih p hp
theorem FnLoops.of_all {l : List (Nat × Rule)} (hg : CfgOk P g) (h : AllR P g n (lsOf l) f l) : FnLoops P f (lsOf l) := FnLoops.of_rules hg h.mem
end
end Go.Proofs.Ytkccnomdfkhfnaa.Ev
