/- What functions of the program compute, written down; read off their code. -/
import Derived.Test.YtkccnomdfkhfnaaEvCode
set_option linter.unusedSimpArgs false
set_option linter.unusedVariables false
namespace Go.Proofs.Ytkccnomdfkhfnaa.Ev
open Go.RowKit

/-! ## the mask -/
theorem bit_eq (m i : Nat) : bit m i = m.testBit i := by
  unfold bit
  rw [Nat.testBit_eq_decide_div_mod_eq, show Nat.shiftRight m i = m >>> i from rfl, Nat.shiftRight_eq_div_pow]
  rw [show Nat.mod (m / 2 ^ i) 2 = m / 2 ^ i % 2 from rfl]
  by_cases h : m / 2 ^ i % 2 = 1
  · rw [beq_iff'.2 h, decide_eq_true h]
  · rw [decide_eq_false h]
    cases hb : Nat.beq (m / 2 ^ i % 2) 1 with
    | false => rfl
    | true => exact absurd (beq_iff'.1 hb) h
theorem bit_lor (a b i : Nat) : bit (Nat.lor a b) i = (bit a i || bit b i) := by
  rw [bit_eq, bit_eq, bit_eq, show Nat.lor a b = a ||| b from rfl, Nat.testBit_or]
theorem bit_withBit (m i j : Nat) : bit (withBit m i) j = (bit m j || decide (i = j)) := by
  unfold withBit
  rw [bit_lor, bit_eq (Nat.shiftLeft 1 i), show Nat.shiftLeft 1 i = 1 <<< i from rfl, Nat.shiftLeft_eq, Nat.one_mul, Nat.testBit_two_pow]
theorem bit_mono {m : Nat} {i j : Nat} (h : bit m j = true) : bit (withBit m i) j = true := by rw [bit_withBit, h]; rfl
theorem bit_low {n t : Nat} (h : t < n) : bit (Nat.sub (Nat.shiftLeft 1 n) 1) t = true := by
  rw [bit_eq, show Nat.sub (Nat.shiftLeft 1 n) 1 = 1 <<< n - 1 from rfl, Nat.shiftLeft_eq, Nat.one_mul, Nat.testBit_two_pow_sub_one]
  exact decide_eq_true h

theorem needOds_mono {t : Nat} : ∀ (l : List Od) (m : Nat), bit m t = true → bit (needOds l m) t = true
  | [], m, h => h
  | .v u :: r, m, h => needOds_mono r _ (bit_mono h)
  | .l _ :: r, m, h => needOds_mono r _ h
  | .c _ :: r, m, h => needOds_mono r _ h
  | .x :: r, m, h => needOds_mono r _ h
theorem needGd_mono {t : Nat} (g : Option (Od × Bool)) (m : Nat) (h : bit m t = true) : bit (needGd g m) t = true := by
  unfold needGd
  split
  · exact bit_mono h
  · exact h
theorem needIOps_mono {t : Nat} : ∀ (l : List IOp) (m : Nat), bit m t = true → bit (needIOps l m) t = true
  | [], m, h => h
  | .mk _ _ _ ods gd :: r, m, h => needIOps_mono r _ (needGd_mono _ _ (needOds_mono _ _ h))
theorem needDOps_mono {t : Nat} : ∀ (l : List DOp) (m : Nat), bit m t = true → bit (needDOps l m) t = true
  | [], m, h => h
  | o :: r, m, h => needDOps_mono r _ (needGd_mono _ _ (needOds_mono _ _ h))
theorem needs_mono {P : Program} {t : Nat} : ∀ (c : Code) (m : Nat), bit m t = true → bit (needs P c m) t = true
  | .region _ _ false, m, h => needIOps_mono _ _ h
  | .region _ _ true, m, h => needDOps_mono _ _ h
  | .seq a b, m, h => needs_mono b _ (needs_mono a _ h)
  | .cond c a b, m, h => needs_mono b _ (needs_mono a _ (needOds_mono _ _ h))
  | .block _ a, m, h => needs_mono a _ h
  | .loop a, m, h => needs_mono a _ h
  | .skip, m, h => h
  | .label _, m, h => h
  | .exit _, m, h => h
  | .goto _, m, h => h
  | .ret, m, h => h
  | .rangeFunc .., m, h => h
  | .scope _, m, h => h
  | .refuse _, m, h => h
theorem needRes_mono {t : Nat} : ∀ (l : List ResultVar) (m : Nat), bit m t = true → bit (needRes l m) t = true
  | [], m, h => h
  | .tmp _ :: r, m, h => needRes_mono r _ (bit_mono h)
  | .cell _ _ :: r, m, h => needRes_mono r _ (bit_mono h)

/-! ## the first slots -/
theorem tmOf_get : ∀ (l : List AV) (k : Nat) (tm : Tr AV) (t : Nat), (tmOf l k tm).get t = if k ≤ t ∧ t < k + l.length then l[t - k]? else tm.get t
  | [], k, tm, t => by rw [tmOf_nil, if_neg (by simp only [List.length_nil]; omega)]
  | v :: r, k, tm, t => by
    rw [tmOf_cons, tmOf_get r]
    simp only [List.length_cons]
    by_cases h1 : k + 1 ≤ t ∧ t < k + 1 + r.length
    · rw [if_pos h1, if_pos (by omega), show t - k = (t - (k + 1)) + 1 from by omega, List.getElem?_cons_succ]
    · rw [if_neg h1]
      by_cases h2 : t = k
      · subst h2; rw [if_pos (by omega), Tr.get_set_same]; simp
      · rw [if_neg (by omega), Tr.get_set_ne _ _ h2]

section
variable {P : Program} {cf : CallF} {n0 : Nat} {w0 : World} {μ : Mu} {st st' : St} {w : World}

/-! ## results -/
theorem run_list_mapM {α : Type} {f : α → Sem Value} {w : World} : ∀ (l : List α) (vs : List Value), l.length = vs.length → (∀ (i : Nat) (x : α) (v : Value), l[i]? = some x → vs[i]? = some v → (f x).run P w = .ok v w) → (l.mapM f).run P w = .ok vs w
  | [], [], _, _ => by simp
  | x :: l, [], h, _ => by simp at h
  | [], v :: vs, h, _ => by simp at h
  | x :: l, v :: vs, h, hf => by
    rw [List.mapM_cons, run_bind_ok (hf 0 x v rfl rfl), run_bind_ok (run_list_mapM l vs (by simpa using h) fun i y u h1 h2 => hf (i + 1) y u (by simpa using h1) (by simpa using h2))]
    rfl

def resF (tmps : Array Value) (x : ResultVar) : Sem Value := match x with
  | .tmp t => pure (tmps.getD t undef)
  | .cell a t => do loadVar t (← asAddr (tmps.getD a undef))
theorem results_eq (fn : Func) (tmps : Array Value) : results fn tmps = (do let vs ← fn.results.mapM (resF tmps); pure (if h : vs.size = 1 then vs[0] else .tuple vs)) := rfl

theorem aResults_sound {X nt : Nat} {tm : Tr AV} {tmps : Array Value} (h : RS n0 w0 μ st w) (ht : TmRel X nt μ tm tmps) : ∀ (rs : List ResultVar) (l : List AV), aResults P tm st rs = some l →
    ∃ vs, vrL μ l vs ∧ rs.length = vs.length ∧ ∀ (i : Nat) (x : ResultVar) (v : Value), rs[i]? = some x → vs[i]? = some v →
      (resF tmps x).run P w = .ok v w
  | [], l, hl => by
    cases hl
    exact ⟨[], by simp only [vrL], rfl, fun i x v h1 => by simp at h1⟩
  | r :: rs, l, hl => by
    obtain ⟨av, h1, hl⟩ := obind_elim (show obind (aResult P tm st r) (fun v => obind (aResults P tm st rs) fun vs => some (v :: vs)) = some l from hl)
    obtain ⟨l', h2, hl⟩ := obind_elim hl
    cases hl
    obtain ⟨vs, g1, g2, g3⟩ := aResults_sound h ht rs l' h2
    have hr : ∃ v, vr μ av v ∧ (resF tmps r).run P w = .ok v w := by
      cases r with
      | tmp t => exact ⟨_, (ht.rel t av h1).2, rfl⟩
      | cell a t =>
        obtain ⟨pv, q1, q2⟩ := obind_elim (show obind (tm.get a) (aLoad P st t) = some av from h1)
        obtain ⟨p, e1, u, e2, e3⟩ := aLoad_sound h (P := P) q2 (ht.rel a pv q1).2
        refine ⟨u, e3, ?_⟩
        simp only [resF, e1]
        exact e2
    obtain ⟨v, r1, r2⟩ := hr
    refine ⟨v :: vs, vrL_cons.2 ⟨r1, g1⟩, by simp [g2], fun i x u h3 h4 => ?_⟩
    cases i with
    | zero => simp at h3 h4; subst h3; subst h4; exact r2
    | succ i => exact g3 i x u (by simpa using h3) (by simpa using h4)

theorem ofRes_sound {X nt : Nat} {tm : Tr AV} {a : Act} {fn : Func} {r : AV} (h : RS n0 w0 μ st w) (ht : TmRel X nt μ tm a.tmps) (hr : ofRes P fn.results.toList tm st = some (r, st')) :
    st' = st ∧ ∃ v, (results fn a.tmps).run P w = .ok v w ∧ vr μ r v := by
  unfold ofRes at hr
  cases hl : aResults P tm st fn.results.toList with
  | none => rw [hl] at hr; cases hr
  | some l =>
    rw [hl] at hr
    obtain ⟨vs, g1, g2, g3⟩ := aResults_sound h ht _ l hl
    have hrun := run_list_mapM (P := P) (w := w) fn.results.toList vs g2 g3
    have hres : (results fn a.tmps).run P w = .ok (if h : vs.toArray.size = 1 then vs.toArray[0] else .tuple vs.toArray) w := by
      rw [results_eq, Array.mapM_eq_mapM_toList]
      rw [run_bind_ok (a := vs.toArray) (w' := w) (by simp only [Sem.run_map]; rw [hrun]; rfl)]
      rfl
    have hlen := vrL_length _ _ g1
    match l, hr, g1, hlen with
    | [x], hr, g1, hlen =>
      cases hr
      simp only [vrL] at g1
      obtain ⟨v, r', rfl, q1, rfl⟩ := g1
      exact ⟨rfl, v, by rw [hres]; simp, q1⟩
    | [], hr, g1, hlen =>
      cases hr
      refine ⟨rfl, _, hres, ?_⟩
      rw [dif_neg (by simp at hlen; simp [hlen])]
      simp only [vr]
      exact ⟨vs, rfl, g1⟩
    | x :: y :: l', hr, g1, hlen =>
      cases hr
      refine ⟨rfl, _, hres, ?_⟩
      rw [dif_neg (by simp at hlen; simp [hlen])]
      simp only [vr]
      exact ⟨vs, rfl, g1⟩

/-! ## a function's body -/
theorem ofRes_st {res : List ResultVar} {tm : Tr AV} {st st' : St} {r : AV} (h : ofRes P res tm st = some (r, st')) : st' = st := by
  unfold ofRes at h
  split at h
  · cases h; rfl
  · cases h; rfl
  · cases h
theorem fin_gr {res : List ResultVar} {st : St} {q : Res} (h : ResGr st q) : XP (q.fin P res) st := fun r st' e => by
  cases q with
  | no => cases e
  | ok tm1 st1 => rw [ofRes_st (P := P) (res := res) e]; exact h
  | ex id tm1 st1 => cases e
  | rt tm1 st1 => rw [ofRes_st (P := P) (res := res) e]; exact h
theorem evBody_gr {X : Nat} (hcf : CFGrow cf) (hdr : ∀ X pl ok tm st, XP (evDraw P cf X pl ok tm st) st) {lf : Nat} {ls : Nat → Option LSpec} (hls : ∀ j s, ls j = some s → ∀ tm st, ResGr st (s tm st)) {F : FnI} {args : List AV} {st : St} : XP (evBody P cf lf ls F args st) st := by
  unfold evBody
  exact XP.bsel (fin_gr (evI_gr hcf hdr hls _ _ _)) XP.bad
theorem noL_ok {L : Bool} {X nt k : Nat} {c : Code} : LoopsOk P L X nt noL k c := ⟨(fun _ _ h => nomatch h), (fun _ _ h => nomatch h), (fun _ _ _ h => nomatch h)⟩

theorem evBody_sound (hcf : CFSound P cf) (hdr : DrawSound P cf) {L : Bool} {ls : Nat → Option LSpec} {lf : Nat} {f : FuncId} {fn : Func} {c : Code} (hf : P.funcs[f]? = some fn) (hb : fn.body = some c) {args : List AV} {vs : Array Value} {r : AV}
    (h : RS n0 w0 μ st w) (ha : vrL μ args vs.toList) (hl : LoopsOk P L (needs P c (needRes fn.results.toList (Nat.sub (Nat.shiftLeft 1 (Nat.add fn.params.size fn.nfree)) 1))) fn.ntmps ls 0 c)
    (hs : evBody P cf lf ls (fnI P fn c) args st = some (r, st')) (hC : AllP st'.x.cs) :
    Calls P f vs w fun e w' => ∃ v, e = .returned v ∧ ∃ μ', PostL L n0 w0 μ st μ' st' w' ∧ vr μ' r v := by
  unfold evBody at hs
  rcases bsel_some hs with ⟨hnp, hs⟩ | ⟨_, hs⟩
  case inr => cases hs
  rw [beq_iff', lenA_eq] at hnp
  have hlen : vs.size = args.length := by rw [← vrL_length _ _ ha]; simp
  have ht : TmRel (needs P c (needRes fn.results.toList (Nat.sub (Nat.shiftLeft 1 (Nat.add fn.params.size fn.nfree)) 1))) fn.ntmps μ (tmOf args 0 .e) (vs ++ Array.replicate (fn.ntmps - vs.size) undef) := by
    refine ⟨by simp; omega, fun t av hg => ?_⟩
    rw [tmOf_get] at hg
    by_cases hlt : t < args.length
    · rw [if_pos (by omega), Nat.sub_zero] at hg
      refine ⟨needs_mono _ _ (needRes_mono _ _ (bit_low (by rw [← show args.length = Nat.add fn.params.size fn.nfree from hnp]; exact hlt))), ?_⟩
      obtain ⟨v, h1, h2⟩ := vrL_get _ _ ha t av hg
      have : (vs ++ Array.replicate (fn.ntmps - vs.size) undef).getD t undef = v := by
        rw [Array.getD_eq_getD_getElem?, Array.getElem?_append_left (by omega)]
        rw [Array.getElem?_toList] at h1
        rw [h1]; rfl
      rw [this]; exact h2
    · rw [if_neg (by omega), Tr.get_e] at hg; cases hg
  refine calls_of_wp hf hb ?_
  refine evI_sound (ls := ls) hcf hdr (lf := lf) c 0 (tmOf args 0 .e) st μ { tmps := vs ++ Array.replicate (fn.ntmps - vs.size) undef, defers := [] } w _ hl h ht ?_
  have hs : (evI P cf lf ls (comp P (needs P c (needRes fn.results.toList (Nat.sub (Nat.shiftLeft 1 (Nat.add fn.params.size fn.nfree)) 1))) fn.ntmps 0 c) (tmOf args 0 .e) st).fin P fn.results.toList = some (r, st') := hs
  generalize evI P cf lf ls (comp P (needs P c (needRes fn.results.toList (Nat.sub (Nat.shiftLeft 1 (Nat.add fn.params.size fn.nfree)) 1))) fn.ntmps 0 c) (tmOf args 0 .e) st = res at hs
  cases res with
  | no => cases hs
  | ok tm1 st1 =>
    have hst := ofRes_st (P := P) (res := fn.results.toList) hs
    refine ⟨by rw [← hst]; exact hC, fun μ' a' w' g1 g2 g3 => ?_⟩
    obtain ⟨rfl, v, e1, e2⟩ := ofRes_sound (fn := fn) g1.rs g3 hs
    exact ⟨g2, v, e1, v, rfl, μ', g1, e2⟩
  | ex id tm1 st1 => cases hs
  | rt tm1 st1 =>
    have hst := ofRes_st (P := P) (res := fn.results.toList) hs
    refine ⟨by rw [← hst]; exact hC, fun μ' a' w' g1 g2 g3 => ?_⟩
    obtain ⟨rfl, v, e1, e2⟩ := ofRes_sound (fn := fn) g1.rs g3 hs
    exact ⟨g2, v, e1, v, rfl, μ', g1, e2⟩
end
end Go.Proofs.Ytkccnomdfkhfnaa.Ev
