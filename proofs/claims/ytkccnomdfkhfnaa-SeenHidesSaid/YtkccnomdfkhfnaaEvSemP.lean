/- What functions of the program compute, written down; read off their code. -/
import Derived.Test.YtkccnomdfkhfnaaEvPure3
set_option linter.unusedSimpArgs false
set_option linter.unusedVariables false
namespace Go.Proofs.Ytkccnomdfkhfnaa.Ev
open Go.RowKit

theorem cv_ne_top (n : Nat) (v : Value) : cv n v ≠ some .top := by
  intro e
  cases n with
  | zero => simp [cv] at e
  | succ n =>
    rw [cv.eq_def] at e
    dsimp only at e
    split at e <;> first | (cases e; done) | (split at e <;> cases e)
theorem zeroT_ne_top {P : Program} {t : TypeId} : zeroT P t ≠ some .top := by
  intro h
  unfold zeroT at h
  split at h
  · split at h
    · exact cv_ne_top _ _ h
    · cases h
  · cases h

/-- what an operand's place gives is the operand's value -/
def OdRel (μ : Mu) (ev : Od → Option AV) (od : Operand → Od) (ρ : Operand → Value) : Prop := ∀ x a, ev (od x) = some a → vr μ a (ρ x)

section
variable {P : Program} {μ : Mu} {ev : Od → Option AV} {od : Operand → Od} {ρ : Operand → Value} {β : Type}
theorem one_elim {x : Operand} {f : AV → Option β} {b : β} (h : one ev ([x].map od) f = some b) (hr : OdRel μ ev od ρ) : ∃ a, vr μ a (ρ x) ∧ f a = some b := by
  obtain ⟨a, h1, h2⟩ := obind_elim (show obind (ev (od x)) f = some b from h)
  exact ⟨a, hr _ _ h1, h2⟩
theorem two_elim {x y : Operand} {f : AV → AV → Option β} {b : β} (h : two ev ([x, y].map od) f = some b) (hr : OdRel μ ev od ρ) : ∃ a c, vr μ a (ρ x) ∧ vr μ c (ρ y) ∧ f a c = some b := by
  obtain ⟨a, h1, h2⟩ := obind_elim (show obind (ev (od x)) (fun a => one ev [od y] (f a)) = some b from h)
  obtain ⟨c, h3, h4⟩ := obind_elim (show obind (ev (od y)) (f a) = some b from h2)
  exact ⟨a, c, hr _ _ h1, hr _ _ h3, h4⟩
theorem three_elim {x y z : Operand} {f : AV → AV → AV → Option β} {b : β} (h : three ev ([x, y, z].map od) f = some b) (hr : OdRel μ ev od ρ) :
    ∃ a c d, vr μ a (ρ x) ∧ vr μ c (ρ y) ∧ vr μ d (ρ z) ∧ f a c d = some b := by
  obtain ⟨a, h1, h2⟩ := obind_elim (show obind (ev (od x)) (fun a => two ev [od y, od z] (f a)) = some b from h)
  obtain ⟨c, h3, h4⟩ := obind_elim (show obind (ev (od y)) (fun c => one ev [od z] (f a c)) = some b from h2)
  obtain ⟨d, h5, h6⟩ := obind_elim (show obind (ev (od z)) (f a c) = some b from h4)
  exact ⟨a, c, d, hr _ _ h1, hr _ _ h3, hr _ _ h5, h6⟩
theorem many_elim (hr : OdRel μ ev od ρ) : ∀ (xs : List Operand) (l : List AV), many ev (xs.map od) = some l → vrL μ l (xs.map ρ)
  | [], l, h => by cases h; simp only [List.map_nil, vrL]
  | x :: xs, l, h => by
    rw [List.map_cons, many_cons] at h
    obtain ⟨a, h1, h2⟩ := obind_elim h
    obtain ⟨vs, h3, h4⟩ := obind_elim h2
    cases h4
    exact vrL_cons.2 ⟨hr _ _ h1, many_elim hr xs vs h3⟩
end

theorem pick3_elim {c a b r : AV} (h : pick3 c a b = some r) : ∃ x, c = .b x ∧ r = if x then a else b := by
  unfold pick3 at h
  split at h
  · cases h; exact ⟨true, rfl, rfl⟩
  · cases h; exact ⟨false, rfl, rfl⟩
  · cases h

theorem parts_map {μ : Mu} {ρ : Operand → Value} (parts : List (Nat × Operand)) {l : List AV} (h : vrL μ l (parts.map fun p => ρ p.2)) :
    partsRel μ ((parts.map (·.1)).zip l) (parts.map fun p => (p.1, ρ p.2)) := by
  have := partsRel_zip (parts.map (·.1)) l _ h
  have e : (parts.map (·.1)).zip (parts.map fun p => ρ p.2) = parts.map fun p => (p.1, ρ p.2) := by
    induction parts with
    | nil => rfl
    | cons p ps _ => exact List.zip_map'
  rwa [e] at this

theorem takeOpt_elim {μ : Mu} {ρ : Operand → Value} {p : Option Operand} {l r : List AV} {a : Option AV} {vs : List Value} (h : takeOpt p l = some (a, r)) (hl : vrL μ l (p.toList.map ρ ++ vs)) :
    optRel μ a (p.map ρ) ∧ vrL μ r vs := by
  cases p with
  | none => cases h; exact ⟨trivial, by simpa using hl⟩
  | some x =>
    cases l with
    | nil => cases h
    | cons b l =>
      cases h
      have hl' : vrL μ (b :: r) (ρ x :: vs) := by simpa using hl
      exact vrL_cons.1 hl'

/-- a call of a builtin that looks at no memory -/
theorem semCallP_sound {P : Program} {μ : Mu} {c : Call} {ty : TypeId} {args : List AV} {a : AV} {ρ : Operand → Value} {o : Oper} (ho : o.op = .call c) (hty : o.type = ty)
    (h : semCallP P c ty args = some a) (hv : ∀ b, c.callee = .builtin b → vrL μ args (c.args.map ρ).toList) (w : World) : ∃ v, (execOp ρ o).run P w = .ok (.value v) w ∧ vr μ a v := by
  obtain ⟨dst, op, ty', pos, after, guard⟩ := o
  simp only at ho hty
  subst ho; subst hty
  obtain ⟨callee, cargs, argTypes⟩ := c
  unfold semCallP at h
  simp only at h hv
  have hx : ∀ b (v : Value), (builtin b argTypes ty' (cargs.map fun | .const _ => true | _ => false) (cargs.map ρ)).run P w = .ok (.value v) w → callee = .builtin b →
      (execOp ρ ⟨dst, .call ⟨callee, cargs, argTypes⟩, ty', pos, after, guard⟩).run P w = .ok (.value v) w := fun b v hb hc => by
    subst hc; exact hb
  split at h
  · rename_i t x hts
    obtain rfl : argTypes = #[t] := Array.toList_inj.1 hts
    have hv' := hv .len rfl
    simp only [vrL] at hv'
    obtain ⟨v, r, e1, h1, rfl⟩ := hv'
    obtain ⟨z, g1, g2⟩ := aLen_sound h h1 ty' w
    refine ⟨z, hx .len z ?_ rfl, g2⟩
    rw [show cargs.map ρ = #[v] from Array.toList_inj.1 e1]
    exact run_value g1
  · rename_i t x hts
    obtain rfl : argTypes = #[t] := Array.toList_inj.1 hts
    have hv' := hv .cap rfl
    simp only [vrL] at hv'
    obtain ⟨v, r, e1, h1, rfl⟩ := hv'
    obtain ⟨z, g1, g2⟩ := aCap_sound h h1 ty' w
    refine ⟨z, hx .cap z ?_ rfl, g2⟩
    rw [show cargs.map ρ = #[v] from Array.toList_inj.1 e1]
    exact run_value g1
  · rename_i ts l hc1
    have hv' := hv .min rfl
    unfold aMin at h
    split at h
    · rename_i vs hvs
      obtain ⟨z, g1, g2⟩ := pureV_ok h μ w
      refine ⟨z, hx .min z ?_ rfl, g2⟩
      rw [show cargs.map ρ = ⟨vs⟩ from Array.toList_inj.1 (toVs_vr _ _ _ hvs hv')]
      exact run_value g1
    · cases h
  · rename_i ts l hc1
    have hv' := hv .max rfl
    unfold aMax at h
    split at h
    · rename_i vs hvs
      obtain ⟨z, g1, g2⟩ := pureV_ok h μ w
      refine ⟨z, hx .max z ?_ rfl, g2⟩
      rw [show cargs.map ρ = ⟨vs⟩ from Array.toList_inj.1 (toVs_vr _ _ _ hvs hv')]
      exact run_value g1
    · cases h
  · cases h

theorem allPtr_get : ∀ (l : List AV), allPtr l = true → ∀ {i : Nat} {a : AV}, l[i]? = some a → ∃ o k, a = .ptr o k
  | [], _, i, a, h => by simp at h
  | x :: l, hb, i, a, h => by
    cases x <;> try (cases hb; done)
    rename_i o k
    have hb : allPtr l = true := hb
    cases i with
    | zero => simp at h; exact ⟨o, k, h.symm⟩
    | succ i => simp at h; exact allPtr_get l hb h


set_option maxHeartbeats 1000000 in
/-- an operation that looks at no memory -/
theorem semP_sound {P : Program} {μ : Mu} {ev : Od → Option AV} {od : Operand → Od} {ρ : Operand → Value} {o : Oper} {a : AV} (hr : OdRel μ ev od ρ)
    (h : semP P o.op o.type ev (o.op.operands.toList.map od) = some a) (w : World) : ∃ v, (execOp ρ o).run P w = .ok (.value v) w ∧ vr μ a v := by
  obtain ⟨dst, op, ty, pos, after, guard⟩ := o
  cases op <;> simp only [semP] at h <;> try (cases h; done)
  case move x => obtain ⟨b, h1, h2⟩ := one_elim (x := x) h hr; cases h2; exact ⟨_, rfl, h1⟩
  case assign x => obtain ⟨b, h1, h2⟩ := one_elim (x := x) h hr; cases h2; exact ⟨_, rfl, h1⟩
  case pick c x y =>
    obtain ⟨b1, b2, b3, h1, h2, h3, h4⟩ := three_elim (x := c) (y := x) (z := y) h hr
    obtain ⟨t, rfl, rfl⟩ := pick3_elim h4
    simp only [vr] at h1
    refine ⟨if t then ρ x else ρ y, ?_, by cases t <;> assumption⟩
    simp only [execOp, h1]; cases t <;> rfl
  case build t parts =>
    obtain ⟨l, h1, h2⟩ := obind_elim h
    have hl := many_elim hr _ _ h1
    have hl' : vrL μ l (parts.toList.map fun p => ρ p.2) := by simpa [Op.operands, List.map_map, Function.comp_def] using hl
    obtain ⟨v, g1, g2⟩ := aBuild_sound (qs := parts.map fun p => (p.1, ρ p.2)) h2 (by rw [Array.toList_map]; exact parts_map parts.toList hl') w
    exact ⟨v, run_value g1, g2⟩
  case nilCheck x =>
    obtain ⟨b, h1, h2⟩ := one_elim (x := x) h hr
    unfold aNilCheck at h2
    split at h2
    · cases h2
      simp only [vr] at h1
      obtain ⟨p, g1, g2, g3⟩ := h1
      refine ⟨ρ x, ?_, by simp only [vr]; exact ⟨p, g1, g2, g3⟩⟩
      simp only [execOp, g3]; rfl
    · rename_i it g l
      cases hb : allPtr l with
      | false => rw [hb] at h2; cases h2
      | true =>
        rw [hb] at h2; cases h2
        simp only [vr] at h1
        obtain ⟨p, g1, g2, g3⟩ := h1
        obtain ⟨a, k1, k2⟩ := vrN_get.1 g3
        obtain ⟨o, k, rfl⟩ := allPtr_get l hb k1
        simp only [vr] at k2
        obtain ⟨q, m1, m2, m3⟩ := k2
        refine ⟨ρ x, ?_, by simp only [vr]; exact ⟨p, g1, g2, g3⟩⟩
        simp only [execOp, m3]; rfl
    · cases h2
      simp only [vr] at h1
      obtain ⟨xs, ys, g1, g2⟩ := h1
      refine ⟨ρ x, ?_, by simp only [vr]; exact ⟨xs, ys, g1, g2⟩⟩
      simp only [execOp, g1]; rfl
    · cases h2
  case binOp op t x y yt =>
    obtain ⟨b, c, h1, h2, h3⟩ := two_elim (x := x) (y := y) h hr
    obtain ⟨z, g1, g2⟩ := aBin_sound h3 h1 h2 w
    exact ⟨z, run_value g1, g2⟩
  case unOp op t x =>
    obtain ⟨b, h1, h2⟩ := one_elim (x := x) h hr
    obtain ⟨z, g1, g2⟩ := aUn_sound h2 h1 w
    exact ⟨z, run_value g1, g2⟩
  case convert s d x =>
    obtain ⟨b, h1, h2⟩ := one_elim (x := x) h hr
    obtain ⟨z, g1, g2⟩ := aConvP_sound h2 h1 w
    exact ⟨z, run_value g1, g2⟩
  case makeInterface t x =>
    obtain ⟨b, h1, h2⟩ := one_elim (x := x) h hr
    unfold aMakeIface at h2
    split at h2
    · cases h2
    · rename_i d hnd hu
      cases h2
      refine ⟨.iface t (ρ x), run_value ?_, by simp only [vr]; exact ⟨ρ x, rfl, h1⟩⟩
      unfold Instr.makeInterface
      rw [run_bind_ok (run_underlying hu w)]
      cases d <;> first | rfl | exact absurd rfl (hnd _)
    · cases h2
  case makeFunc fn first captured =>
    obtain ⟨l, h1, h2⟩ := obind_elim h
    have hl := many_elim hr _ _ h1
    unfold aMakeFunc at h2
    split at h2
    · rename_i f
      cases hb : Nat.beq (lenA l) (Nat.add first.size captured.size) with
      | false => rw [hb] at h2; cases h2
      | true =>
        rw [hb] at h2; cases h2
        refine ⟨.func (.func f) (first.map ρ) (captured.map ρ), rfl, ?_⟩
        have e : (Op.makeFunc (.func f) first captured).operands.toList.map ρ = (first.map ρ).toList ++ (captured.map ρ).toList := by simp [Op.operands]
        rw [e] at hl
        simp only [vr]
        refine ⟨(first.map ρ).toList, (captured.map ρ).toList, rfl, ?_, ?_⟩
        · have := vrL_take first.size _ _ hl
          rwa [List.take_left' (by simp)] at this
        · have := vrL_drop first.size _ _ hl
          rwa [List.drop_left' (by simp)] at this
    · cases h2
  case slice t x lo hi mx =>
    obtain ⟨l, h1, h2⟩ := obind_elim h
    have hl := many_elim hr _ _ h1
    unfold aSliceL at h2
    have key : ∀ (x' : AV) (alo ahi amx : Option AV), aSlice P t x' alo ahi amx = some a → vr μ x' (ρ x) → optRel μ alo (lo.map ρ) → optRel μ ahi (hi.map ρ) → optRel μ amx (mx.map ρ) →
        ∃ v, (execOp ρ ⟨dst, .slice t x lo hi mx, ty, pos, after, guard⟩).run P w = .ok (.value v) w ∧ vr μ a v := fun x' alo ahi amx e hx r1 r2 r3 => by
      obtain ⟨u, g1, g2⟩ := aSlice_sound e hx r1 r2 r3 w
      exact ⟨u, run_value g1, g2⟩
    cases l with
    | nil => cases h2
    | cons x' l =>
      have e : (Op.slice t x lo hi mx).operands.toList.map ρ = ρ x :: (lo.toList.map ρ ++ (hi.toList.map ρ ++ (mx.toList.map ρ ++ []))) := by
        cases lo <;> cases hi <;> cases mx <;> rfl
      rw [e, vrL_cons] at hl
      obtain ⟨hx, hl⟩ := hl
      obtain ⟨alo, l1, t1, h3⟩ := obind2_elim (show obind2 (takeOpt lo l) _ = some a from h2)
      obtain ⟨r1, q1⟩ := takeOpt_elim t1 hl
      obtain ⟨ahi, l2, t2, h4⟩ := obind2_elim h3
      obtain ⟨r2, q2⟩ := takeOpt_elim t2 q1
      obtain ⟨amx, l3, t3, h5⟩ := obind2_elim h4
      obtain ⟨r3, q3⟩ := takeOpt_elim t3 q2
      exact key _ _ _ _ h5 hx r1 r2 r3
  case fieldAddr s x f =>
    obtain ⟨b, h1, h2⟩ := one_elim (x := x) h hr
    obtain ⟨z, g1, g2⟩ := aFieldAddr_sound h2 h1 w
    exact ⟨z, run_value g1, g2⟩
  case field t x f =>
    obtain ⟨b, h1, h2⟩ := one_elim (x := x) h hr
    unfold aFieldOf at h2
    split at h2
    · rename_i cs
      split at h2
      · rename_i off ft hf
        obtain ⟨fs, fd, e1, e2, e3, e4⟩ := aField_sound hf
        simp only [vr] at h1
        obtain ⟨xs, hx, hxs⟩ := h1
        obtain ⟨u, g1, g2⟩ := run_part h2 hxs w
        refine ⟨u, run_value ?_, g2⟩
        unfold Instr.field
        rw [run_bind_ok (run_underlying e1 w)]
        simp only [e2, hx]
        rw [show (asAgg (.agg ⟨xs⟩) : Sem (Array Value)) = pure ⟨xs⟩ from rfl, run_bind_ok (run_pure P _ w), e3, e4]
        exact g1
      · cases h2
    · cases h2
  case indexAddr t x i =>
    obtain ⟨b, c, h1, h2, h3⟩ := two_elim (x := x) (y := i) h hr
    obtain ⟨z, g1, g2⟩ := aIndexAddr_sound h3 h1 h2 w
    exact ⟨z, run_value g1, g2⟩
  case index t x i =>
    obtain ⟨b, c, h1, h2, h3⟩ := two_elim (x := x) (y := i) h hr
    obtain ⟨z, g1, g2⟩ := aIndex_sound h3 h1 h2 w
    exact ⟨z, run_value g1, g2⟩
  case extract x i =>
    obtain ⟨b, h1, h2⟩ := one_elim (x := x) h hr
    unfold aExtract at h2
    split at h2
    · rename_i vs
      simp only [vr] at h1
      obtain ⟨xs, hx, hxs⟩ := h1
      obtain ⟨v, g1, g2⟩ := vrL_get _ _ hxs i a h2
      refine ⟨v, run_value ?_, g2⟩
      simp only [hx, Instr.extract]
      rw [show (⟨xs⟩ : Array Value)[i]? = some v from by simpa using g1]
      rfl
    · cases h2
  case typeAssert x xt at_ ok =>
    obtain ⟨b, h1, h2⟩ := one_elim (x := x) h hr
    obtain ⟨z, g1, g2⟩ := aTypeAssert_sound (xt := xt) h2 h1 w
    exact ⟨z, run_value g1, g2⟩
  case call c =>
    obtain ⟨l, h1, h2⟩ := obind_elim h
    have hl := many_elim hr _ _ h1
    refine semCallP_sound (c := c) rfl rfl h2 (fun b hb => ?_) w
    have e : (Op.call c).operands.toList.map ρ = (c.args.map ρ).toList := by simp [Op.operands, Call.operands, hb]
    rwa [e] at hl

end Go.Proofs.Ytkccnomdfkhfnaa.Ev
