import Derived.Test.YtaadcblcpojhhaaGreatDoorEvFastD
set_option linter.unusedVariables false
set_option linter.unusedSimpArgs false
namespace Go.Proofs.YtaadcblcpojhhaaGreatDoor.Ev
open Go.RowKit

theorem dstsF_eq (nt : Nat) : ∀ (l : List Oper), dstsF nt l = dstsIn nt l
  | [] => rfl
  | o :: r => by
    show Option.rec (motive := fun _ => Bool) (dstsF nt r) (fun t => bsel (Nat.ble (Nat.succ t) nt) (dstsF nt r) false) o.dst = ((match o.dst with | some t => Nat.blt t nt | none => true) && dstsIn nt r)
    rw [dstsF_eq nt r]
    cases o.dst with
    | none => rfl
    | some t =>
      show bsel (Nat.ble (Nat.succ t) nt) (dstsIn nt r) false = (Nat.ble (Nat.succ t) nt && dstsIn nt r)
      cases Nat.ble (Nat.succ t) nt <;> rfl

section
variable {P : Program} {cf : CallF} {X nt n0 : Nat} {w0 : World}

theorem evF_sound (hcf : CFSound P cf) (hdr : DrawSound P cf) {lf : Nat} : ∀ (c : Code) (tm : Tr AV) (st : St) (μ : Mu) (a : Act) (w : World) (Q : Exit → Act → World → Prop), RS n0 w0 μ st w → TmRel X nt μ tm a.tmps →
    Ends X nt n0 w0 μ st a Q (evF P cf lf (compF P X nt c) tm st) → c.wp P Q a w
  | .skip, tm, st, μ, a, w, Q, h, ht, hE => wp_skip (hE μ a w (Post.refl h) rfl ht)
  | .label _, tm, st, μ, a, w, Q, h, ht, hE => wp_label (hE μ a w (Post.refl h) rfl ht)
  | .exit id, tm, st, μ, a, w, Q, h, ht, hE => wp_exit (hE μ a w (Post.refl h) rfl ht)
  | .ret, tm, st, μ, a, w, Q, h, ht, hE => wp_ret (hE μ a w (Post.refl h) rfl ht)
  | .goto _, tm, st, μ, a, w, Q, h, ht, hE => hE.elim
  | .scope _, tm, st, μ, a, w, Q, h, ht, hE => hE.elim
  | .refuse _, tm, st, μ, a, w, Q, h, ht, hE => hE.elim
  | .rangeFunc .., tm, st, μ, a, w, Q, h, ht, hE => hE.elim
  | .seq x y, tm, st, μ, a, w, Q, h, ht, hE => by
    refine wp_seq (evF_sound (lf := lf) hcf hdr x tm st μ a w _ h ht ?_)
    refine andThen_elim (show Ends X nt n0 w0 μ st a Q ((evF P cf lf (compF P X nt x) tm st).andThen (evF P cf lf (compF P X nt y))) from hE) ?_ (fun _ _ _ g => g) (fun _ _ g => g)
    intro tm1 st1 hE1 μ' a' w' g1 g2 g3
    exact evF_sound (lf := lf) hcf hdr y tm1 st1 μ' a' w' Q g1.rs g3 (hE1.after g1 g2)
  | .cond c x y, tm, st, μ, a, w, Q, h, ht, hE => by
    have hE : Ends X nt n0 w0 μ st a Q ((accOf 0 .nil c).on [] tm fun v => onB v (fun b => bsel b (evF P cf lf (compF P X nt x) tm st) (evF P cf lf (compF P X nt y) tm st)) .no) := hE
    rw [on_eq] at hE
    obtain ⟨av, hv, hE⟩ := ends_ofO hE
    have hr := ht.startF.od c av (by rw [← accOf_val]; exact hv)
    cases av <;> try exact hE.elim
    rename_i t
    simp only [vr] at hr
    refine wp_cond hr ?_
    cases t with
    | true => exact evF_sound (lf := lf) hcf hdr x tm st μ a w Q h ht hE
    | false => exact evF_sound (lf := lf) hcf hdr y tm st μ a w Q h ht hE
  | .block id x, tm, st, μ, a, w, Q, h, ht, hE => by
    have hE : Ends X nt n0 w0 μ st a Q ((evF P cf lf (compF P X nt x) tm st).upto id) := hE
    refine wp_block (evF_sound (lf := lf) hcf hdr x tm st μ a w _ h ht ?_)
    cases hr : evF P cf lf (compF P X nt x) tm st with
    | no => rw [hr] at hE; exact hE.elim
    | ok tm1 st1 => rw [hr] at hE; exact hE
    | ex id' tm1 st1 =>
      rw [hr] at hE
      have hE : Ends X nt n0 w0 μ st a Q (bsel (Nat.beq id' id) (.ok tm1 st1) (.ex id' tm1 st1)) := hE
      intro μ' a' w' g1 g2 g3
      show if id' = id then Q .normal a' w' else Q (.exit id') a' w'
      rw [bsel_eq] at hE
      by_cases e : id' = id
      · rw [if_pos e]; rw [if_pos (beq_iff'.2 e)] at hE; exact hE μ' a' w' g1 g2 g3
      · rw [if_neg e]; rw [if_neg (fun g => e (beq_iff'.1 g))] at hE; exact hE μ' a' w' g1 g2 g3
    | rt tm1 st1 => rw [hr] at hE; exact hE
  | .loop x, tm, st, μ, a, w, Q, h, ht, hE => by
    have hE : Ends X nt n0 w0 μ st a Q (iter (evF P cf lf (compF P X nt x)) lf tm st) := hE
    have key : ∀ n tm st μ a w, RS n0 w0 μ st w → TmRel X nt μ tm a.tmps → Ends X nt n0 w0 μ st a Q (iter (evF P cf lf (compF P X nt x)) n tm st) → LoopW P x Q a w := by
      intro n
      induction n with
      | zero => intro tm st μ a w h ht hE; exact hE.elim
      | succ n ih =>
        intro tm st μ a w h ht hE
        rw [iter_succ] at hE
        refine LoopW.round (evF_sound (lf := lf) hcf hdr x tm st μ a w _ h ht ?_)
        refine andThen_elim hE ?_ (fun _ _ _ g => g) (fun _ _ g => g)
        intro tm1 st1 hE1 μ' a' w' g1 g2 g3
        exact ih tm1 st1 μ' a' w' g1.rs g3 (hE1.after g1 g2)
    exact (key lf tm st μ a w h ht hE).wp
  | .region id ops false, tm, st, μ, a, w, Q, h, ht, hE => by
    have hE : Ends X nt n0 w0 μ st a Q (evF P cf lf (bsel (dstsF nt ops.toList) (.reg (fcomp P X ops ops.toList 0 .nil)) .no) tm st) := hE
    rw [dstsF_eq] at hE
    cases hd : dstsIn nt ops.toList with
    | false => rw [hd] at hE; exact hE.elim
    | true =>
      rw [hd, bsel_true] at hE
      refine wp_region ?_
      rw [List.range_eq_range', show ops.size = ops.toList.length from by simp]
      exact fcomp_sound hcf (X := X) (nt := nt) (fun t av hh => (ht.rel t av hh).1) ops.toList 0 0 .nil [] μ st a w (by simp) hd h ht.startF hE
  | .region id ops true, tm, st, μ, a, w, Q, h, ht, hE => by
    have hE : Ends X nt n0 w0 μ st a Q (drawK P cf (bsel (dstsF nt ops.toList) (planOk ops (plan P ops)) false) (plan P ops) ((plan P ops).any isBuild) (keepL isAl (plan P ops)) (fdList P (planL P ops) (plan P ops)) (keepL isRe (plan P ops)) (exD X (plan P ops)) tm st) := hE
    rw [dstsF_eq, drawK_eq] at hE
    cases hev : evDraw P cf X (plan P ops) (bsel (dstsIn nt ops.toList) (planOk ops (plan P ops)) false) tm st with
    | none => rw [hev] at hE; exact hE.elim
    | some p =>
      obtain ⟨tm', st'⟩ := p
      rw [hev] at hE
      exact hdr X nt n0 w0 μ tm tm' st st' a w ops id Q h ht hev hE
end

section
variable {P : Program} {cf : CallF} {n0 : Nat} {w0 : World} {μ : Mu} {st st' : St} {w : World}

theorem tmF_eq (l : List AV) : tmF l = tmOf l 0 .e := by
  unfold tmF
  split <;> rfl
theorem out_sound {X nt : Nat} {tm : Tr AV} {a : Act} {fn : Func} {r : AV} (h : RS n0 w0 μ st w) (ht : TmRel X nt μ tm a.tmps) (hr : (resK fn.results.toList).out P tm st = some (r, st')) :
    st' = st ∧ ∃ v, (results fn a.tmps).run P w = .ok v w ∧ vr μ r v := by
  refine ofRes_sound h ht ?_
  rw [← hr]
  unfold resK
  split
  · rename_i t he
    rw [he]
    show (match aResults P tm st [.tmp t] with | some [v] => some (v, st) | some vs => some (.tup vs, st) | none => none) = Option.rec (motive := fun _ => Option (AV × St)) none (fun v => some (v, st)) (getV (pth t) tm)
    rw [getV_pth, show aResults P tm st [.tmp t] = obind (tm.get t) fun v => some [v] from rfl]
    cases tm.get t <;> rfl
  · rfl

theorem bodyF_sound (hcf : CFSound P cf) (hdr : DrawSound P cf) {lf : Nat} {f : FuncId} {fn : Func} {c : Code} (hf : P.funcs[f]? = some fn) (hb : fn.body = some c) {args : List AV} {vs : Array Value} {r : AV}
    (h : RS n0 w0 μ st w) (ha : vrL μ args vs.toList) (hs : bodyF P cf lf (Nat.add fn.params.size fn.nfree) (compF P (maskF P fn c) fn.ntmps c) (resK fn.results.toList) args st = some (r, st')) :
    Calls P f vs w fun e w' => ∃ v, e = .returned v ∧ ∃ μ', Post n0 w0 μ st μ' st' w' ∧ vr μ' r v := by
  unfold bodyF at hs
  rcases bsel_some hs with ⟨hnp, hs⟩ | ⟨_, hs⟩
  case inr => cases hs
  rw [beq_iff', lenA_eq] at hnp
  have hlen : vs.size = args.length := by rw [← vrL_length _ _ ha]; simp
  have ht : TmRel (maskF P fn c) fn.ntmps μ (tmF args) (vs ++ Array.replicate (fn.ntmps - vs.size) undef) := by
    refine ⟨by simp; omega, fun t av hg => ?_⟩
    rw [tmF_eq, tmOf_get] at hg
    by_cases hlt : t < args.length
    · rw [if_pos (by omega), Nat.sub_zero] at hg
      refine ⟨by unfold maskF; rw [bit_lor, bit_low (by rw [← show args.length = Nat.add fn.params.size fn.nfree from hnp]; exact hlt)]; rfl, ?_⟩
      obtain ⟨v, h1, h2⟩ := vrL_get _ _ ha t av hg
      have : (vs ++ Array.replicate (fn.ntmps - vs.size) undef).getD t undef = v := by
        rw [Array.getD_eq_getD_getElem?, Array.getElem?_append_left (by omega)]
        rw [Array.getElem?_toList] at h1
        rw [h1]; rfl
      rw [this]; exact h2
    · rw [if_neg (by omega), Tr.get_e] at hg; cases hg
  refine calls_of_wp hf hb ?_
  refine evF_sound hcf hdr (lf := lf) c (tmF args) st μ { tmps := vs ++ Array.replicate (fn.ntmps - vs.size) undef, defers := [] } w _ h ht ?_
  generalize evF P cf lf (compF P (maskF P fn c) fn.ntmps c) (tmF args) st = res at hs
  cases res with
  | no => cases hs
  | ok tm1 st1 =>
    intro μ' a' w' g1 g2 g3
    obtain ⟨rfl, v, e1, e2⟩ := out_sound (fn := fn) g1.rs g3 hs
    exact ⟨g2, v, e1, v, rfl, μ', g1, e2⟩
  | ex id tm1 st1 => cases hs
  | rt tm1 st1 =>
    intro μ' a' w' g1 g2 g3
    obtain ⟨rfl, v, e1, e2⟩ := out_sound (fn := fn) g1.rs g3 hs
    exact ⟨g2, v, e1, v, rfl, μ', g1, e2⟩

theorem tryK_elim {args : List AV} {st : St} {d : Option (AV × St)} {x : AV × St} : ∀ {l : List Hook}, tryK args st d l = some x → (∃ h, h ∈ l ∧ h.fits args st = true ∧ h.told st = some x) ∨ d = some x
  | [], h => .inr h
  | k :: l, h => by
    rcases bsel_some (show bsel (k.fits args st) (k.told st) (tryK args st d l) = some x from h) with ⟨h1, h2⟩ | ⟨_, h2⟩
    · exact .inl ⟨k, List.mem_cons_self, h1, h2⟩
    · rcases tryK_elim h2 with ⟨h, a, b⟩ | h
      · exact .inl ⟨h, List.mem_cons_of_mem _ a, b⟩
      · exact .inr h
theorem callF_sound {g : Cfg} (hg : CfgOk P g) (hdr : ∀ cf, CFSound P cf → DrawSound P cf) : ∀ n, CFSound P (callF P g n)
  | 0 => fun f args st r st' hs => by cases hs
  | n + 1 => fun f args st r st' hs n0 w0 μ w vs h ha => by
    have ih := callF_sound hg hdr n
    rcases tryK_elim (show tryK args st (orSpec (specOf f g.specs) args st (plainF P g (callF P g n) f args st)) (hooksOf f g.hooks) = some (r, st') from hs) with ⟨k, hk, hfit, htold⟩ | hs
    · obtain ⟨h1, rfl⟩ := hooksOf_mem hk
      exact told_sound (hg.hk _ h1) hfit htold h ha
    cases hspec : specOf f g.specs with
    | some k =>
      rw [hspec] at hs
      exact .inr ⟨(hg.sp f k hspec).enter vs w, (hg.sp f k hspec).told hs h ha⟩
    | none =>
    rw [hspec] at hs
    have hs : FnF.rec (motive := fun _ => Option (AV × St)) (fun np code res split => bsel split (evSplit (bodyF P (callF P g n) g.lf np code res) args st) (bodyF P (callF P g n) g.lf np code res args st)) (evExt P g f args st) none (obind (aJoin st args) (keep st)) (fun b => bsel (Nat.beq (lenA args) 0) (some (.b b, st)) none) (fnF P g f) = some (r, st') := hs
    unfold fnF at hs
    cases hjn : memN f g.joins with
    | true =>
      rw [hjn, cond_true] at hs
      obtain ⟨av, h1, h2⟩ := obind_elim (show obind (aJoin st args) (keep st) = some (r, st') from hs)
      cases h2
      exact .inr ⟨(hg.jn f hjn).enter vs w, aJoin_sound h (hg.jn f hjn) h1 ha⟩
    | false =>
    rw [hjn, cond_false] at hs
    cases hcl : clOf f g.closed with
    | some b =>
      rw [hcl] at hs
      rcases bsel_some (show bsel (Nat.beq (lenA args) 0) (some (.b b, st)) none = some (r, st') from hs) with ⟨h1, h2⟩ | ⟨_, h2⟩
      case inr => cases h2
      cases h2
      rw [beq_iff', lenA_eq] at h1
      have hv : vs = #[] := by
        have := vrL_length _ _ ha
        have h0 : vs.toList.length = 0 := by omega
        exact Array.eq_empty_of_size_eq_zero (by simpa using h0)
      subst hv
      refine .inr ⟨(hg.cl f b hcl).enter _ w, ((hg.cl f b hcl).told w).mono fun e w' ⟨h1, h2⟩ => ⟨_, h1, μ, ⟨Ext.refl _, fun _ _ => rfl, h.beyond h2, Nat.le_refl _, rfl, fun _ _ => rfl⟩, ?_⟩⟩
      simp only [vr]
    | none =>
    rw [hcl] at hs
    cases hf : P.funcs.toList[f]? with
    | none => rw [hf] at hs; cases hs
    | some fn =>
      have hf' : P.funcs[f]? = some fn := by simpa using hf
      rw [hf] at hs
      dsimp only at hs
      cases hb : fn.body with
      | none =>
        rw [hb] at hs
        exact evExt_sound hg h hs ha
      | some c =>
        rw [hb] at hs
        dsimp only at hs
        have hrun : RunSound P f (bodyF P (callF P g n) g.lf (Nat.add fn.params.size fn.nfree) (compF P (maskF P fn c) fn.ntmps c) (resK fn.results.toList)) := fun args st r st' hs n0 w0 μ w vs h ha => bodyF_sound ih (hdr _ ih) hf' hb h ha hs
        rcases bsel_some hs with ⟨_, hs⟩ | ⟨_, hs⟩
        · exact .inr ⟨run_callFunc_enter hf' hb (hg.ng f fn c hf' hb) vs w, evSplit_sound hrun _ _ _ _ hs n0 w0 μ w vs h ha⟩
        · exact .inr ⟨run_callFunc_enter hf' hb (hg.ng f fn c hf' hb) vs w, hrun _ _ _ _ hs n0 w0 μ w vs h ha⟩
end

theorem calls_of_evF {P : Program} {g : Cfg} (hg : CfgOk P g) {n : Nat} {f : FuncId} {fn : Func} {c : Code} (hf : P.funcs[f]? = some fn) (hb : fn.body = some c) {args : List AV} {r : AV} {st' : St}
    (hev : callF P g n f args st00 = some (r, st')) {vs : Array Value} {w : World} (hbl : Below w.heap.size w w) (hv : vrL (fun _ => none) args vs.toList) :
    Calls P f vs w fun e w' => ∃ v, e = .returned v ∧ Below w.heap.size w w' ∧ ∃ μ', vr μ' r v := by
  have h := callF_sound hg (fun cf hc => evDraw_sound hg.mixed hc) n f args st00 r st' hev w.heap.size w (fun _ => none) w vs (RS.empty w hbl) hv
  rcases h with ⟨v, w', h1, _⟩ | ⟨_, h2⟩
  · rw [run_callFunc_enter hf hb (hg.ng f fn c hf hb)] at h1
    cases h1
  · exact h2.mono fun e w' ⟨v, h3, μ', h4, h5⟩ => ⟨v, h3, h4.rs.below, μ', h5⟩

theorem closed_of_evF {P : Program} {g : Cfg} (hg : CfgOk P g) {n : Nat} {f : FuncId} {fn : Func} {c : Code} (hf : P.funcs[f]? = some fn) (hb : fn.body = some c) {b : Bool} {st' : St}
    (hev : callF P g n f [] st00 = some (.b b, st')) : ClosedAt P f b :=
  ⟨fun vs w => run_callFunc_enter hf hb (hg.ng f fn c hf hb) vs w, fun w => (calls_of_evF hg hf hb hev (vs := #[]) (Below.refl _ w) (by simp only [vrL])).mono fun e w' ⟨v, h1, h2, μ', h3⟩ => by
    simp only [vr] at h3
    subst h3
    exact ⟨h1, h2⟩⟩
theorem hook_of_evF {P : Program} {g : Cfg} (hg : CfgOk P g) {n : Nat} {h : Hook} (hc : h.chk (callF P g n h.f h.args h.st) = true) : HookOk P h :=
  hook_of_sound (callF_sound hg (fun cf hc => evDraw_sound hg.mixed hc) n) hc
end Go.Proofs.YtaadcblcpojhhaaGreatDoor.Ev
