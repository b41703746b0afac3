import Derived.Test.YtaadcblcpojhhaaGreatDoorEvOps
namespace Go.Proofs.YtaadcblcpojhhaaGreatDoor.Ev
open Go.RowKit

/-! ## loops -/
def LoopW (P : Program) (c : Code) (Q : Exit → Act → World → Prop) (a : Act) (w : World) : Prop :=
  ∀ (b : Frame) (k : List Item) (cs : List Frame), ∃ e a' w', Q e a' w' ∧ Arrives P (lone (b.at a (.code c :: .inLoop c :: k)) cs w) b k cs e a' w'

theorem LoopW.round {P : Program} {c : Code} {Q : Exit → Act → World → Prop} {a : Act} {w : World} (h : c.wp P (Exit.then (LoopW P c Q) Q) a w) : LoopW P c Q a w := by
  intro b k cs
  obtain ⟨e, a1, w1, hq, harr⟩ := h b (.inLoop c :: k) cs
  cases e with
  | normal =>
    obtain ⟨e2, a2, w2, hq2, harr2⟩ := hq b k cs
    exact ⟨e2, a2, w2, hq2, .of_steps (Steps.trans harr (.one step_inLoop)) harr2⟩
  | exit id => exact ⟨_, a1, w1, hq, .pass (x := .inLoop c) rfl (fun _ _ => .inl (by simp)) harr⟩
  | goto l => exact ⟨_, a1, w1, hq, .pass (x := .inLoop c) rfl (fun _ _ => .inl (by simp)) harr⟩
  | ret => exact ⟨_, a1, w1, hq, .pass (x := .inLoop c) rfl (fun _ _ => .inl (by simp)) harr⟩
  | panic ch => exact ⟨_, a1, w1, hq, .pass (x := .inLoop c) rfl (fun _ _ => .inl (by simp)) harr⟩
  | outgrown => exact ⟨_, a1, w1, hq, .pass (x := .inLoop c) rfl (fun _ _ => .inl (by simp)) harr⟩
theorem LoopW.wp {P : Program} {c : Code} {Q : Exit → Act → World → Prop} {a : Act} {w : World} (h : LoopW P c Q a w) : (Code.loop c).wp P Q a w := fun b k cs =>
  let ⟨e, a', w', hq, harr⟩ := h b k cs
  ⟨e, a', w', hq, .of_steps (.one step_loop) harr⟩

/-! ## code -/
def Ends (X nt n0 : Nat) (w0 : World) (μ : Mu) (st : St) (a : Act) (Q : Exit → Act → World → Prop) : Res → Prop
  | .no => False
  | .ok tm' st' => ∀ μ' a' w', Post n0 w0 μ st μ' st' w' → a'.defers = a.defers → TmRel X nt μ' tm' a'.tmps → Q .normal a' w'
  | .ex id tm' st' => ∀ μ' a' w', Post n0 w0 μ st μ' st' w' → a'.defers = a.defers → TmRel X nt μ' tm' a'.tmps → Q (.exit id) a' w'
  | .rt tm' st' => ∀ μ' a' w', Post n0 w0 μ st μ' st' w' → a'.defers = a.defers → TmRel X nt μ' tm' a'.tmps → Q .ret a' w'

theorem Ends.after {X nt n0 : Nat} {w0 : World} {μ μ1 : Mu} {st st1 : St} {w1 : World} {a a1 : Act} {Q : Exit → Act → World → Prop} {r : Res} (h : Ends X nt n0 w0 μ st a Q r) (hp : Post n0 w0 μ st μ1 st1 w1) (hd : a1.defers = a.defers) :
    Ends X nt n0 w0 μ1 st1 a1 Q r := by
  cases r with
  | no => exact h
  | ok tm' st' => exact fun μ' a' w' g1 g2 g3 => h μ' a' w' (hp.trans g1) (g2.trans hd) g3
  | ex id tm' st' => exact fun μ' a' w' g1 g2 g3 => h μ' a' w' (hp.trans g1) (g2.trans hd) g3
  | rt tm' st' => exact fun μ' a' w' g1 g2 g3 => h μ' a' w' (hp.trans g1) (g2.trans hd) g3

/-- what is told of a region that draws its order is so -/
def DrawSound (P : Program) (cf : CallF) : Prop :=
  ∀ (X nt n0 : Nat) (w0 : World) (μ : Mu) (tm tm' : Tr AV) (st st' : St) (a : Act) (w : World) (ops : Array Oper) (id : Nat) (Q : Exit → Act → World → Prop), RS n0 w0 μ st w → TmRel X nt μ tm a.tmps →
    evDraw P cf X (plan P ops) (bsel (dstsIn nt ops.toList) (planOk ops (plan P ops)) false) tm st = some (tm', st') →
    (∀ μ' a' w', Post n0 w0 μ st μ' st' w' → a'.defers = a.defers → TmRel X nt μ' tm' a'.tmps → Q .normal a' w') → (Code.region id ops true).wp P Q a w

section
variable {P : Program} {cf : CallF} {X nt n0 : Nat} {w0 : World}

theorem andThen_elim {r : Res} {k : Tr AV → St → Res} {Q Q' : Exit → Act → World → Prop} {μ : Mu} {st : St} {a : Act} (h : Ends X nt n0 w0 μ st a Q (r.andThen k))
    (hn : ∀ tm1 st1, Ends X nt n0 w0 μ st a Q (k tm1 st1) → ∀ μ' a' w', Post n0 w0 μ st μ' st1 w' → a'.defers = a.defers → TmRel X nt μ' tm1 a'.tmps → Q' .normal a' w')
    (he : ∀ id a' w', Q (.exit id) a' w' → Q' (.exit id) a' w') (hr : ∀ a' w', Q .ret a' w' → Q' .ret a' w') : Ends X nt n0 w0 μ st a Q' r := by
  cases r with
  | no => exact h
  | ok tm1 st1 => exact fun μ' a' w' g1 g2 g3 => hn tm1 st1 h μ' a' w' g1 g2 g3
  | ex id tm1 st1 => exact fun μ' a' w' g1 g2 g3 => he _ _ _ (h μ' a' w' g1 g2 g3)
  | rt tm1 st1 => exact fun μ' a' w' g1 g2 g3 => hr _ _ (h μ' a' w' g1 g2 g3)

theorem evI_sound (hcf : CFSound P cf) (hdr : DrawSound P cf) {lf : Nat} : ∀ (c : Code) (tm : Tr AV) (st : St) (μ : Mu) (a : Act) (w : World) (Q : Exit → Act → World → Prop), RS n0 w0 μ st w → TmRel X nt μ tm a.tmps →
    Ends X nt n0 w0 μ st a Q (evI P cf lf (comp P X nt c) tm st) → c.wp P Q a w
  | .skip, tm, st, μ, a, w, Q, h, ht, hE => wp_skip (hE μ a w (Post.refl h) rfl ht)
  | .label _, tm, st, μ, a, w, Q, h, ht, hE => wp_label (hE μ a w (Post.refl h) rfl ht)
  | .exit id, tm, st, μ, a, w, Q, h, ht, hE => wp_exit (hE μ a w (Post.refl h) rfl ht)
  | .ret, tm, st, μ, a, w, Q, h, ht, hE => wp_ret (hE μ a w (Post.refl h) rfl ht)
  | .seq x y, tm, st, μ, a, w, Q, h, ht, hE => by
    refine wp_seq (evI_sound (lf := lf) hcf hdr x tm st μ a w _ h ht ?_)
    refine andThen_elim (show Ends X nt n0 w0 μ st a Q ((evI P cf lf (comp P X nt x) tm st).andThen (evI P cf lf (comp P X nt y))) from hE) ?_ (fun _ _ _ g => g) (fun _ _ g => g)
    intro tm1 st1 hE1 μ' a' w' g1 g2 g3
    exact evI_sound (lf := lf) hcf hdr y tm1 st1 μ' a' w' Q g1.rs g3 (hE1.after g1 g2)
  | .cond c x y, tm, st, μ, a, w, Q, h, ht, hE => by
    have hE : Ends X nt n0 w0 μ st a Q (doCond (evOd [] tm (odOf [] c)) (evI P cf lf (comp P X nt x) tm st) (evI P cf lf (comp P X nt y) tm st)) := hE
    cases hv : evOd [] tm (odOf [] c) with
    | none => rw [hv] at hE; exact hE.elim
    | some av =>
      have hr := ht.start.od c av hv
      rw [hv] at hE
      cases av <;> try exact hE.elim
      rename_i t
      simp only [vr] at hr
      refine wp_cond hr ?_
      cases t with
      | true => exact evI_sound (lf := lf) hcf hdr x tm st μ a w Q h ht hE
      | false => exact evI_sound (lf := lf) hcf hdr y tm st μ a w Q h ht hE
  | .block id x, tm, st, μ, a, w, Q, h, ht, hE => by
    have hE : Ends X nt n0 w0 μ st a Q ((evI P cf lf (comp P X nt x) tm st).upto id) := hE
    refine wp_block (evI_sound (lf := lf) hcf hdr x tm st μ a w _ h ht ?_)
    cases hr : evI P cf lf (comp P X nt x) tm st with
    | no => rw [hr] at hE; exact hE.elim
    | ok tm1 st1 => rw [hr] at hE; exact hE
    | ex id' tm1 st1 =>
      rw [hr] at hE
      have hE : Ends X nt n0 w0 μ st a Q (bsel (Nat.beq id' id) (.ok tm1 st1) (.ex id' tm1 st1)) := hE
      intro μ' a' w' g1 g2 g3
      show if id' = id then Q .normal a' w' else Q (.exit id') a' w'
      rw [bsel_eq] at hE
      by_cases e : id' = id
      · rw [if_pos e]; rw [if_pos (beq_iff'.2 e)] at hE; exact hE μ' a' w' g1 g2 g3
      · rw [if_neg e]; rw [if_neg (fun g => e (beq_iff'.1 g))] at hE; exact hE μ' a' w' g1 g2 g3
    | rt tm1 st1 => rw [hr] at hE; exact hE
  | .loop x, tm, st, μ, a, w, Q, h, ht, hE => by
    have hE : Ends X nt n0 w0 μ st a Q (iter (evI P cf lf (comp P X nt x)) lf tm st) := hE
    have key : ∀ n tm st μ a w, RS n0 w0 μ st w → TmRel X nt μ tm a.tmps → Ends X nt n0 w0 μ st a Q (iter (evI P cf lf (comp P X nt x)) n tm st) → LoopW P x Q a w := by
      intro n
      induction n with
      | zero => intro tm st μ a w h ht hE; exact hE.elim
      | succ n ih =>
        intro tm st μ a w h ht hE
        rw [iter_succ] at hE
        refine LoopW.round (evI_sound (lf := lf) hcf hdr x tm st μ a w _ h ht ?_)
        refine andThen_elim hE ?_ (fun _ _ _ g => g) (fun _ _ g => g)
        intro tm1 st1 hE1 μ' a' w' g1 g2 g3
        exact ih tm1 st1 μ' a' w' g1.rs g3 (hE1.after g1 g2)
    exact (key lf tm st μ a w h ht hE).wp
  | .region id ops false, tm, st, μ, a, w, Q, h, ht, hE => by
    have hE : Ends X nt n0 w0 μ st a Q (evI P cf lf (bsel (dstsIn nt ops.toList) (.reg (iops P ops ops.toList []) (exps X (dstsOf ops) 0)) .no) tm st) := hE
    cases hd : dstsIn nt ops.toList with
    | false => rw [hd] at hE; exact hE.elim
    | true =>
      rw [hd, bsel_true, evI_reg] at hE
      cases hev : evOps P cf tm (iops P ops ops.toList []) [] st with
      | none => rw [hev] at hE; exact hE.elim
      | some p =>
        obtain ⟨le, st'⟩ := p
        rw [hev] at hE
        cases hex : export_ le tm (exps X (dstsOf ops) 0) with
        | none =>
          have : ofReg tm (exps X (dstsOf ops) 0) (some (le, st')) = .no := by unfold ofReg; simp only [hex]
          rw [this] at hE; exact hE.elim
        | some tm' =>
          have : ofReg tm (exps X (dstsOf ops) 0) (some (le, st')) = .ok tm' st' := by unfold ofReg; simp only [hex]
          rw [this] at hE
          refine wp_region ?_
          rw [List.range_eq_range', show ops.size = ops.toList.length from by simp]
          refine evOps_sound hcf (X := X) (nt := nt) ops.toList 0 [] [] μ st a w (by simp) hd h ht.start hev fun μ' a' w' g1 g2 g3 => hE μ' a' w' g1 g2 ?_
          exact LeRel.out (by simpa [dstsOf] using g3) (fun t av hh => (ht.rel t av hh).1) hex
  | .region id ops true, tm, st, μ, a, w, Q, h, ht, hE => by
    have hE : Ends X nt n0 w0 μ st a Q (ofDraw (evDraw P cf X (plan P ops) (bsel (dstsIn nt ops.toList) (planOk ops (plan P ops)) false) tm st)) := hE
    cases hev : evDraw P cf X (plan P ops) (bsel (dstsIn nt ops.toList) (planOk ops (plan P ops)) false) tm st with
    | none => rw [hev] at hE; exact hE.elim
    | some p =>
      obtain ⟨tm', st'⟩ := p
      rw [hev] at hE
      exact hdr X nt n0 w0 μ tm tm' st st' a w ops id Q h ht hev hE
end
end Go.Proofs.YtaadcblcpojhhaaGreatDoor.Ev
