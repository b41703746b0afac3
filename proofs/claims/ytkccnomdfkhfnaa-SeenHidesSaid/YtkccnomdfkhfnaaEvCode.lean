/- What functions of the program compute, written down; read off their code. -/
import Derived.Test.YtkccnomdfkhfnaaEvOps
set_option linter.unusedSimpArgs false
set_option linter.unusedVariables false
namespace Go.Proofs.Ytkccnomdfkhfnaa.Ev
open Go.RowKit

/-! ## loops -/
def LoopW (P : Program) (c : Code) (Q : Exit → Act → World → Prop) (a : Act) (w : World) : Prop :=
  ∀ (b : Frame) (k : List Item) (cs : List Frame), ∃ e a' w', Q e a' w' ∧ Arrives P (lone (b.at a (.code c :: .inLoop c :: k)) cs w) b k cs e a' w'

theorem LoopW.round {P : Program} {c : Code} {Q : Exit → Act → World → Prop} {a : Act} {w : World} (h : c.wp P (Exit.then (LoopW P c Q) Q) a w) : LoopW P c Q a w := by
  intro b k cs
  obtain ⟨e, a1, w1, hq, harr⟩ := h b (.inLoop c :: k) cs
  cases e with
  | normal =>
    obtain ⟨e2, a2, w2, hq2, harr2⟩ := hq b k cs
    exact ⟨e2, a2, w2, hq2, .of_steps (Steps.trans harr (.one step_inLoop)) harr2⟩
  | exit id => exact ⟨_, a1, w1, hq, .pass (x := .inLoop c) rfl (fun _ _ => .inl (by simp)) harr⟩
  | goto l => exact ⟨_, a1, w1, hq, .pass (x := .inLoop c) rfl (fun _ _ => .inl (by simp)) harr⟩
  | ret => exact ⟨_, a1, w1, hq, .pass (x := .inLoop c) rfl (fun _ _ => .inl (by simp)) harr⟩
  | panic ch => exact ⟨_, a1, w1, hq, .pass (x := .inLoop c) rfl (fun _ _ => .inl (by simp)) harr⟩
  | outgrown => exact ⟨_, a1, w1, hq, .pass (x := .inLoop c) rfl (fun _ _ => .inl (by simp)) harr⟩
theorem LoopW.wp {P : Program} {c : Code} {Q : Exit → Act → World → Prop} {a : Act} {w : World} (h : LoopW P c Q a w) : (Code.loop c).wp P Q a w := fun b k cs =>
  let ⟨e, a', w', hq, harr⟩ := h b k cs
  ⟨e, a', w', hq, .of_steps (.one step_loop) harr⟩

/-! ## code -/
/-- behind code: what is so; where no loop was told of, all that was before is kept in its place -/
structure PostL (L : Bool) (n0 : Nat) (w0 : World) (μ : Mu) (st : St) (μ' : Mu) (st' : St) (w' : World) : Prop where
  rs : RS n0 w0 μ' st' w'
  fz : FzExt μ.fz μ'.fz
  f0 : μ'.f0 = μ.f0
  kp : μ'.kp = μ.kp
  full : L = false → Post n0 w0 μ st μ' st' w'
theorem PostL.of {L : Bool} {n0 : Nat} {w0 : World} {μ μ' : Mu} {st st' : St} {w' : World} (h : Post n0 w0 μ st μ' st' w') : PostL L n0 w0 μ st μ' st' w' := ⟨h.rs, h.ext.fz, h.ext.f0, h.ext.kp, fun _ => h⟩
theorem PostL.trans {L : Bool} {n0 : Nat} {w0 : World} {μ μ' μ'' : Mu} {st st' st'' : St} {w' w'' : World} (h : PostL L n0 w0 μ st μ' st' w') (k : PostL L n0 w0 μ' st' μ'' st'' w'') : PostL L n0 w0 μ st μ'' st'' w'' :=
  ⟨k.rs, h.fz.trans k.fz, k.f0.trans h.f0, k.kp.trans h.kp, fun e => (h.full e).trans (k.full e)⟩

def Ends (L : Bool) (X nt n0 : Nat) (w0 : World) (μ : Mu) (st : St) (a : Act) (Q : Exit → Act → World → Prop) : Res → Prop
  | .no => False
  | .ok tm' st' => AllP st'.x.cs ∧ ∀ μ' a' w', PostL L n0 w0 μ st μ' st' w' → a'.defers = a.defers → TmRel X nt μ' tm' a'.tmps → Q .normal a' w'
  | .ex id tm' st' => AllP st'.x.cs ∧ ∀ μ' a' w', PostL L n0 w0 μ st μ' st' w' → a'.defers = a.defers → TmRel X nt μ' tm' a'.tmps → Q (.exit id) a' w'
  | .rt tm' st' => AllP st'.x.cs ∧ ∀ μ' a' w', PostL L n0 w0 μ st μ' st' w' → a'.defers = a.defers → TmRel X nt μ' tm' a'.tmps → Q .ret a' w'
def ResGr (st : St) : Res → Prop
  | .no => True
  | .ok _ st' => Gr st st'
  | .ex _ _ st' => Gr st st'
  | .rt _ st' => Gr st st'

section
variable {L : Bool} {X nt n0 : Nat} {w0 : World} {μ μ1 : Mu} {st st1 : St} {w1 : World} {a a1 : Act} {Q Q' : Exit → Act → World → Prop} {r : Res}
theorem Ends.after (h : Ends L X nt n0 w0 μ st a Q r) (hp : PostL L n0 w0 μ st μ1 st1 w1) (hd : a1.defers = a.defers) : Ends L X nt n0 w0 μ1 st1 a1 Q r := by
  cases r with
  | no => exact h
  | ok tm' st' => exact ⟨h.1, fun μ' a' w' g1 g2 g3 => h.2 μ' a' w' (hp.trans g1) (g2.trans hd) g3⟩
  | ex id tm' st' => exact ⟨h.1, fun μ' a' w' g1 g2 g3 => h.2 μ' a' w' (hp.trans g1) (g2.trans hd) g3⟩
  | rt tm' st' => exact ⟨h.1, fun μ' a' w' g1 g2 g3 => h.2 μ' a' w' (hp.trans g1) (g2.trans hd) g3⟩
/-- what was assumed before -/
theorem Ends.all (h : Ends L X nt n0 w0 μ st a Q r) (hg : ResGr st1 r) : AllP st1.x.cs := by
  cases r with
  | no => exact h.elim
  | ok tm' st' => exact Gr.all hg h.1
  | ex id tm' st' => exact Gr.all hg h.1
  | rt tm' st' => exact Gr.all hg h.1
theorem ResGr.trans (h : Gr st st1) (k : ResGr st1 r) : ResGr st r := by
  cases r with
  | no => trivial
  | ok tm' st' => exact h.trans k
  | ex id tm' st' => exact h.trans k
  | rt tm' st' => exact h.trans k
theorem ResGr.andThen {k : Tr AV → St → Res} (h : ResGr st r) (hk : ∀ tm st, ResGr st (k tm st)) : ResGr st (r.andThen k) := by
  cases r with
  | no => trivial
  | ok tm' st' => exact ResGr.trans h (hk tm' st')
  | ex id tm' st' => exact h
  | rt tm' st' => exact h
theorem ResGr.upto {id : Nat} (h : ResGr st r) : ResGr st (r.upto id) := by
  cases r with
  | no => trivial
  | ok tm' st' => exact h
  | ex id' tm' st' =>
    show ResGr st (bsel (Nat.beq id' id) (.ok tm' st') (.ex id' tm' st'))
    rw [bsel_eq]; split <;> exact h
  | rt tm' st' => exact h
theorem andThen_elim {k : Tr AV → St → Res} (h : Ends L X nt n0 w0 μ st a Q (r.andThen k)) (hg : ∀ tm st, ResGr st (k tm st))
    (hn : ∀ tm1 st1, Ends L X nt n0 w0 μ st a Q (k tm1 st1) → ∀ μ' a' w', PostL L n0 w0 μ st μ' st1 w' → a'.defers = a.defers → TmRel X nt μ' tm1 a'.tmps → Q' .normal a' w')
    (he : ∀ id a' w', Q (.exit id) a' w' → Q' (.exit id) a' w') (hr : ∀ a' w', Q .ret a' w' → Q' .ret a' w') : Ends L X nt n0 w0 μ st a Q' r := by
  cases r with
  | no => exact h
  | ok tm1 st1 => exact ⟨Ends.all (r := k tm1 st1) h (hg tm1 st1), fun μ' a' w' g1 g2 g3 => hn tm1 st1 h μ' a' w' g1 g2 g3⟩
  | ex id tm1 st1 => exact ⟨h.1, fun μ' a' w' g1 g2 g3 => he _ _ _ (h.2 μ' a' w' g1 g2 g3)⟩
  | rt tm1 st1 => exact ⟨h.1, fun μ' a' w' g1 g2 g3 => hr _ _ (h.2 μ' a' w' g1 g2 g3)⟩
end

/-- what is told of a region that draws its order is so -/
structure DrawSound (P : Program) (cf : CallF) : Prop where
  grow : ∀ X pl ok tm st, XP (evDraw P cf X pl ok tm st) st
  told : ∀ (X nt n0 : Nat) (w0 : World) (μ : Mu) (tm tm' : Tr AV) (st st' : St) (a : Act) (w : World) (ops : Array Oper) (id : Nat) (Q : Exit → Act → World → Prop), RS n0 w0 μ st w → TmRel X nt μ tm a.tmps →
    evDraw P cf X (plan P ops) (bsel (dstsIn nt ops.toList) (planOk ops (plan P ops)) false) tm st = some (tm', st') → AllP st'.x.cs →
    (∀ μ' a' w', Post n0 w0 μ st μ' st' w' → a'.defers = a.defers → TmRel X nt μ' tm' a'.tmps → Q .normal a' w') → (Code.region id ops true).wp P Q a w

/-- what is told of a loop is so -/
def LoopOk (P : Program) (X nt : Nat) (c : Code) (s : LSpec) : Prop :=
  ∀ (n0 : Nat) (w0 : World) (μ : Mu) (tm : Tr AV) (st : St) (a : Act) (w : World) (Q : Exit → Act → World → Prop), RS n0 w0 μ st w → TmRel X nt μ tm a.tmps → Ends true X nt n0 w0 μ st a Q (s tm st) → LoopW P c Q a w
structure LoopsOk (P : Program) (L : Bool) (X nt : Nat) (ls : Nat → Option LSpec) (k : Nat) (c : Code) : Prop where
  on : ∀ j s, ls j = some s → L = true
  grow : ∀ j s, ls j = some s → ∀ tm st, ResGr st (s tm st)
  told : ∀ j s cl, ls (k + j) = some s → nthLoop c j = some cl → LoopOk P X nt cl s

theorem nthLoop_lt : ∀ (c : Code) (j : Nat) (cl : Code), nthLoop c j = some cl → j < loopsIn c
  | .seq a b, j, cl, h => by
    have h : bsel (Nat.blt j (loopsIn a)) (nthLoop a j) (nthLoop b (Nat.sub j (loopsIn a))) = some cl := h
    show j < loopsIn a + loopsIn b
    rcases bsel_some h with ⟨h1, h2⟩ | ⟨h1, h2⟩
    · have := nthLoop_lt a j cl h2; omega
    · have := nthLoop_lt b _ cl h2; rw [sub_eq'] at this; omega
  | .cond _ a b, j, cl, h => by
    have h : bsel (Nat.blt j (loopsIn a)) (nthLoop a j) (nthLoop b (Nat.sub j (loopsIn a))) = some cl := h
    show j < loopsIn a + loopsIn b
    rcases bsel_some h with ⟨h1, h2⟩ | ⟨h1, h2⟩
    · have := nthLoop_lt a j cl h2; omega
    · have := nthLoop_lt b _ cl h2; rw [sub_eq'] at this; omega
  | .block _ a, j, cl, h => nthLoop_lt a j cl h
  | .loop a, j, cl, h => by
    have h : bsel (Nat.beq j 0) (some a) (nthLoop a (Nat.sub j 1)) = some cl := h
    show j < loopsIn a + 1
    rcases bsel_some h with ⟨h1, h2⟩ | ⟨h1, h2⟩
    · rw [beq_iff'] at h1; omega
    · have := nthLoop_lt a _ cl h2; rw [sub_eq'] at this; omega
  | .skip, _, _, h => nomatch h
  | .label _, _, _, h => nomatch h
  | .exit _, _, _, h => nomatch h
  | .goto _, _, _, h => nomatch h
  | .ret, _, _, h => nomatch h
  | .region .., _, _, h => nomatch h
  | .rangeFunc .., _, _, h => nomatch h
  | .scope _, _, _, h => nomatch h
  | .refuse _, _, _, h => nomatch h

section
variable {P : Program} {cf : CallF} {L : Bool} {X nt n0 : Nat} {w0 : World} {ls : Nat → Option LSpec}
theorem LoopsOk.pair {k : Nat} {a b c : Code} (hn : ∀ j, nthLoop c j = bsel (Nat.blt j (loopsIn a)) (nthLoop a j) (nthLoop b (Nat.sub j (loopsIn a)))) (h : LoopsOk P L X nt ls k c) : LoopsOk P L X nt ls k a ∧ LoopsOk P L X nt ls (k + loopsIn a) b := by
  refine ⟨⟨h.on, h.grow, fun j s cl h1 h2 => h.told j s cl h1 ?_⟩, ⟨h.on, h.grow, fun j s cl h1 h2 => h.told (loopsIn a + j) s cl (by rw [← Nat.add_assoc]; exact h1) ?_⟩⟩
  · rw [hn, blt_iff.2 (nthLoop_lt a j cl h2), bsel_true]; exact h2
  · have : Nat.blt (loopsIn a + j) (loopsIn a) = false := by
      cases q : Nat.blt (loopsIn a + j) (loopsIn a) with
      | false => rfl
      | true => rw [blt_iff] at q; omega
    rw [hn, this, bsel_false, sub_eq', Nat.add_sub_cancel_left]; exact h2
theorem LoopsOk.inner {k : Nat} {a : Code} (h : LoopsOk P L X nt ls k (.loop a)) : LoopsOk P L X nt ls (k + 1) a :=
  ⟨h.on, h.grow, fun j s cl h1 h2 => h.told (j + 1) s cl (by rw [Nat.add_comm j 1, ← Nat.add_assoc]; exact h1) (by
    show bsel (Nat.beq (j + 1) 0) (some a) (nthLoop a (Nat.sub (j + 1) 1)) = some cl
    rw [show Nat.beq (j + 1) 0 = false from rfl, bsel_false]; exact h2)⟩

theorem iter_gr {f : Tr AV → St → Res} (hf : ∀ tm st, ResGr st (f tm st)) : ∀ (n : Nat) (tm : Tr AV) (st : St), ResGr st (iter f n tm st)
  | 0, tm, st => trivial
  | n + 1, tm, st => by rw [iter_succ]; exact ResGr.andThen (hf tm st) (iter_gr hf n)
theorem evI_gr (hcf : CFGrow cf) (hdr : ∀ X pl ok tm st, XP (evDraw P cf X pl ok tm st) st) {lf : Nat} (hls : ∀ j s, ls j = some s → ∀ tm st, ResGr st (s tm st)) : ∀ (c : ICode) (tm : Tr AV) (st : St), ResGr st (evI P cf lf ls c tm st)
  | .skip, tm, st => Gr.refl st
  | .exit id, tm, st => Gr.refl st
  | .ret, tm, st => Gr.refl st
  | .no, tm, st => trivial
  | .reg ops ex, tm, st => by
    rw [evI_reg]
    cases hev : evOps P cf tm ops [] st with
    | none => trivial
    | some p =>
      obtain ⟨le, st'⟩ := p
      cases hex : export_ le tm ex with
      | none =>
        have : ofReg tm ex (some (le, st')) = .no := by unfold ofReg; simp only [hex]
        rw [this]; trivial
      | some tm' =>
        have : ofReg tm ex (some (le, st')) = .ok tm' st' := by unfold ofReg; simp only [hex]
        rw [this]
        exact evOps_gr hcf _ _ _ _ _ hev
  | .draw Y pl ok, tm, st => by
    rw [evI_draw]
    cases hev : evDraw P cf Y pl ok tm st with
    | none => trivial
    | some p =>
      obtain ⟨tm', st'⟩ := p
      exact hdr _ _ _ _ _ _ _ hev
  | .seq a b, tm, st => by rw [evI_seq]; exact ResGr.andThen (evI_gr hcf hdr hls a tm st) (evI_gr hcf hdr hls b)
  | .cond c a b, tm, st => by
    rw [evI_cond]
    cases hv : evOd [] tm c with
    | none => trivial
    | some av =>
      cases av <;> try trivial
      case b x =>
        show ResGr st (bsel x _ _)
        cases x
        · exact evI_gr hcf hdr hls b tm st
        · exact evI_gr hcf hdr hls a tm st
      case x s =>
        cases s <;> try trivial
        rename_i x
        show ResGr st (Option.rec (motive := fun _ => Res) .no (fun p => bsel p.1 _ _) (ask x st))
        cases ha : ask x st with
        | none => trivial
        | some p =>
          obtain ⟨d, st'⟩ := p
          have hg : Gr st st' := ⟨[_], (ask_ok ha).1⟩
          cases d
          · exact ResGr.trans hg (evI_gr hcf hdr hls b tm st')
          · exact ResGr.trans hg (evI_gr hcf hdr hls a tm st')
  | .block id a, tm, st => by rw [evI_block]; exact ResGr.upto (evI_gr hcf hdr hls a tm st)
  | .loop k a, tm, st => by
    rw [evI_loop]
    cases hk : ls k with
    | none => exact iter_gr (evI_gr hcf hdr hls a) lf tm st
    | some s => exact hls k s hk tm st

theorem evI_sound (hcf : CFSound P cf) (hdr : DrawSound P cf) {lf : Nat} : ∀ (c : Code) (k : Nat) (tm : Tr AV) (st : St) (μ : Mu) (a : Act) (w : World) (Q : Exit → Act → World → Prop), LoopsOk P L X nt ls k c → RS n0 w0 μ st w → TmRel X nt μ tm a.tmps →
    Ends L X nt n0 w0 μ st a Q (evI P cf lf ls (comp P X nt k c) tm st) → c.wp P Q a w
  | .skip, k, tm, st, μ, a, w, Q, hl, h, ht, hE => wp_skip (hE.2 μ a w (.of (Post.refl h)) rfl ht)
  | .label _, k, tm, st, μ, a, w, Q, hl, h, ht, hE => wp_label (hE.2 μ a w (.of (Post.refl h)) rfl ht)
  | .exit id, k, tm, st, μ, a, w, Q, hl, h, ht, hE => wp_exit (hE.2 μ a w (.of (Post.refl h)) rfl ht)
  | .ret, k, tm, st, μ, a, w, Q, hl, h, ht, hE => wp_ret (hE.2 μ a w (.of (Post.refl h)) rfl ht)
  | .seq x y, k, tm, st, μ, a, w, Q, hl, h, ht, hE => by
    obtain ⟨hl1, hl2⟩ := hl.pair (a := x) (b := y) (fun _ => rfl)
    refine wp_seq (evI_sound (lf := lf) hcf hdr x k tm st μ a w _ hl1 h ht ?_)
    refine andThen_elim (show Ends L X nt n0 w0 μ st a Q ((evI P cf lf ls (comp P X nt k x) tm st).andThen (evI P cf lf ls (comp P X nt (Nat.add k (loopsIn x)) y))) from hE) (fun tm st => evI_gr hcf.grow hdr.grow hl.grow _ tm st) ?_ (fun _ _ _ g => g) (fun _ _ g => g)
    intro tm1 st1 hE1 μ' a' w' g1 g2 g3
    exact evI_sound (lf := lf) hcf hdr y _ tm1 st1 μ' a' w' Q hl2 g1.rs g3 (hE1.after g1 g2)
  | .cond c x y, k, tm, st, μ, a, w, Q, hl, h, ht, hE => by
    obtain ⟨hl1, hl2⟩ := hl.pair (a := x) (b := y) (fun _ => rfl)
    have hE : Ends L X nt n0 w0 μ st a Q (doCond (evOd [] tm (odOf [] c)) st (evI P cf lf ls (comp P X nt k x) tm) (evI P cf lf ls (comp P X nt (Nat.add k (loopsIn x)) y) tm)) := hE
    cases hv : evOd [] tm (odOf [] c) with
    | none => rw [hv] at hE; exact hE.elim
    | some av =>
      have hr := ht.start.od c av hv
      rw [hv] at hE
      cases av <;> try exact hE.elim
      case b t =>
        simp only [vr] at hr
        refine wp_cond hr ?_
        cases t with
        | true => exact evI_sound (lf := lf) hcf hdr x k tm st μ a w Q hl1 h ht hE
        | false => exact evI_sound (lf := lf) hcf hdr y _ tm st μ a w Q hl2 h ht hE
      case x s =>
        cases s <;> try exact hE.elim
        rename_i t
        have hr := vr_x.1 hr
        refine wp_cond hr ?_
        have hE : Ends L X nt n0 w0 μ st a Q (Option.rec (motive := fun _ => Res) .no (fun p => bsel p.1 (evI P cf lf ls (comp P X nt k x) tm p.2) (evI P cf lf ls (comp P X nt (Nat.add k (loopsIn x)) y) tm p.2)) (ask t st)) := hE
        cases ha : ask t st with
        | none => rw [ha] at hE; exact hE.elim
        | some p =>
          obtain ⟨d, st'⟩ := p
          rw [ha] at hE
          have hE : Ends L X nt n0 w0 μ st a Q (bsel d (evI P cf lf ls (comp P X nt k x) tm st') (evI P cf lf ls (comp P X nt (Nat.add k (loopsIn x)) y) tm st')) := hE
          have hp := ask_post h ha
          have hgr : ResGr st' (bsel d (evI P cf lf ls (comp P X nt k x) tm st') (evI P cf lf ls (comp P X nt (Nat.add k (loopsIn x)) y) tm st')) := by
            cases d <;> exact evI_gr hcf.grow hdr.grow hl.grow _ tm st'
          have hall := hE.all hgr
          rw [(ask_ok ha).1] at hall
          have htd : t = d := hall.cons.1
          subst htd
          cases t with
          | true => exact evI_sound (lf := lf) hcf hdr x k tm st' μ a w Q hl1 hp.rs ht (hE.after (.of hp) rfl)
          | false => exact evI_sound (lf := lf) hcf hdr y _ tm st' μ a w Q hl2 hp.rs ht (hE.after (.of hp) rfl)
  | .block id x, k, tm, st, μ, a, w, Q, hl, h, ht, hE => by
    have hl1 : LoopsOk P L X nt ls k x := ⟨hl.on, hl.grow, hl.told⟩
    have hE : Ends L X nt n0 w0 μ st a Q ((evI P cf lf ls (comp P X nt k x) tm st).upto id) := hE
    refine wp_block (evI_sound (lf := lf) hcf hdr x k tm st μ a w _ hl1 h ht ?_)
    cases hr : evI P cf lf ls (comp P X nt k x) tm st with
    | no => rw [hr] at hE; exact hE.elim
    | ok tm1 st1 => rw [hr] at hE; exact hE
    | ex id' tm1 st1 =>
      rw [hr] at hE
      have hE : Ends L X nt n0 w0 μ st a Q (bsel (Nat.beq id' id) (.ok tm1 st1) (.ex id' tm1 st1)) := hE
      rw [bsel_eq] at hE
      by_cases e : id' = id
      · rw [if_pos (beq_iff'.2 e)] at hE
        refine ⟨hE.1, fun μ' a' w' g1 g2 g3 => ?_⟩
        show if id' = id then Q .normal a' w' else Q (.exit id') a' w'
        rw [if_pos e]; exact hE.2 μ' a' w' g1 g2 g3
      · rw [if_neg (fun g => e (beq_iff'.1 g))] at hE
        refine ⟨hE.1, fun μ' a' w' g1 g2 g3 => ?_⟩
        show if id' = id then Q .normal a' w' else Q (.exit id') a' w'
        rw [if_neg e]; exact hE.2 μ' a' w' g1 g2 g3
    | rt tm1 st1 => rw [hr] at hE; exact hE
  | .loop x, k, tm, st, μ, a, w, Q, hl, h, ht, hE => by
    have hE : Ends L X nt n0 w0 μ st a Q (doLoop (ls k) (iter (evI P cf lf ls (comp P X nt (Nat.succ k) x)) lf) tm st) := hE
    cases hk : ls k with
    | some s =>
      rw [hk] at hE
      have hL := hl.on k s hk
      subst hL
      exact (hl.told 0 s x (by rw [Nat.add_zero]; exact hk) rfl n0 w0 μ tm st a w Q h ht hE).wp
    | none =>
    rw [hk] at hE
    have key : ∀ n tm st μ a w, RS n0 w0 μ st w → TmRel X nt μ tm a.tmps → Ends L X nt n0 w0 μ st a Q (iter (evI P cf lf ls (comp P X nt (Nat.succ k) x)) n tm st) → LoopW P x Q a w := by
      intro n
      induction n with
      | zero => intro tm st μ a w h ht hE; exact hE.elim
      | succ n ih =>
        intro tm st μ a w h ht hE
        rw [iter_succ] at hE
        refine LoopW.round (evI_sound (lf := lf) hcf hdr x _ tm st μ a w _ hl.inner h ht ?_)
        refine andThen_elim hE (fun tm st => iter_gr (fun tm st => evI_gr hcf.grow hdr.grow hl.grow _ tm st) n tm st) ?_ (fun _ _ _ g => g) (fun _ _ g => g)
        intro tm1 st1 hE1 μ' a' w' g1 g2 g3
        exact ih tm1 st1 μ' a' w' g1.rs g3 (hE1.after g1 g2)
    exact (key lf tm st μ a w h ht hE).wp
  | .region id ops false, k, tm, st, μ, a, w, Q, hl, h, ht, hE => by
    have hE : Ends L X nt n0 w0 μ st a Q (evI P cf lf ls (bsel (dstsIn nt ops.toList) (.reg (iops P ops ops.toList []) (exps X (dstsOf ops) 0)) .no) tm st) := hE
    cases hd : dstsIn nt ops.toList with
    | false => rw [hd] at hE; exact hE.elim
    | true =>
      rw [hd, bsel_true, evI_reg] at hE
      cases hev : evOps P cf tm (iops P ops ops.toList []) [] st with
      | none => rw [hev] at hE; exact hE.elim
      | some p =>
        obtain ⟨le, st'⟩ := p
        rw [hev] at hE
        cases hex : export_ le tm (exps X (dstsOf ops) 0) with
        | none =>
          have : ofReg tm (exps X (dstsOf ops) 0) (some (le, st')) = .no := by unfold ofReg; simp only [hex]
          rw [this] at hE; exact hE.elim
        | some tm' =>
          have : ofReg tm (exps X (dstsOf ops) 0) (some (le, st')) = .ok tm' st' := by unfold ofReg; simp only [hex]
          rw [this] at hE
          refine wp_region ?_
          rw [List.range_eq_range', show ops.size = ops.toList.length from by simp]
          refine evOps_sound hcf (X := X) (nt := nt) hE.1 ops.toList 0 [] [] μ st a w (by simp) hd h ht.start hev fun μ' a' w' g1 g2 g3 => hE.2 μ' a' w' (.of g1) g2 ?_
          exact LeRel.out (by simpa [dstsOf] using g3) (fun t av hh => (ht.rel t av hh).1) hex
  | .region id ops true, k, tm, st, μ, a, w, Q, hl, h, ht, hE => by
    have hE : Ends L X nt n0 w0 μ st a Q (ofDraw (evDraw P cf X (plan P ops) (bsel (dstsIn nt ops.toList) (planOk ops (plan P ops)) false) tm st)) := hE
    cases hev : evDraw P cf X (plan P ops) (bsel (dstsIn nt ops.toList) (planOk ops (plan P ops)) false) tm st with
    | none => rw [hev] at hE; exact hE.elim
    | some p =>
      obtain ⟨tm', st'⟩ := p
      rw [hev] at hE
      exact hdr.told X nt n0 w0 μ tm tm' st st' a w ops id Q h ht hev hE.1 fun μ' a' w' g1 g2 g3 => hE.2 μ' a' w' (.of g1) g2 g3
  | .goto _, _, _, _, _, _, _, _, _, _, _, hE => hE.elim
  | .rangeFunc .., _, _, _, _, _, _, _, _, _, _, hE => hE.elim
  | .scope _, _, _, _, _, _, _, _, _, _, _, hE => hE.elim
  | .refuse _, _, _, _, _, _, _, _, _, _, _, hE => hE.elim
end
end Go.Proofs.Ytkccnomdfkhfnaa.Ev
