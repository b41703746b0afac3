import Derived.Test.YtaadcblcpojhhaaGreatDoorEvFastU
set_option linter.unusedVariables false
set_option linter.unusedSimpArgs false
namespace Go.Proofs.YtaadcblcpojhhaaGreatDoor.Ev
open Go.RowKit

/-! ## regions -/
def odG : Operand → Od
  | .tmp t => .v t
  | .const v => match cv 6 v with
    | some a => .c a
    | none => .x
  | .global _ => .x
  | .func f => .c (.fn f [] [])
noncomputable def evX (le : List AV) (tm : Tr AV) (n : Nat) (loc : LL) : Od → Option AV
  | .v t => ((loc.look t).acc n).val le tm
  | .c a => some a
  | _ => none
theorem accOf_val (le : List AV) (tm : Tr AV) (n : Nat) (loc : LL) (x : Operand) : (accOf n loc x).val le tm = evX le tm n loc (odG x) := by
  cases x with
  | tmp t => rfl
  | const v =>
    show ((Option.rec (motive := fun _ => Loc) (.out .x) (fun a => .out (.c a)) (cv 6 v) : Loc).acc n).val le tm = evX le tm n loc (match cv 6 v with | some a => .c a | none => .x)
    cases cv 6 v <;> rfl
  | global g => rfl
  | func f => rfl

def Acc.fixed : Acc → Prop
  | .v _ | .c _ | .x => True
  | _ => False
theorem Acc.fixed_val {a : Acc} (h : a.fixed) (le le' : List AV) (tm : Tr AV) : a.val le tm = a.val le' tm := by
  cases a <;> first | rfl | exact h.elim
def Loc.ok (n : Nat) : Loc → Prop
  | .abs k => k < n
  | .out a => a.fixed
theorem look_nil (t : Nat) : LL.nil.look t = .out (.v (pth t)) := rfl
theorem look_cons (u : Nat) (l : Loc) (r : LL) (t : Nat) : (LL.cons u l r).look t = if u = t then l else r.look t := by
  show bsel (Nat.beq u t) l (r.look t) = _
  rw [bsel_eq]
  simp only [Nat.beq_eq]

structure LeF (X nt : Nat) (μ : Mu) (tm : Tr AV) (n : Nat) (loc : LL) (le : List AV) (tmps : Array Value) : Prop where
  size : nt ≤ tmps.size
  len : le.length = n
  wf : ∀ t, (loc.look t).ok n
  rel : ∀ t av, ((loc.look t).acc n).val le tm = some av → vr μ av (tmps.getD t undef)

theorem LeF.ext {X nt : Nat} {μ μ' : Mu} {tm : Tr AV} {n : Nat} {loc : LL} {le : List AV} {tmps : Array Value} (h : LeF X nt μ tm n loc le tmps) (e : Ext μ μ') : LeF X nt μ' tm n loc le tmps :=
  ⟨h.size, h.len, h.wf, fun t av h1 => vr_ext e _ _ (h.rel t av h1)⟩
theorem TmRel.startF {X nt : Nat} {μ : Mu} {tm : Tr AV} {tmps : Array Value} (h : TmRel X nt μ tm tmps) : LeF X nt μ tm 0 .nil [] tmps :=
  ⟨h.size, rfl, fun t => trivial, fun t av h1 => (h.rel t av (by rw [← getV_pth]; exact h1)).2⟩
theorem acc_push {l : Loc} {n : Nat} (h : l.ok n) {le : List AV} (hl : le.length = n) (av : AV) (tm : Tr AV) : (l.acc (n + 1)).val (av :: le) tm = (l.acc n).val le tm := by
  cases l with
  | abs k =>
    have h : k < n := h
    show (lAcc (Nat.sub (Nat.sub (n + 1) 1) k)).val (av :: le) tm = (lAcc (Nat.sub (Nat.sub n 1) k)).val le tm
    rw [lAcc_val, lAcc_val, show Nat.sub (Nat.sub (n + 1) 1) k = (n - 1 - k) + 1 from by show n + 1 - 1 - k = _; omega, List.getElem?_cons_succ]
    rfl
  | out a => exact Acc.fixed_val h _ _ _
theorem LeF.put {X nt : Nat} {μ : Mu} {tm : Tr AV} {n : Nat} {loc : LL} {le : List AV} {a : Act} (h : LeF X nt μ tm n loc le a.tmps) {dst : Option Tmp} {av : AV} {v : Value}
    (hd : ∀ t, dst = some t → t < nt) (hv : vr μ av v) : LeF X nt μ tm (n + 1) (bind1 dst (.abs n) loc) (av :: le) (a.put dst v).tmps := by
  have old : ∀ t, ((loc.look t).ok (n + 1)) := fun t => by
    have := h.wf t
    cases hl : loc.look t with
    | abs k => rw [hl] at this; exact Nat.lt_succ_of_lt this
    | out a => rw [hl] at this; exact this
  cases dst with
  | none =>
    exact ⟨h.size, by simp [h.len], old, fun t b hb => h.rel t b (by rw [← acc_push (h.wf t) h.len av tm]; exact hb)⟩
  | some u =>
    have hu : u < a.tmps.size := Nat.lt_of_lt_of_le (hd u rfl) h.size
    have hput : ∀ t, (a.put (some u) v).tmps.getD t undef = if t = u then v else a.tmps.getD t undef := fun t => getD_put a.tmps t u v hu
    refine ⟨by show nt ≤ (a.tmps.setIfInBounds u v).size; rw [Array.size_setIfInBounds]; exact h.size, by simp [h.len], fun t => ?_, fun t b hb => ?_⟩
    · show (LL.look (.cons u (.abs n) loc) t).ok (n + 1)
      rw [look_cons]
      split
      · exact Nat.lt_succ_self n
      · exact old t
    · have hb : ((LL.look (.cons u (.abs n) loc) t).acc (n + 1)).val (av :: le) tm = some b := hb
      rw [look_cons] at hb
      rw [hput]
      by_cases e : u = t
      · subst e
        rw [if_pos rfl] at hb ⊢
        have hb : (lAcc (Nat.sub (Nat.sub (n + 1) 1) n)).val (av :: le) tm = some b := hb
        rw [lAcc_val, show Nat.sub (Nat.sub (n + 1) 1) n = 0 from by show n + 1 - 1 - n = 0; omega] at hb
        cases hb
        exact hv
      · rw [if_neg e] at hb
        rw [if_neg (fun g => e g.symm)]
        exact h.rel t b (by rw [← acc_push (h.wf t) h.len av tm]; exact hb)
theorem locOf_ok {n : Nat} {loc : LL} (h : ∀ t, (loc.look t).ok n) (x : Operand) : (locOf loc x).ok n := by
  cases x with
  | tmp t => exact h t
  | const v =>
    show (Option.rec (motive := fun _ => Loc) (.out .x) (fun a => .out (.c a)) (cv 6 v) : Loc).ok n
    cases cv 6 v <;> trivial
  | global g => trivial
  | func f => trivial
theorem LeF.od {X nt : Nat} {μ : Mu} {tm : Tr AV} {n : Nat} {loc : LL} {le : List AV} {a : Act} (h : LeF X nt μ tm n loc le a.tmps) : OdRel μ (evX le tm n loc) odG a.eval := by
  intro x av hx
  cases x with
  | tmp t => exact h.rel t av hx
  | const v =>
    simp only [odG] at hx
    cases hc : cv 6 v with
    | none => rw [hc] at hx; cases hx
    | some b => rw [hc] at hx; cases hx; exact cv_vr _ _ _ hc
  | global g => cases hx
  | func f =>
    cases hx
    simp only [vr]
    exact ⟨[], [], rfl, by simp only [vrL], by simp only [vrL]⟩
theorem LeF.move {X nt : Nat} {μ : Mu} {tm : Tr AV} {n : Nat} {loc : LL} {le : List AV} {a : Act} (h : LeF X nt μ tm n loc le a.tmps) {dst : Option Tmp} (x : Operand)
    (hd : ∀ t, dst = some t → t < nt) : LeF X nt μ tm n (bind1 dst (locOf loc x) loc) le (a.put dst (a.eval x)).tmps := by
  cases dst with
  | none => exact h
  | some u =>
    have hu : u < a.tmps.size := Nat.lt_of_lt_of_le (hd u rfl) h.size
    have hput : ∀ t, (a.put (some u) (a.eval x)).tmps.getD t undef = if t = u then a.eval x else a.tmps.getD t undef := fun t => getD_put a.tmps t u _ hu
    refine ⟨by show nt ≤ (a.tmps.setIfInBounds u _).size; rw [Array.size_setIfInBounds]; exact h.size, h.len, fun t => ?_, fun t b hb => ?_⟩
    · show (LL.look (.cons u (locOf loc x) loc) t).ok n
      rw [look_cons]
      split
      · exact locOf_ok h.wf x
      · exact h.wf t
    · have hb : ((LL.look (.cons u (locOf loc x) loc) t).acc n).val le tm = some b := hb
      rw [look_cons] at hb
      rw [hput]
      by_cases e : u = t
      · subst e
        rw [if_pos rfl] at hb ⊢
        exact h.od x b (by rw [← accOf_val]; exact hb)
      · rw [if_neg e] at hb
        rw [if_neg (fun g => e g.symm)]
        exact h.rel t b hb
theorem LeF.gd {X nt : Nat} {μ : Mu} {tm : Tr AV} {n : Nat} {loc : LL} {le : List AV} {a : Act} (h : LeF X nt μ tm n loc le a.tmps) {ops : Array Oper} {o : Oper} {j : Nat} {want r : Bool} {g : AV}
    (hgd : o.guard = some (j, want)) (hg : (gdAcc ops n loc j).val le tm = some g) (hr : gdVal want g = some r) : Region.wanted o (yielded ops a.tmps) = r := by
  unfold Region.wanted
  rw [hgd]
  simp only []
  unfold yielded
  rw [show ops[j]? = ops.toList[j]? from by simp]
  unfold gdAcc at hg
  cases ht : (ops.toList[j]?).bind (·.dst) with
  | none => rw [ht] at hg; cases hg
  | some t =>
    rw [ht] at hg
    exact gdVal_sound hr (h.rel t g hg)

theorem onGd_eq (g : AV) (want : Bool) (A B : Res) :
    onGd g (fun b => bsel (Bool.rec (motive := fun _ => Bool) (Bool.rec (motive := fun _ => Bool) true false b) b want) A B) B .no = match gdVal want g with | some true => A | some false => B | none => .no := by
  cases g <;> try rfl
  rename_i b
  cases b <;> cases want <;> rfl
theorem FR.run_un (f : FK) (rest : FR) (cf : CallF) (le : List AV) (tm : Tr AV) (st : St) : (f.un rest).run cf le tm st = f.run cf le tm st fun v st' => rest.run cf (v :: le) tm st' := by cases f <;> rfl
theorem FR.run_gd (f : FK) (a : Acc) (want : Bool) (rest : FR) (cf : CallF) (le : List AV) (tm : Tr AV) (st : St) : (f.gd a want rest).run cf le tm st = a.on le tm fun g =>
    match gdVal want g with | some true => f.run cf le tm st (fun v st' => rest.run cf (v :: le) tm st') | some false => rest.run cf (undefA :: le) tm st | none => .no := by
  cases f <;> exact congrArg (a.on le tm) (funext fun g => onGd_eq g want _ _)
theorem fcomp_cons (P : Program) (X : Nat) (ops : Array Oper) (o : Oper) (r : List Oper) (n : Nat) (loc : LL) : fcomp P X ops (o :: r) n loc =
    match o.guard with
    | none => isMove o.op (fun x => fcomp P X ops r n (bind1 o.dst (locOf loc x) loc)) ((fop P o.op o.type (accOf n loc)).un (fcomp P X ops r (n + 1) (bind1 o.dst (.abs n) loc)))
    | some (j, want) => (fop P o.op o.type (accOf n loc)).gd (gdAcc ops n loc j) want (fcomp P X ops r (n + 1) (bind1 o.dst (.abs n) loc)) := by
  obtain ⟨dst, op, ty, pos, aft, gd⟩ := o
  cases gd with
  | none => rfl
  | some g => rfl

def LL.has (loc : LL) (t : Nat) : Prop := match loc with
  | .nil => False
  | .cons u _ r => u = t ∨ r.has t
theorem look_free {t : Nat} : ∀ {loc : LL}, ¬ loc.has t → loc.look t = .out (.v (pth t))
  | .nil, _ => rfl
  | .cons u l r, h => by
    have h : ¬ (u = t ∨ r.has t) := h
    rw [look_cons, if_neg (fun e => h (.inl e))]
    exact look_free fun e => h (.inr e)
theorem exp_get {X n : Nat} {le : List AV} {tm : Tr AV} {st : St} : ∀ (loc : LL) (seen : Nat) (out : Tr AV), expK (exF X n loc seen) le tm out st = .no ∨ ∃ out', expK (exF X n loc seen) le tm out st = .ok out' st ∧
    ∀ t, ((bit X t = true ∧ bit seen t = false ∧ loc.has t) → out'.get t = ((loc.look t).acc n).val le tm) ∧ (¬ (bit X t = true ∧ bit seen t = false ∧ loc.has t) → out'.get t = out.get t)
  | .nil, seen, out => .inr ⟨out, rfl, fun t => ⟨fun h => h.2.2.elim, fun _ => rfl⟩⟩
  | .cons u l r, seen, out => by
    show expK (bsel (bit seen u) (exF X n r seen) (bsel (bit X u) (.cons (pth u) (l.acc n) (exF X n r (withBit seen u))) (exF X n r seen))) le tm out st = .no ∨ ∃ out', expK (bsel (bit seen u) (exF X n r seen) (bsel (bit X u) (.cons (pth u) (l.acc n) (exF X n r (withBit seen u))) (exF X n r seen))) le tm out st = .ok out' st ∧ _
    have skip : (bit seen u = true ∨ bit X u = false) → (expK (exF X n r seen) le tm out st = .no ∨ ∃ out', expK (exF X n r seen) le tm out st = .ok out' st ∧
        ∀ t, ((bit X t = true ∧ bit seen t = false ∧ (LL.cons u l r).has t) → out'.get t = (((LL.cons u l r).look t).acc n).val le tm) ∧ (¬ (bit X t = true ∧ bit seen t = false ∧ (LL.cons u l r).has t) → out'.get t = out.get t)) := by
      intro hsk
      rcases exp_get r seen out with h | ⟨out', h1, h2⟩
      · exact .inl h
      · refine .inr ⟨out', h1, fun t => ⟨fun hh => ?_, fun hh => (h2 t).2 fun hr => hh ⟨hr.1, hr.2.1, .inr hr.2.2⟩⟩⟩
        have hne : u ≠ t := fun e => by
          subst e
          rcases hsk with e | e
          · rw [e] at hh; cases hh.2.1
          · rw [e] at hh; cases hh.1
        rw [look_cons, if_neg hne]
        refine (h2 t).1 ⟨hh.1, hh.2.1, ?_⟩
        rcases hh.2.2 with e | e
        · exact absurd e hne
        · exact e
    cases hs : bit seen u with
    | true => rw [bsel_true]; exact skip (.inl hs)
    | false =>
      rw [bsel_false]
      cases hx : bit X u with
      | false => rw [bsel_false]; exact skip (.inr hx)
      | true =>
        rw [bsel_true]
        show (l.acc n).on le tm (fun v => expK (exF X n r (withBit seen u)) le tm (setV v (pth u) out) st) = .no ∨ ∃ out', (l.acc n).on le tm (fun v => expK (exF X n r (withBit seen u)) le tm (setV v (pth u) out) st) = .ok out' st ∧ _
        rw [on_eq]
        cases hv : (l.acc n).val le tm with
        | none => exact .inl rfl
        | some v =>
          rw [ofO_some, setV_pth]
          rcases exp_get r (withBit seen u) (out.set u v) with h | ⟨out', h1, h2⟩
          · exact .inl h
          · refine .inr ⟨out', h1, fun t => ?_⟩
            rw [look_cons]
            by_cases e : u = t
            · subst e
              rw [if_pos rfl, hv]
              have : out'.get u = some v := by
                rw [(h2 u).2 fun hh => by rw [bit_withBit] at hh; simp at hh, Tr.get_set_same]
              exact ⟨fun _ => this, fun hh => absurd ⟨hx, hs, .inl rfl⟩ hh⟩
            · rw [if_neg e]
              have hb : bit (withBit seen u) t = bit seen t := by rw [bit_withBit]; simp [e]
              refine ⟨fun hh => (h2 t).1 ⟨hh.1, by rw [hb]; exact hh.2.1, by rcases hh.2.2 with g | g; exact absurd g e; exact g⟩, fun hh => ?_⟩
              rw [(h2 t).2 fun hr => hh ⟨hr.1, by rw [← hb]; exact hr.2.1, .inr hr.2.2⟩, Tr.get_set_ne _ _ (fun g => e g.symm)]
theorem isMove_eq (op : Op) (m : Operand → FR) (d : FR) : (∃ x, (op = .move x ∨ op = .assign x) ∧ isMove op m d = m x) ∨ isMove op m d = d := by
  cases op <;> first | exact .inr rfl | (rename_i x; exact .inl ⟨x, .inl rfl, rfl⟩) | (rename_i x; exact .inl ⟨x, .inr rfl, rfl⟩)

section
variable {P : Program} {cf : CallF} {X nt n0 : Nat} {w0 : World}
theorem ends_ofP {μ : Mu} {st : St} {a : Act} {Q : Exit → Act → World → Prop} {o : Option (AV × St)} {k : AV → St → Res} (h : Ends X nt n0 w0 μ st a Q (ofP o k)) : ∃ v st', o = some (v, st') ∧ Ends X nt n0 w0 μ st a Q (k v st') := by
  cases o with
  | none => exact h.elim
  | some p => exact ⟨p.1, p.2, rfl, h⟩
theorem ends_ofO {μ : Mu} {st : St} {a : Act} {Q : Exit → Act → World → Prop} {o : Option AV} {k : AV → Res} (h : Ends X nt n0 w0 μ st a Q (ofO o k)) : ∃ v, o = some v ∧ Ends X nt n0 w0 μ st a Q (k v) := by
  cases o with
  | none => exact h.elim
  | some v => exact ⟨v, rfl, h⟩

theorem fcomp_sound (hcf : CFSound P cf) {tm : Tr AV} {ops : Array Oper} {Q : Exit → Act → World → Prop} (htm : ∀ t av, tm.get t = some av → bit X t = true) :
    ∀ (r : List Oper) (i n : Nat) (loc : LL) (le : List AV) (μ : Mu) (st : St) (a : Act) (w : World), ops.toList.drop i = r → dstsIn nt r = true → RS n0 w0 μ st w → LeF X nt μ tm n loc le a.tmps →
      Ends X nt n0 w0 μ st a Q ((fcomp P X ops r n loc).run cf le tm st) → wpOps P ops Q (List.range' i r.length) a w
  | [], i, n, loc, le, μ, st, a, w, hdrop, hd, h, hl, hE => by
    show Q .normal a w
    have hE : Ends X nt n0 w0 μ st a Q (expK (exF X n loc 0) le tm tm st) := hE
    rcases exp_get (X := X) (n := n) (le := le) (tm := tm) (st := st) loc 0 tm with e | ⟨out, e, hout⟩
    · rw [e] at hE; exact hE.elim
    · rw [e] at hE
      refine hE μ a w (Post.refl h) rfl ⟨hl.size, fun t av ht => ?_⟩
      by_cases hh : bit X t = true ∧ bit 0 t = false ∧ loc.has t
      · rw [(hout t).1 hh] at ht
        exact ⟨hh.1, hl.rel t av ht⟩
      · rw [(hout t).2 hh] at ht
        have hx := htm t av ht
        refine ⟨hx, hl.rel t av ?_⟩
        rw [look_free fun g => hh ⟨hx, by rw [bit_eq]; exact Nat.zero_testBit t, g⟩]
        show getV (pth t) tm = some av
        rw [getV_pth]; exact ht
  | o :: r, i, n, loc, le, μ, st, a, w, hdrop, hd, h, hl, hE => by
    obtain ⟨hd1, hd2⟩ := dstsIn_cons hd
    have ho : ops[i]? = some o := by
      have : ops.toList[i]? = some o := by
        have := congrArg (fun l => l[0]?) hdrop
        simpa using this
      simpa using this
    have hdrop' : ops.toList.drop (i + 1) = r := by
      have := congrArg List.tail hdrop
      simpa using this
    show wpOps P ops Q (List.range' i (r.length + 1)) a w
    rw [List.range'_succ]
    have hrun : ∀ k, (fop P o.op o.type (accOf n loc)).run cf le tm st k = ofP (sem P cf o.op o.type (cls P o.op) (evX le tm n loc) (o.op.operands.toList.map odG) st) k :=
      fun k => fop_run (accOf_val le tm n loc) (fun f => rfl) o.op o.type k
    rw [fcomp_cons] at hE
    have real : Ends X nt n0 w0 μ st a Q ((fop P o.op o.type (accOf n loc)).run cf le tm st fun v st' => (fcomp P X ops r (n + 1) (bind1 o.dst (.abs n) loc)).run cf (v :: le) tm st') → o.wp P a w (fun a' w' => wpOps P ops Q (List.range' (i + 1) r.length) a' w') Q := by
      intro hE
      rw [hrun] at hE
      obtain ⟨v, st1, hs, hE⟩ := ends_ofP hE
      refine sem_sound hcf h hl.od hs fun μ' w' u hp hu => ?_
      exact fcomp_sound hcf htm r (i + 1) (n + 1) _ (v :: le) μ' st1 _ w' hdrop' hd2 hp.rs ((hl.ext hp.ext).put hd1 hu) (hE.after hp (put_defers' _ _ _))
    cases hg : o.guard with
    | none =>
      rw [hg] at hE
      dsimp only at hE
      have hw : Region.wanted o (yielded ops a.tmps) = true := by unfold Region.wanted; rw [hg]
      simp only [wpOps, ho, hw]
      rw [if_pos trivial]
      left
      rcases isMove_eq o.op (fun x => fcomp P X ops r n (bind1 o.dst (locOf loc x) loc)) ((fop P o.op o.type (accOf n loc)).un (fcomp P X ops r (n + 1) (bind1 o.dst (.abs n) loc))) with ⟨x, hx, e⟩ | e
      · rw [e] at hE
        have hexec : (execOp a.eval o).run P w = .ok (.value (a.eval x)) w := by
          obtain ⟨dst, op, ty, pos, aft, gd⟩ := o
          rcases hx with rfl | rfl <;> rfl
        unfold Oper.wp
        rw [hexec]
        show wpOps P ops Q (List.range' (i + 1) r.length) (a.put o.dst (a.eval x)) w
        exact fcomp_sound hcf htm r (i + 1) n _ le μ st _ w hdrop' hd2 h (hl.move x hd1) (hE.after (Post.refl h) (put_defers' _ _ _))
      · rw [e, FR.run_un] at hE
        exact real hE
    | some g =>
      obtain ⟨j, want⟩ := g
      rw [hg] at hE
      dsimp only at hE
      rw [FR.run_gd, on_eq] at hE
      obtain ⟨gv, hgv, hE⟩ := ends_ofO hE
      cases hr : gdVal want gv with
      | none => rw [hr] at hE; exact hE.elim
      | some b =>
        rw [hr] at hE
        have hw := hl.gd (ops := ops) (o := o) hg hgv hr
        simp only [wpOps, ho, hw]
        cases b with
        | true =>
          rw [if_pos rfl]
          left
          exact real hE
        | false =>
          rw [if_neg (by simp)]
          exact fcomp_sound hcf htm r (i + 1) (n + 1) _ (undefA :: le) μ st _ w hdrop' hd2 h (hl.put hd1 (undefA_vr μ)) (hE.after (Post.refl h) (put_defers' _ _ _))
end
end Go.Proofs.YtaadcblcpojhhaaGreatDoor.Ev
