import Derived.Test.YtaadcblcpojhhaaGreatDoorEvFastV
set_option linter.unusedVariables false
set_option linter.unusedSimpArgs false
namespace Go.Proofs.YtaadcblcpojhhaaGreatDoor.Ev
open Go.RowKit

/-! ## regions that draw: the quick form is the slow one -/
theorem onA_eq (a : Acc) (le : List AV) (tm : Tr AV) (k : AV → Res) : a.on le tm k = ofO (a.val le tm) k := on_eq a le tm k
theorem accD_val (V tm : Tr AV) (d : Od) : (accD d).val [] (.n none tm V) = evOdD V tm d := by
  cases d with
  | l j => exact getV_pth V j
  | v t => exact getV_pth tm t
  | c a => rfl
  | x => rfl
theorem FK.on_eq (f : FK) (cf : CallF) (tm : Tr AV) (st : St) (k : AV → St → Res) : f.on cf tm st k = f.run cf [] tm st k := by cases f <;> rfl
theorem GA.on_eq (V tm : Tr AV) (g : Option (Od × Bool)) (k : Bool → Res) : (gaOf g).on (.n none tm V) k = match evGd (evOdD V tm) g with | some b => k b | none => .no := by
  cases g with
  | none => rfl
  | some p =>
    obtain ⟨d, want⟩ := p
    show (accD d).on [] (.n none tm V) _ = _
    rw [onA_eq, accD_val, evGd_some]
    cases evOdD V tm d with
    | none => rfl
    | some v =>
      rw [ofO_some, obind_some]
      cases v <;> try rfl
      rename_i b
      cases b <;> cases want <;> rfl
theorem nthS_eq : ∀ (l : List St) (n : Nat) (k : St → Res), nthS n l k = match nth l n with | some s => k s | none => .no
  | [], n, k => rfl
  | x :: l, n, k => by
    show bsel (Nat.beq n 0) (k x) (nthS (Nat.sub n 1) l k) = match (bif Nat.beq n 0 then some x else nth l (Nat.sub n 1)) with | some s => k s | none => .no
    cases Nat.beq n 0 with
    | true => rfl
    | false => exact nthS_eq l _ k

section
variable {P : Program} {cf : CallF}
theorem clsD_eq {o : Oper} (h : ¬ clsR P o = 3) : clsR P o = cls P o.op := (clsR_cls rfl h).symm
theorem runFD_eq {l : List (Oper × Nat × Nat)} (tm : Tr AV) (k : Tr AV → St → List St → Res) : ∀ (pl : List DOp), (∀ d ∈ pl, d.cl = clsR P d.o ∧ d.ods = d.o.op.operands.toList.map (odD l d.aft d.idx)) → ∀ (V : Tr AV) (st : St) (ss : List St) (n : Nat),
    runFD cf tm (fdList P l pl) V st ss n k = match runD P cf tm pl V st ss n with | some (V', st', ss') => k V' st' ss' | none => .no
  | [], _, V, st, ss, n => rfl
  | d :: r, h, V, st, ss, n => by
    have ih := fun V st ss n => runFD_eq tm k r (fun e he => h e (List.mem_cons_of_mem _ he)) V st ss n
    obtain ⟨hcl, hods⟩ := h d (List.mem_cons_self ..)
    show runFD cf tm (fdOf P l d (fdList P l r)) V st ss n k = _
    have hfk : ∀ (s : St) (k : AV → St → Res), (fop P d.o.op d.o.type (fun x => accD (odD l d.aft d.idx x))).on cf (.n none tm V) s k = ofP (sem P cf d.o.op d.o.type (cls P d.o.op) (evOdD V tm) d.ods s) k := by
      intro s k
      rw [FK.on_eq, hods]
      exact fop_run (fun x => accD_val V tm _) (fun f => rfl) d.o.op d.o.type k
    unfold fdOf
    rcases cls_cases P d.o.op with hc | hc | hc
    · by_cases hal : clsR P d.o = 3
      · exfalso
        have hal := clsR_3 hal
        revert hc hal
        cases d.o.op <;> intro hc hal <;> first | (cases hc; done) | (cases hal; done) | exact absurd (hc.symm.trans hal) (by decide)
      · have hD : d.cl = 0 := by rw [hcl, clsD_eq hal, hc]
        rw [hD]
        simp only [show Nat.beq 0 3 = false from rfl, show Nat.beq 0 0 = true from rfl, bsel_false, bsel_true]
        show (gaOf d.gd).on (.n none tm V) (fun b => bsel b ((fop P d.o.op d.o.type (fun x => accD (odD l d.aft d.idx x))).on cf (.n none tm V) st fun v _ => runFD cf tm (fdList P l r) (setV v (pth d.idx) V) st ss n k) (runFD cf tm (fdList P l r) (setV undefA (pth d.idx) V) st ss n k)) = _
        rw [GA.on_eq, runD, hD]
        cases evGd (evOdD V tm) d.gd with
        | none => rfl
        | some b =>
          cases b with
          | false =>
            dsimp only
            rw [bsel_false, setV_pth, ih]; try rfl
          | true =>
            dsimp only
            rw [bsel_true, hfk, sem0 hc, ofP_keep]
            cases semP P d.o.op d.o.type (evOdD V tm) d.ods with
            | none => rfl
            | some v => dsimp only; rw [ofO_some, setV_pth, ih]; try rfl
    · have hal : ¬ clsR P d.o = 3 := by
        intro hal
        have hal := clsR_3 hal
        revert hal
        revert hc
        cases d.o.op <;> intro hc hal <;> first | (cases hc; done) | (cases hal; done) | exact absurd (hc.symm.trans hal) (by decide)
      have hD : d.cl = 1 := by rw [hcl, clsD_eq hal, hc]
      rw [hD]
      simp only [show Nat.beq 1 3 = false from rfl, show Nat.beq 1 0 = false from rfl, show Nat.beq 1 1 = true from rfl, bsel_false, bsel_true]
      show (gaOf d.gd).on (.n none tm V) (fun b => bsel b (bsel (Nat.ble d.low n) (nthS (Nat.sub n d.low) ss fun s => (fop P d.o.op d.o.type (fun x => accD (odD l d.aft d.idx x))).on cf (.n none tm V) s fun v _ => runFD cf tm (fdList P l r) (setV v (pth d.idx) V) st ss n k) .no) (runFD cf tm (fdList P l r) (setV undefA (pth d.idx) V) st ss n k)) = _
      rw [GA.on_eq, runD, hD]
      cases evGd (evOdD V tm) d.gd with
      | none => rfl
      | some b =>
        cases b with
        | false =>
          dsimp only
          rw [bsel_false, setV_pth, ih]; try rfl
        | true =>
          dsimp only
          rw [bsel_true, nthS_eq]
          unfold need
          cases Nat.ble d.low n with
          | false => rfl
          | true =>
            rw [bsel_true, bsel_true]
            cases nth ss (Nat.sub n d.low) with
            | none => rfl
            | some s =>
              dsimp only
              rw [hfk, sem1 hc, ofP_keep]
              cases semR P d.o.op (evOdD V tm) d.ods s with
              | none => rfl
              | some v => dsimp only; rw [ofO_some, setV_pth, ih]; try rfl
    · by_cases hal : clsR P d.o = 3
      · have hD : d.cl = 3 := by rw [hcl, hal]
        rw [hD, show Nat.beq 3 3 = true from rfl, bsel_true, ih, runD, hD]; rfl
      · have hD : d.cl = 2 := by rw [hcl, clsD_eq hal, hc]
        rw [hD]
        simp only [show Nat.beq 2 3 = false from rfl, show Nat.beq 2 0 = false from rfl, show Nat.beq 2 1 = false from rfl, bsel_false]
        show (gaOf d.gd).on (.n none tm V) (fun b => bsel b ((fop P d.o.op d.o.type (fun x => accD (odD l d.aft d.idx x))).on cf (.n none tm V) st fun v st' => runFD cf tm (fdList P l r) (setV v (pth d.idx) V) st' (st' :: ss) (Nat.succ n) k) (runFD cf tm (fdList P l r) (setV undefA (pth d.idx) V) st (st :: ss) (Nat.succ n) k)) = _
        rw [GA.on_eq, runD, hD]
        cases evGd (evOdD V tm) d.gd with
        | none => rfl
        | some b =>
          cases b with
          | false =>
            dsimp only
            rw [bsel_false, setV_pth, ih]; try rfl
          | true =>
            dsimp only
            rw [bsel_true, hfk, sem2 hc]
            cases semA P cf d.o.op (evOdD V tm) d.ods st with
            | none => rfl
            | some q => obtain ⟨v, st'⟩ := q; dsimp only; rw [ofP_some, setV_pth, ih]; try rfl
theorem keepL_al : ∀ (pl : List DOp) (gs : List (List AV × Nat)) (V : Tr AV) (st : St), layAllocs P (keepL isAl pl) gs V st = layAllocs P pl gs V st
  | [], _, _, _ => rfl
  | d :: r, gs, V, st => by
    show layAllocs P (bsel (Nat.beq d.cl 3) (d :: keepL isAl r) (keepL isAl r)) gs V st = _
    cases h : Nat.beq d.cl 3 with
    | false =>
      rw [bsel_false, keepL_al r]
      conv => rhs; rw [layAllocs]
      rw [h, cond_false]
    | true =>
      rw [bsel_true, layAllocs, layAllocs]
      rw [h, cond_true, cond_true]
      cases d.gd with
      | some g => rfl
      | none =>
        dsimp only
        split
        · congr 1
          funext v st'
          exact keepL_al r _ _ _
        · split
          · exact keepL_al r _ _ _
          · rfl
        · rfl
theorem keepL_re (tm V : Tr AV) (ss : List St) : ∀ (pl : List DOp), recheckAll P tm V ss (keepL isRe pl) = recheckAll P tm V ss pl
  | [] => rfl
  | d :: r => by
    show recheckAll P tm V ss (bsel (isRe d) (d :: keepL isRe r) (keepL isRe r)) = (recheck P tm V ss d && recheckAll P tm V ss r)
    cases h : isRe d with
    | true => rw [bsel_true]; show (recheck P tm V ss d && recheckAll P tm V ss (keepL isRe r)) = _; rw [keepL_re tm V ss r]
    | false =>
      rw [bsel_false, keepL_re tm V ss r]
      have : recheck P tm V ss d = true := by
        unfold isRe at h
        unfold recheck
        split
        · rename_i e
          rw [e] at h
          have h : notF (Nat.ble d.high d.low) = false := h
          rw [notF_eq, Bool.not_eq_false'] at h
          rw [h]; rfl
        · rename_i e
          rw [e] at h
          cases h
        · rfl
      rw [this]; rfl
theorem exD_eq {X : Nat} (tm V : Tr AV) (st : St) : ∀ (pl : List DOp) (out : Tr AV), expK (exD X pl) [] (.n none tm V) out st = match exportD X V pl out with | some o => .ok o st | none => .no
  | [], out => rfl
  | d :: r, out => by
    show expK (Option.rec (motive := fun _ => EX) (exD X r) (fun t => bsel (bit X t) (.cons (pth t) (.v (.r (pth d.idx))) (exD X r)) (exD X r)) d.o.dst) [] (.n none tm V) out st = _
    rw [exportD]
    cases d.o.dst with
    | none => exact exD_eq tm V st r out
    | some t =>
      show expK (bsel (bit X t) (.cons (pth t) (.v (.r (pth d.idx))) (exD X r)) (exD X r)) [] (.n none tm V) out st = _
      dsimp only
      cases bit X t with
      | false => exact exD_eq tm V st r out
      | true =>
        show (Acc.v (.r (pth d.idx))).on [] (.n none tm V) (fun v => expK (exD X r) [] (.n none tm V) (setV v (pth t) out) st) = _
        rw [onA_eq, show (Acc.v (.r (pth d.idx))).val [] (.n none tm V) = V.get d.idx from getV_pth V d.idx, cond_true]
        cases V.get d.idx with
        | none => rfl
        | some v => rw [ofO_some, setV_pth]; exact exD_eq tm V st r _
theorem plan_props {ops : Array Oper} : ∀ d ∈ plan P ops, d.cl = clsR P d.o ∧ d.ods = d.o.op.operands.toList.map (odD (planL P ops) d.aft d.idx) := by
  intro d hd
  unfold plan at hd
  obtain ⟨⟨o, i, a⟩, _, rfl⟩ := List.mem_map.1 hd
  exact ⟨rfl, rfl⟩
theorem drawK_eq (X : Nat) (ops : Array Oper) (ok : Bool) (tm : Tr AV) (st : St) :
    drawK P cf ok (plan P ops) ((plan P ops).any isBuild) (keepL isAl (plan P ops)) (fdList P (planL P ops) (plan P ops)) (keepL isRe (plan P ops)) (exD X (plan P ops)) tm st = ofDraw (evDraw P cf X (plan P ops) ok tm st) := by
  unfold drawK evDraw
  cases ok with
  | false => rfl
  | true =>
    rw [bsel_true, cond_true]
    cases guess P cf tm (plan P ops) ((plan P ops).any isBuild) st with
    | none => rfl
    | some gs =>
    dsimp only
    rw [keepL_al]
    cases layAllocs P (plan P ops) gs .e st with
    | none => rfl
    | some p =>
      obtain ⟨V0, st0⟩ := p
      dsimp only
      rw [runFD_eq tm _ (plan P ops) plan_props]
      cases runD P cf tm (plan P ops) V0 st0 [st0] 0 with
      | none => rfl
      | some q =>
        obtain ⟨V, st', ss⟩ := q
        dsimp only
        rw [keepL_re]
        cases recheckAll P tm V ss.reverse (plan P ops) with
        | false => rfl
        | true =>
          rw [bsel_true, cond_true, exD_eq]
          cases exportD X V (plan P ops) tm <;> rfl
end
end Go.Proofs.YtaadcblcpojhhaaGreatDoor.Ev
