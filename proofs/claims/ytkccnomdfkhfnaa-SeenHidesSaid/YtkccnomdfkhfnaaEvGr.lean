/- What functions of the program compute, written down; read off their code. -/
import Derived.Test.YtkccnomdfkhfnaaEvX3
set_option linter.unusedVariables false
set_option linter.unusedSimpArgs false
namespace Go.Proofs.Ytkccnomdfkhfnaa.Ev
open Go.RowKit

/-! ## what was taken to be so stays taken -/
def Gr (st st' : St) : Prop := ∃ c, st'.x.cs = c ++ st.x.cs
theorem Gr.refl (st : St) : Gr st st := ⟨[], rfl⟩
theorem Gr.trans {a b c : St} (h : Gr a b) (k : Gr b c) : Gr a c := by
  obtain ⟨x, h⟩ := h
  obtain ⟨y, k⟩ := k
  exact ⟨y ++ x, by rw [k, h, List.append_assoc]⟩
theorem Gr.all {st st' : St} (h : Gr st st') (k : AllP st'.x.cs) : AllP st.x.cs := by
  obtain ⟨c, h⟩ := h
  rw [h] at k
  exact k.app.2
theorem Gr.of_x {st st' : St} (h : st'.x = st.x) : Gr st st' := ⟨[], by rw [h]; rfl⟩
theorem Gr.of_cs {st st' : St} (h : st'.x.cs = st.x.cs) : Gr st st' := ⟨[], by rw [h]; rfl⟩
theorem Gr.addC (st : St) (c : List Prop) : Gr st (addC st c) := ⟨c, addC_cs st c⟩

def XP {α : Type} (o : Option (α × St)) (st : St) : Prop := ∀ a st', o = some (a, st') → Gr st st'
theorem XP.none {α : Type} {st : St} : XP (none : Option (α × St)) st := fun _ _ h => nomatch h
theorem XP.bad {α : Type} {st : St} {n : Nat} : XP (bad n : Option (α × St)) st := fun _ _ h => nomatch h
theorem XP.some {α : Type} {a : α} {st st' : St} (h : Gr st st') : XP (some (a, st')) st := fun _ _ e => by cases e; exact h
theorem XP.need {α : Type} {b : Bool} {n : Nat} {o : Option (α × St)} {st : St} (h : XP o st) : XP (need b n o) st := fun a st' e => h a st' (need_some e).2
theorem XP.bsel {α : Type} {b : Bool} {o p : Option (α × St)} {st : St} (h : XP o st) (k : XP p st) : XP (bsel b o p) st := fun a st' e => by
  rcases bsel_some e with ⟨_, q⟩ | ⟨_, q⟩
  · exact h a st' q
  · exact k a st' q
theorem XP.cond {α : Type} {b : Bool} {o p : Option (α × St)} {st : St} (h : XP o st) (k : XP p st) : XP (bif b then o else p) st := fun a st' e => by
  cases b
  · exact k a st' e
  · exact h a st' e
theorem XP.obind {α β : Type} {x : Option β} {f : β → Option (α × St)} {st : St} (h : ∀ b, XP (f b) st) : XP (obind x f) st := fun a st' e => by
  obtain ⟨b, _, q⟩ := obind_elim e
  exact h b a st' q
theorem XP.obind2 {α β γ : Type} {x : Option (β × γ)} {f : β → γ → Option (α × St)} {st : St} (h : ∀ b c, XP (f b c) st) : XP (obind2 x f) st := fun a st' e => by
  obtain ⟨b, c, _, q⟩ := obind2_elim e
  exact h b c a st' q
/-- one behind the other -/
theorem XP.bind {α β : Type} {x : Option (β × St)} {f : β → St → Option (α × St)} {st : St} (hx : XP x st) (h : ∀ b st1, XP (f b st1) st1) : XP (Go.Proofs.Ytkccnomdfkhfnaa.Ev.obind2 x f) st := fun a st' e => by
  obtain ⟨b, c, g, q⟩ := obind2_elim e
  exact (hx b c g).trans (h b c a st' q)

theorem newCells_x (st : St) (vs : List AV) (esz : Nat) : (newCells st vs esz).x = st.x := by cases st; rfl
theorem growShare_x (st : St) (o : Nat) (c : Tr AV) (lim esz tw : Nat) (c' : Tr AV) (lim' : Nat) : (growShare st o c lim esz tw c' lim').x = st.x := by cases st; rfl
theorem stepM_x (st : St) (r m since : Nat) (bs gs : List Nat) : (stepM st r m since bs gs).x = st.x := by cases st; rfl
theorem stCells_gr {st st' : St} {o k : Nat} {vs : List AV} (h : stCells st o k vs = some st') : Gr st st' := by
  unfold stCells at h
  obtain ⟨ob, _, h⟩ := obind_elim h
  split at h
  · obtain ⟨_, h⟩ := need_some h
    obtain ⟨_, h⟩ := need_some h
    obtain ⟨_, h⟩ := need_some h
    obtain ⟨_, h⟩ := need_some h
    cases h
    exact Gr.of_x (setHeap_x _ _)
  · cases h
theorem aStore_gr {P : Program} {st st' : St} {t : TypeId} {a v : AV} (h : aStore P st t a v = some st') : Gr st st' := by
  unfold aStore at h
  split at h
  · split at h
    · cases hb : Nat.beq (lenA (acells v)) _ with
      | false => rw [hb] at h; cases h
      | true => rw [hb] at h; exact stCells_gr h
    · cases h
  · cases h
theorem aNewVar_xp {st : St} {v : AV} : XP (aNewVar st v) st := by
  unfold aNewVar
  exact XP.cond (XP.some (Gr.of_x (newCells_x _ _ _))) XP.bad
theorem aMapUpdate_gr {P : Program} {st st' : St} {t : TypeId} {m k v : AV} (h : aMapUpdate P st t m k v = some st') : Gr st st' := by
  unfold aMapUpdate at h
  split at h
  · rename_i kt et _
    cases hb : plainKey P kt k with
    | false => rw [hb] at h; cases h
    | true =>
      rw [hb] at h
      simp only [cond_true] at h
      split at h
      · rename_i r
        split at h
        · cases hw : Nat.ble st.wmin r with
          | false => rw [hw] at h; cases h
          | true =>
            rw [hw] at h
            simp only [Bool.not_true, cond_false] at h
            split at h
            · cases h; exact Gr.of_x (setHeap_x _ _)
            · cases h; exact Gr.of_x (setHeap_x _ _)
            · cases h
        · cases h
      · cases h
  · cases h
theorem growTo_xp {st : St} {cs : List AV} {esz n : Nat} : XP (growTo st cs esz n) st := by unfold growTo; exact XP.some (Gr.of_x (newCells_x _ _ _))
theorem aAppendCells_xp {P : Program} {st : St} {e : TypeId} {size : Nat} {s : AV} {new : List AV} {n : Nat} : XP (aAppendCells P st e size s new n) st := by
  unfold aAppendCells
  split
  · exact XP.bsel (XP.some (Gr.refl _)) (XP.need (XP.need growTo_xp))
  · refine XP.need (XP.need (XP.need (XP.bsel ?_ ?_)))
    · unfold appendIn
      refine XP.bsel (XP.some (Gr.refl _)) (XP.obind fun ob => ?_)
      unfold appendIn1
      split
      · exact XP.need (XP.need (XP.need (XP.need (XP.some (Gr.of_x (setHeap_x _ _))))))
      · exact XP.bad
    · unfold appendNew
      refine XP.obind fun ob => ?_
      unfold appendNew1
      split
      · refine XP.need (XP.bsel growTo_xp ?_)
        unfold appendShare
        exact XP.need (XP.need (XP.need (XP.need (XP.need (XP.need (XP.need (XP.some (Gr.of_x (growShare_x _ _ _ _ _ _ _ _)))))))))
      · exact XP.bad
  · exact XP.bad
theorem aAppend_xp {P : Program} {st : St} {ts : List TypeId} {args : List AV} : XP (aAppend P st ts args) st := by
  unfold aAppend
  split
  · unfold append2
    split
    · refine XP.obind fun size => XP.obind fun z => XP.need (XP.need (XP.need ?_))
      split
      · unfold appendZ
        split
        · exact XP.need aAppendCells_xp
        · exact XP.bad
      · unfold appendX; exact XP.obind fun n => XP.obind fun new => XP.need aAppendCells_xp
      · unfold appendX; exact XP.obind fun n => XP.obind fun new => XP.need aAppendCells_xp
      · exact XP.bad
    · exact XP.bad
  · exact XP.bad
theorem aCopy_xp {P : Program} {st : St} {ts : List TypeId} {args : List AV} : XP (aCopy P st ts args) st := by
  unfold aCopy
  repeat' split
  all_goals first | exact XP.bad | exact XP.none | exact XP.some (Gr.refl _) | exact XP.cond (XP.some (Gr.refl _)) XP.none | (rename_i h; exact XP.cond (XP.some (Gr.refl _)) (XP.some (stCells_gr h)))
theorem aClear_xp {P : Program} {st : St} {ts : List TypeId} {args : List AV} : XP (aClear P st ts args) st := by
  unfold aClear
  repeat' split
  all_goals first | exact XP.bad | exact XP.none | exact XP.some (Gr.refl _) | skip
  rename_i h; exact XP.some (stCells_gr h)
theorem aConvA_xp {P : Program} {st : St} {s d : TypeId} {x : AV} : XP (aConvA P st s d x) st := by
  unfold aConvA
  split
  · unfold aConvert
    repeat' split
    all_goals first | exact XP.bad | exact growTo_xp
  · unfold aMark
    repeat' split
    all_goals first | exact XP.bad | exact XP.need (XP.need (XP.need (XP.some (Gr.of_x (setHeap_x _ _)))))
  · exact XP.bad
theorem aRange_xp {P : Program} {st : St} {t : TypeId} {x : AV} : XP (aRange P st t x) st := by
  unfold aRange aRangeS aRangeM
  repeat' split
  all_goals first | exact XP.bad | exact XP.some (Gr.of_x (newObj_x _ _))
theorem aNextM_xp {st : St} {x : AV} : XP (aNextM st x) st := by
  unfold aNextM
  repeat' split
  all_goals first | exact XP.bad | exact XP.some (Gr.refl _) | skip
  unfold nextM
  exact XP.need (XP.bsel (XP.need (XP.some (Gr.of_x (stepM_x _ _ _ _ _ _)))) (XP.some (Gr.refl _)))
theorem aNext_xp {st : St} {x : AV} : XP (aNext st x) st := by
  unfold aNext
  repeat' split
  all_goals first | exact XP.bad | skip
  exact XP.cond XP.bad (XP.cond (XP.some (Gr.of_x (setHeap_x _ _))) (XP.some (Gr.refl _)))
theorem aMakeSlice_xp {P : Program} {st : St} {t : TypeId} {x y : AV} : XP (aMakeSlice P st t x y) st := by
  unfold aMakeSlice
  repeat' split
  all_goals first | exact XP.bad | skip
  exact XP.cond (XP.some (Gr.of_x (newCells_x _ _ _))) XP.bad

theorem one_xp {ev : Od → Option AV} {l : List Od} {f : AV → Option (AV × St)} {st : St} (h : ∀ a, XP (f a) st) : XP (one ev l f) st := by
  match l with
  | [] => exact XP.none
  | [d] => exact XP.obind h
  | _ :: _ :: _ => exact XP.none
theorem two_xp {ev : Od → Option AV} {l : List Od} {f : AV → AV → Option (AV × St)} {st : St} (h : ∀ a b, XP (f a b) st) : XP (two ev l f) st := by
  match l with
  | [] => exact XP.none
  | d :: r => exact XP.obind fun a => one_xp (h a)
theorem three_xp {ev : Od → Option AV} {l : List Od} {f : AV → AV → AV → Option (AV × St)} {st : St} (h : ∀ a b c, XP (f a b c) st) : XP (three ev l f) st := by
  match l with
  | [] => exact XP.none
  | d :: r => exact XP.obind fun a => two_xp (h a)

def CFGrow (cf : CallF) : Prop := ∀ f args st, XP (cf f args st) st
theorem semA_xp {P : Program} {cf : CallF} (hcf : CFGrow cf) {op : Op} {ev : Od → Option AV} {ds : List Od} {st : St} : XP (semA P cf op ev ds st) st := by
  unfold semA
  split
  · exact two_xp fun a b => fun r st' e => by
      obtain ⟨st2, h1, h2⟩ := obind_elim (show obind (aStore P st _ a b) _ = some (r, st') from e)
      cases h2; exact aStore_gr h1
  · exact XP.obind fun z => aNewVar_xp
  · exact one_xp fun a => aNewVar_xp
  · refine XP.obind fun l => ?_
    unfold aBuildSliceL aBuildSlice
    exact XP.obind2 fun cs size => XP.some (Gr.of_x (newCells_x _ _ _))
  · exact two_xp fun a b => aMakeSlice_xp
  · unfold aMakeMap
    split
    · exact XP.some (Gr.of_x (newObj_x _ _))
    · exact XP.bad
  · exact three_xp fun a b c => fun r st' e => by
      obtain ⟨st2, h1, h2⟩ := obind_elim (show obind (aMapUpdate P st _ a b c) _ = some (r, st') from e)
      cases h2; exact aMapUpdate_gr h1
  · exact three_xp fun a b c => fun r st' e => by
      obtain ⟨st2, h1, h2⟩ := obind_elim (show obind (aMapUpdate P st _ a b c) _ = some (r, st') from e)
      cases h2; exact aMapUpdate_gr h1
  · exact one_xp fun a => aConvA_xp
  · exact one_xp fun a => aRange_xp
  · exact one_xp fun a => aNext_xp
  · exact one_xp fun a => aNextM_xp
  · refine XP.obind fun l => ?_
    unfold semCallA
    split
    · exact aAppend_xp
    · exact aCopy_xp
    · exact aClear_xp
    · split
      · exact hcf _ _ _
      · exact XP.bad
    · exact XP.bad
  · exact XP.bad

/-! ### what is new -/
theorem setRow_gr (st : St) (o : Nat) (r : RowO) : Gr st (setRow st o r) := Gr.of_cs (setRow_cs _ _ _)
theorem setRo_gr (st : St) (o : Nat) (ob : AObj) : Gr st (setRo st o ob) := Gr.of_x (setRo_eq _ _ _).2.2.2
theorem addRow_gr (st : St) (r : RowO) : Gr st (addRow st r) := Gr.of_cs (addRow_eq _ _).2.2.2.2
theorem chunks_xp {α β : Type} {f : List AV → St → Option (α × St)} (hf : ∀ l st, XP (f l st) st) (nil : β) (cons : α → β → β) (sz : Nat) : ∀ (n : Nat) (l : List AV) (st : St), XP (chunks f nil cons sz n l st) st
  | 0, l, st => XP.some (Gr.refl _)
  | n + 1, l, st => by
    simp only [chunks]
    exact XP.bind (hf _ _) fun a st1 => XP.bind (chunks_xp hf nil cons sz n _ _) fun r st2 => XP.some (Gr.refl _)
theorem toOwn_xp {e e' : ET} {st : St} {o ver : Nat} {fu : Bool} {lo n : Nat} : XP (toOwn e e' st o ver fu lo n) st := by
  unfold toOwn
  refine XP.obind fun ro => XP.need (XP.need ?_)
  split
  · exact XP.some (setRow_gr _ _ _)
  · exact XP.bad
mutual
theorem toL_xp : ∀ (l : LT) (a : AV) (st : St), XP (toL l a st) st
  | .int k, a, st => by simp only [toL]; exact XP.obind2 fun k' n => XP.need (XP.some (Gr.refl _))
  | .bool, a, st => by simp only [toL]; exact XP.obind fun b => XP.some (Gr.refl _)
  | .str, a, st => by simp only [toL]; exact XP.obind fun b => XP.some (Gr.refl _)
  | .row e, a, st => by
    simp only [toL]
    split
    · exact XP.some (Gr.refl _)
    · exact XP.some (Gr.refl _)
    · split
      · exact XP.some (Gr.refl _)
      · exact XP.bad
    · exact XP.bind toOwn_xp fun r st' => XP.some (Gr.refl _)
    · refine XP.need (XP.bind ?_ fun r st' => XP.some (Gr.refl _))
      unfold toSl
      refine XP.need ?_
      split
      · refine XP.need fun x st' hx => (setRo_gr _ _ _).trans (chunks_xp (fun l st => toE_xp e l st) _ _ _ _ _ _ x st' hx)
      · exact XP.bad
    · exact XP.bad
theorem toE_xp : ∀ (e : ET) (l : List AV) (st : St), XP (toE e l st) st
  | .one l, a, st => by
    simp only [toE]
    split
    · exact XP.bind (toL_xp l _ _) fun x st' => XP.some (Gr.refl _)
    · exact XP.bad
  | .cons l e, a, st => by
    simp only [toE]
    split
    · exact XP.bind (toL_xp l _ _) fun x st1 => XP.bind (toE_xp e _ _) fun y st2 => XP.some (Gr.refl _)
    · exact XP.bad
end
theorem toLs_xp {e : ET} : ∀ (l : List AV) (j : Nat) (st : St), XP (toLs e j l st) st
  | [], j, st => XP.some (Gr.refl _)
  | a :: r, j, st => by
    simp only [toLs]
    exact XP.obind fun l => XP.bind (toL_xp l _ _) fun x st1 => XP.bind (toLs_xp r _ _) fun vs st2 => XP.some (Gr.refl _)
theorem xStore_xp {P : Program} {st : St} {t : TypeId} {p v : AV} : XP (xStore P st t p v) st := by
  unfold xStore
  split
  · refine XP.obind fun n => XP.need (XP.bind (toLs_xp _ _ _) fun vs st1 => XP.obind fun ro => XP.need (XP.need ?_))
    split
    · exact XP.obind fun y => XP.some (setRow_gr _ _ _)
    · exact XP.bad
  · exact XP.bad
theorem appOwn_xp {e e' : ET} {o ver : Nat} {fu : Bool} {lo n : Nat} {ys : List e.T} {st : St} : XP (appOwn e o ver e' fu lo n ys st) st := by
  unfold appOwn
  refine XP.obind fun ro => XP.need (XP.need (XP.need ?_))
  split
  · exact XP.some ((Gr.addC _ _).trans (setRow_gr _ _ _))
  · exact XP.bad
theorem slOwn_xp {e : ET} {o k len esz : Nat} {st : St} : XP (slOwn e o k len esz st) st := by
  unfold slOwn
  refine XP.need ?_
  split
  · refine XP.need (XP.bind (chunks_xp (fun l st => toE_xp e l st) _ _ _ _ _ _) fun xs st1 => ?_)
    split
    · exact XP.some ((setRo_gr _ _ _).trans (addRow_gr _ _))
    · exact XP.bad
  · exact XP.bad
theorem xAppend_xp {P : Program} {ts : List TypeId} {args : List AV} {st : St} : XP (xAppend P ts args st) st := by
  unfold xAppend
  split
  · split
    · refine XP.obind fun e => XP.bind ?_ fun ys st1 => ?_
      · unfold xSrc
        split
        · exact XP.bind (toL_xp _ _ _) fun r st' => XP.some (Gr.refl _)
        · split
          · exact XP.obind fun l => XP.some (Gr.refl _)
          · exact XP.bad
        · exact XP.bad
      · unfold xApp1
        split
        · exact fun a st' h => (addRow_gr _ _).trans (appOwn_xp a st' h)
        · exact XP.bind slOwn_xp fun o' st2 => XP.obind fun ro => appOwn_xp
        · exact appOwn_xp
        · exact XP.bad
    · exact XP.bad
  · exact XP.bad
theorem xClear_xp {P : Program} {ts : List TypeId} {args : List AV} {st : St} : XP (xClear P st ts args) st := by
  unfold xClear
  split
  · split
    · refine XP.obind fun e => XP.obind fun z => XP.need (XP.obind fun ro => XP.need (XP.need ?_))
      split
      · exact XP.some (setRow_gr _ _ _)
      · exact XP.bad
    · exact XP.bad
  · exact XP.bad
theorem aX_xp {P : Program} {op : Op} {args : List AV} {st : St} : XP (aX P op args st) st := by
  unfold aX
  split
  · split
    · exact xStore_xp
    · exact XP.bad
  · split
    · exact xAppend_xp
    · exact xClear_xp
    · exact XP.bad
  · exact XP.bad
theorem orA_elim {a b : Option (AV × St)} {r : AV × St} (h : orA a b = some r) : a = some r ∨ b = some r := by
  unfold orA at h
  split at h
  · exact .inl h
  · exact .inr h
theorem orP_elim {a : Option AV} {b : Option (AV × List Prop)} {v : AV} {c : List Prop} (h : orP a b = some (v, c)) : (a = some v ∧ c = []) ∨ b = some (v, c) := by
  unfold orP at h
  split at h
  · cases h; exact .inl ⟨rfl, rfl⟩
  · exact .inr h
theorem semA2_xp {P : Program} {cf : CallF} (hcf : CFGrow cf) {op : Op} {ev : Od → Option AV} {ds : List Od} {st : St} : XP (semA2 P cf op ev ds st) st := fun a st' h => by
  unfold semA2 at h
  rcases orA_elim h with h | h
  · exact semA_xp hcf a st' h
  · obtain ⟨args, _, h⟩ := obind_elim h
    exact aX_xp a st' h
theorem keepC_xp {P : Program} {st : St} {x : Option (AV × List Prop)} : XP (obind2 x (keepC st)) st := XP.obind2 fun v c => XP.some (Gr.addC _ _)
theorem sem_xp {P : Program} {cf : CallF} (hcf : CFGrow cf) {op : Op} {ty : TypeId} {cl : Nat} {ev : Od → Option AV} {ds : List Od} {st : St} : XP (sem P cf op ty cl ev ds st) st := by
  unfold sem
  exact XP.bsel (keepC_xp (P := P)) (XP.bsel (keepC_xp (P := P)) (semA2_xp hcf))
theorem ask_ok {c : Bool} {st st' : St} {d : Bool} (h : ask c st = some (d, st')) : st'.x.cs = (c = d) :: st.x.cs ∧ st'.heap = st.heap ∧ st'.next = st.next ∧ st'.wmin = st.wmin ∧ st'.x.rows = st.x.rows := by
  obtain ⟨hp, nx, wm, rows, cs, orc⟩ := st
  cases orc with
  | nil => cases h
  | cons d' r => cases h; exact ⟨rfl, rfl, rfl, rfl, rfl⟩
theorem evGdS_xp {ev : Od → Option AV} {g : Option (Od × Bool)} {st : St} : XP (evGdS ev g st) st := by
  unfold evGdS
  split
  · exact XP.some (Gr.refl _)
  · refine XP.obind fun v => ?_
    unfold gdAsk
    split
    · refine XP.bind (fun d st' h => ?_) fun d st1 => XP.some (Gr.refl _)
      exact ⟨[_], (ask_ok h).1⟩
    · exact XP.obind fun b => XP.some (Gr.refl _)
theorem evOps_gr {P : Program} {cf : CallF} (hcf : CFGrow cf) {tm : Tr AV} : ∀ (l : List IOp) (le : List AV) (st : St), XP (evOps P cf tm l le st) st
  | [], le, st => by rw [evOps_nil]; exact XP.some (Gr.refl _)
  | .mk op ty cl ods gd :: r, le, st => by
    rw [evOps_cons]
    exact XP.bind evGdS_xp fun g st1 => XP.bsel (XP.bind (sem_xp hcf) fun v st2 => evOps_gr hcf r _ _) (evOps_gr hcf r _ _)
end Go.Proofs.Ytkccnomdfkhfnaa.Ev
