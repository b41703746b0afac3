import Derived.Test.YtaadcblcpojhhaaGreatDoorEvFastS
set_option linter.unusedVariables false
set_option linter.unusedSimpArgs false
namespace Go.Proofs.YtaadcblcpojhhaaGreatDoor.Ev
open Go.RowKit

/-! ## numbers -/
theorem ltF_eq (a b : Int) : ltF a b = ltI a b := by cases a <;> cases b <;> rfl
theorem eqF_eq (a b : Int) : eqF a b = eqI a b := by cases a <;> cases b <;> rfl
theorem notF_eq (a : Bool) : notF a = !a := by cases a <;> rfl
theorem addF_eq (a b : Int) : addF a b = Int.add a b := by cases a <;> cases b <;> rfl
theorem subF_eq (a b : Int) : subF a b = Int.sub a b := by
  cases a with
  | negSucc m => rfl
  | ofNat m => cases b with
    | negSucc n => rfl
    | ofNat n =>
      show bsel (Nat.ble n m) (Int.ofNat (Nat.sub m n)) (Int.sub (.ofNat m) (.ofNat n)) = _
      rw [bsel_eq]
      split
      · rename_i h
        rw [Nat.ble_eq] at h
        exact (Int.ofNat_sub h)
      · rfl
theorem wrap_small {k : IntKind} {m : Nat} (h : m < limK k) : k.wrap (.ofNat m) = .ofNat m := by
  cases k <;> simp only [limK] at h <;> simp only [IntKind.wrap, IntKind.bits, IntKind.signed, Int.ofNat_eq_natCast] <;> simp <;> omega
theorem wrapF_eq (k : IntKind) (n : Int) : wrapF k n = wrapI k n := by
  rw [wrapI_eq]
  cases n with
  | negSucc m => rfl
  | ofNat m =>
    show bsel (Nat.ble (Nat.succ m) (limK k)) (Int.ofNat m) (k.wrap (.ofNat m)) = _
    rw [bsel_eq]
    split
    · rename_i h
      rw [Nat.ble_eq] at h
      exact (wrap_small h).symm
    · rfl
theorem cN_eq (n : Nat) (k : Nat → Res) : cN n k = k n := by cases n <;> rfl

/-! ## closures -/
theorem cmpI_eq {g : Int → Int → Bool} {slow : AV → AV → Option AV} (h : ∀ ka a kb b, sameK ka kb = true → slow (.i ka a) (.i kb b) = some (.b (g a b))) (x y : AV) (k : AV → Res) : cmpI g slow x y k = ofO (slow x y) k := by
  cases x <;> try rfl
  cases y <;> try rfl
  rename_i ka a kb b
  show bsel (sameK ka kb) (k (.b (g a b))) (ofO (slow (.i ka a) (.i kb b)) k) = _
  cases hs : sameK ka kb with
  | true => rw [h _ _ _ _ hs]; rfl
  | false => rfl
theorem arI_eq {g : Int → Int → Int} {slow : AV → AV → Option AV} (h : ∀ ka a kb b, sameK ka kb = true → slow (.i ka a) (.i kb b) = some (.i ka (wrapI ka (g a b)))) (x y : AV) (k : AV → Res) : arI g slow x y k = ofO (slow x y) k := by
  cases x <;> try rfl
  cases y <;> try rfl
  rename_i ka a kb b
  show bsel (sameK ka kb) (k (.i ka (wrapF ka (g a b)))) (ofO (slow (.i ka a) (.i kb b)) k) = _
  cases hs : sameK ka kb with
  | true => rw [h _ _ _ _ hs, wrapF_eq]; rfl
  | false => rfl
theorem cmpE_eq {pos : Bool} {slow : AV → AV → Option AV} (h : ∀ ka a kb b, sameK ka kb = true → slow (.i ka a) (.i kb b) = some (.b (bsel pos (eqI a b) (!(eqI a b)))))
    (h' : ∀ l c l' c', slow (.s l c) (.s l' c') = some (.b (bsel pos (Nat.beq l l' && Nat.beq c c') (!(Nat.beq l l' && Nat.beq c c'))))) (x y : AV) (k : AV → Res) : cmpE pos slow x y k = ofO (slow x y) k := by
  cases x <;> try rfl
  · cases y <;> try rfl
    rename_i ka a kb b
    show bsel (sameK ka kb) (k (.b (bsel pos (eqF a b) (notF (eqF a b))))) (ofO (slow (.i ka a) (.i kb b)) k) = _
    cases hs : sameK ka kb with
    | true => rw [h _ _ _ _ hs, eqF_eq, notF_eq]; rfl
    | false => rfl
  · cases y <;> try rfl
    rename_i l c l' c'
    show k (.b (bsel pos (bsel (Nat.beq l l') (Nat.beq c c') false) (notF (bsel (Nat.beq l l') (Nat.beq c c') false)))) = _
    rw [h', notF_eq, show bsel (Nat.beq l l') (Nat.beq c c') false = (Nat.beq l l' && Nat.beq c c') from by cases Nat.beq l l' <;> rfl]
    rfl

/-- what a closure does -/
def FK.run (f : FK) (cf : CallF) (le : List AV) (tm : Tr AV) (st : St) (k : AV → St → Res) : Res := match f with
  | .p f => f le tm fun v => k v st
  | .r f => f le tm st fun v => k v st
  | .m f => f cf le tm st k

section
variable {P : Program} {cf : CallF} {ac : Operand → Acc} {od : Operand → Od} {ev : Od → Option AV} {le : List AV} {tm : Tr AV} {st : St}

theorem sem0 {op : Op} {ty : TypeId} {ds : List Od} (h : cls P op = 0) : sem P cf op ty (cls P op) ev ds st = obind (semP P op ty ev ds) (keep st) := by
  unfold sem; rw [h]; rfl
theorem sem1 {op : Op} {ty : TypeId} {ds : List Od} (h : cls P op = 1) : sem P cf op ty (cls P op) ev ds st = obind (semR P op ev ds st) (keep st) := by
  unfold sem; rw [h]; rfl
theorem sem2 {op : Op} {ty : TypeId} {ds : List Od} (h : cls P op = 2) : sem P cf op ty (cls P op) ev ds st = semA P cf op ev ds st := by
  unfold sem; rw [h]; rfl
theorem two_two {β : Type} (d e : Od) (f : AV → AV → Option β) : two ev [d, e] f = obind (ev d) fun x => obind (ev e) (f x) := by
  rw [two_cons]; rfl
theorem ofO_congr {o : Option AV} {f g : AV → Res} (h : ∀ v, f v = g v) : ofO o f = ofO o g := congrArg (ofO o) (funext h)

/-- one operand, no memory -/
theorem run1 (hac : ∀ x, (ac x).val le tm = ev (od x)) {F : AV → (AV → Res) → Res} {G : AV → Option AV} (h : ∀ x k, F x k = ofO (G x) k) (x : Operand) (k : AV → St → Res) :
    (FK.p fun le tm k => (ac x).on le tm fun x => F x k).run cf le tm st k = ofP (obind (one ev [od x] G) (keep st)) k := by
  show (ac x).on le tm (fun x => F x fun v => k v st) = _
  rw [on_eq, hac, ofP_keep, one_one, ofO_obind]
  exact ofO_congr fun v => h v _
theorem run2 (hac : ∀ x, (ac x).val le tm = ev (od x)) {F : AV → AV → (AV → Res) → Res} {G : AV → AV → Option AV} (h : ∀ x y k, F x y k = ofO (G x y) k) (x y : Operand) (k : AV → St → Res) :
    (FK.p fun le tm k => (ac x).on le tm fun x => (ac y).on le tm fun y => F x y k).run cf le tm st k = ofP (obind (two ev [od x, od y] G) (keep st)) k := by
  show (ac x).on le tm (fun x => (ac y).on le tm fun y => F x y fun v => k v st) = _
  rw [on_eq, hac, ofP_keep, two_two, ofO_obind]
  refine ofO_congr fun v => ?_
  rw [on_eq, hac, ofO_obind]
  exact ofO_congr fun u => h v u _

theorem fgen_run (hac : ∀ x, (ac x).val le tm = ev (od x)) (op : Op) (ty : TypeId) (k : AV → St → Res) :
    (fgen P op ty ac).run cf le tm st k = ofP (sem P cf op ty (cls P op) ev (op.operands.toList.map od) st) k := by
  show manyK (accsOf ac (opsF op)) le tm (fun vs => ofP (sem P cf op ty (cls P op) (evOd vs .e) (idxs 0 (accsOf ac (opsF op))) st) k) = _
  rw [manyK_eq hac, opsF_eq]
  cases hm : many ev (op.operands.toList.map od) with
  | none => rw [sem_none hm]; rfl
  | some vs =>
    show ofP (sem P cf op ty (cls P op) (evOd vs .e) (idxs 0 (accsOf ac op.operands.toList)) st) k = _
    congr 1
    refine sem_cong ?_
    rw [many_map hm, idxs_map, accsOf_length]
    have hl := many_length hm
    simp only [List.length_map] at hl
    rw [hl]
    apply List.ext_getElem?
    intro i
    simp only [List.getElem?_map, List.getElem?_range', Nat.zero_add]
    by_cases hi : i < vs.length
    · rw [List.getElem?_range' hi]; simp [hi]
    · rw [List.getElem?_eq_none (by simpa using hi), List.getElem?_eq_none (by simpa using hi)]; rfl

theorem fbin_run (hac : ∀ x, (ac x).val le tm = ev (od x)) (bop : BinOp) (t : TypeId) (xo yo : Operand) (ty : TypeId) (yt : TypeId) (k : AV → St → Res) :
    (fbin P bop t xo yo (ac xo) (ac yo)).run cf le tm st k = ofP (sem P cf (.binOp bop t xo yo yt) ty (cls P (.binOp bop t xo yo yt)) ev ((Op.binOp bop t xo yo yt).operands.toList.map od) st) k := by
  rw [sem0 rfl]
  show _ = ofP (obind (two ev [od xo, od yo] (aBin P bop t xo yo)) (keep st)) k
  have hI : ∀ (op : BinOp) (ka : IntKind) (a : Int) (kb : IntKind) (b : Int), aBin P op t xo yo (.i ka a) (.i kb b) = aBinI P op ka a kb b := fun _ _ _ _ _ => rfl
  have hS : ∀ (op : BinOp) (l c l' c' : Nat), aBin P op t xo yo (.s l c) (.s l' c') = aBinS op l c l' c' := fun _ _ _ _ _ => rfl
  have hI' : ∀ (op : BinOp) (ka : IntKind) (a : Int) (kb : IntKind) (b : Int) (r : Option AV), sameK ka kb = true → bsel true (match op with
    | .add => some (.i ka (wrapI ka (Int.add a b)))
    | .sub => some (.i ka (wrapI ka (Int.sub a b)))
    | .lss => some (.b (ltI a b))
    | .leq => some (.b (!(ltI b a)))
    | .gtr => some (.b (ltI b a))
    | .geq => some (.b (!(ltI a b)))
    | .eql => some (.b (eqI a b))
    | .neq => some (.b (!(eqI a b)))
    | op => pureV P (Go.binOp op 0 (.int ka a) (.int ka b))) none = r → aBin P op t xo yo (.i ka a) (.i kb b) = r := by
    intro op ka a kb b r hs he
    rw [hI]
    unfold aBinI
    rw [hs]
    rw [bsel_true] at he ⊢
    exact he
  cases bop
  case lss => exact run2 hac (fun x y k => cmpI_eq (fun ka a kb b hs => hI' _ _ _ _ _ _ hs (by simp only [ltF_eq, notF_eq]; rfl)) x y k) xo yo k
  case leq => exact run2 hac (fun x y k => cmpI_eq (fun ka a kb b hs => hI' _ _ _ _ _ _ hs (by simp only [ltF_eq, notF_eq]; rfl)) x y k) xo yo k
  case gtr => exact run2 hac (fun x y k => cmpI_eq (fun ka a kb b hs => hI' _ _ _ _ _ _ hs (by simp only [ltF_eq, notF_eq]; rfl)) x y k) xo yo k
  case geq => exact run2 hac (fun x y k => cmpI_eq (fun ka a kb b hs => hI' _ _ _ _ _ _ hs (by simp only [ltF_eq, notF_eq]; rfl)) x y k) xo yo k
  case eql => exact run2 hac (fun x y k => cmpE_eq (fun ka a kb b hs => hI' _ _ _ _ _ _ hs rfl) (fun l c l' c' => by rw [hS]; rfl) x y k) xo yo k
  case neq => exact run2 hac (fun x y k => cmpE_eq (fun ka a kb b hs => hI' _ _ _ _ _ _ hs rfl) (fun l c l' c' => by rw [hS]; rfl) x y k) xo yo k
  case add => exact run2 hac (fun x y k => arI_eq (fun ka a kb b hs => hI' _ _ _ _ _ _ hs (by simp only [addF_eq, subF_eq]; rfl)) x y k) xo yo k
  case sub => exact run2 hac (fun x y k => arI_eq (fun ka a kb b hs => hI' _ _ _ _ _ _ hs (by simp only [addF_eq, subF_eq]; rfl)) x y k) xo yo k
  all_goals exact run2 hac (fun x y k => rfl) xo yo k

theorem fun1_run (hac : ∀ x, (ac x).val le tm = ev (od x)) (uop : UnOp) (t : TypeId) (x : Operand) (ty : TypeId) (k : AV → St → Res) :
    (fun1 P uop (ac x)).run cf le tm st k = ofP (sem P cf (.unOp uop t x) ty (cls P (.unOp uop t x)) ev ((Op.unOp uop t x).operands.toList.map od) st) k := by
  rw [sem0 rfl]
  show _ = ofP (obind (one ev [od x] (aUn P uop)) (keep st)) k
  cases uop <;> unfold fun1 <;> simp only [] <;> first
    | exact run1 hac (F := fun x k => onB x (fun b => k (.b (notF b))) (ofO (aUn P .not x) k)) (fun x k => by cases x <;> try rfl
                                                                                                              rename_i b; cases b <;> rfl) x k
    | exact run1 hac (fun x k => rfl) x k

/-! ### loads -/
theorem orTop_eq (o : Option AV) (k : AV → Res) : orTop o k = k (o.getD .top) := by cases o <;> rfl
theorem ld1_eq (st : St) (o i : Nat) (k : AV → Res) : ld1 st o i k = ofO (obind (ldCells st o i 1) hd1) k := by
  obtain ⟨h, nx, wm⟩ := st
  show Option.rec (motive := fun _ => Nat → (AV → Res) → Res) (fun _ _ => .no) _ (getO (pth o) h) i k = _
  rw [getO_pth]
  unfold ldCells
  simp only []
  cases ho : h.get o with
  | none => rfl
  | some ob =>
    cases ob with
    | cells c lim esz ro tw =>
      show bsel (Nat.ble (Nat.succ i) lim) (orTop (getV (pth i) c) k) .no = ofO (obind (bsel (Nat.ble (Nat.add i 1) lim) (some (rd c i 1)) (bad 1)) hd1) k
      rw [show Nat.add i 1 = Nat.succ i from rfl]
      cases Nat.ble (Nat.succ i) lim with
      | false => rfl
      | true =>
        rw [bsel_true, bsel_true, orTop_eq, getV_pth, obind_some, rd_succ, rd_zero]
        rfl
    | map es cl => rfl
    | iter s p => rfl
    | dead => rfl
    | miter m => rfl

theorem fload_run (hac : ∀ x, (ac x).val le tm = ev (od x)) (t : TypeId) (x : Operand) (ty : TypeId) (k : AV → St → Res) :
    (fload P t (ac x)).run cf le tm st k = ofP (sem P cf (.load t x) ty (cls P (.load t x)) ev ((Op.load t x).operands.toList.map od) st) k := by
  rw [sem1 rfl]
  show _ = ofP (obind (one ev [od x] (aLoad P st t)) (keep st)) k
  rw [ofP_keep, one_one, ofO_obind]
  unfold fload
  cases hn : aggN P t with
  | none =>
    show Res.no = _
    cases ev (od x) with
    | none => rfl
    | some v => cases v <;> try rfl
                all_goals
                  show Res.no = ofO (obind (aggN P t) _) _
                  rw [hn]; rfl
  | some n =>
    show (bsel (Nat.beq n 0) _ _ : FK).run cf le tm st k = _
    cases h0 : Nat.beq n 0 with
    | true =>
      show (ac x).on le tm (fun x => onPtr x (fun o i => ld1 st o i fun v => k v st) (ofO (aLoad P st t x) fun v => k v st)) = _
      rw [on_eq, hac]
      refine ofO_congr fun v => ?_
      cases v <;> try rfl
      rename_i o i
      show ld1 st o i _ = ofO (obind (aggN P t) _) _
      rw [hn, obind_some, h0, bsel_true]
      exact ld1_eq st o i _
    | false =>
      show (ac x).on le tm (fun x => onPtr x (fun o i => ofO (obind (ldCells st o i n) fun l => some (.agg l)) fun v => k v st) (ofO (aLoad P st t x) fun v => k v st)) = _
      rw [on_eq, hac]
      refine ofO_congr fun v => ?_
      cases v <;> try rfl
      rename_i o i
      show _ = ofO (obind (aggN P t) _) _
      rw [hn, obind_some, h0, bsel_false]
      rfl

/-! ### stores -/
theorem twF_eq (wm tw : Nat) : twF wm tw = bsel (Nat.beq tw 0) true (Nat.blt wm tw) := rfl
theorem st1_eq (st : St) (o i : Nat) (v : AV) (hv : cellOk v = true) (k : AV → St → Res) : st1 st o i v k = ofP (obind (stCells st o i [v]) fun st' => some (undefA, st')) k := by
  obtain ⟨h, nx, wm⟩ := st
  show Option.rec (motive := fun _ => Res) .no (st1c h nx wm o i v k) (getO (pth o) h) = _
  rw [getO_pth]
  unfold stCells
  simp only []
  cases ho : h.get o with
  | none => rfl
  | some ob =>
    cases ob with
    | cells c lim esz ro tw =>
      cases ro with
      | true => rfl
      | false =>
        have hall : allOk [v] = true := by rw [allOk_cons, hv]; rfl
        show bsel (Nat.ble (Nat.succ i) lim) _ _ = ofP (obind (need (Nat.ble (Nat.add i (lenA [v])) lim) 3 (need (allOk [v]) 3 (need (Nat.ble wm o) 3 (need (twinOk ⟨h, nx, wm⟩ tw) 3 _)))) _) k
        rw [hall, show Nat.add i (lenA [v]) = Nat.succ i from rfl]
        unfold need twinOk
        simp only [bsel_true]
        rw [twF_eq]
        cases Nat.ble (Nat.succ i) lim with
        | false => rfl
        | true =>
          cases Nat.ble wm o with
          | false => rfl
          | true =>
            cases bsel (Nat.beq tw 0) true (Nat.blt wm tw) with
            | false => rfl
            | true =>
              simp only [bsel_true]
              rw [setO_pth, setV_pth]
              rfl
    | map es cl => rfl
    | iter s p => rfl
    | dead => rfl
    | miter m => rfl
theorem onCell_eq (v : AV) (k d : Res) : onCell v k d = if cellOk v = true then k else d := by cases v <;> rfl
theorem acells_ok {v : AV} (h : cellOk v = true) : acells v = [v] := by cases v <;> first | rfl | cases h

theorem fstore_run (hac : ∀ x, (ac x).val le tm = ev (od x)) (t : TypeId) (x y : Operand) (ty : TypeId) (k : AV → St → Res) :
    (fstore P t (ac x) (ac y)).run cf le tm st k = ofP (sem P cf (.store t x y) ty (cls P (.store t x y)) ev ((Op.store t x y).operands.toList.map od) st) k := by
  rw [sem2 rfl]
  show _ = ofP (two ev [od x, od y] (aStoreU P st t)) k
  rw [two_two, ofP_obind]
  unfold fstore
  cases hn : sizeT P t with
  | none =>
    show Res.no = _
    cases ev (od x) with
    | none => rfl
    | some a =>
      rw [ofO_some, ofP_obind]
      cases ev (od y) with
      | none => rfl
      | some v =>
        rw [ofO_some]
        unfold aStoreU aStore
        cases a <;> try rfl
        rw [hn]; rfl
  | some n =>
    show (bsel (Nat.beq n 1) _ _ : FK).run cf le tm st k = _
    cases h1 : Nat.beq n 1 with
    | true =>
      show (ac x).on le tm (fun x => (ac y).on le tm fun y => onPtr x (fun o i => onCell y (st1 st o i y k) (ofP (aStoreU P st t x y) k)) .no) = _
      rw [on_eq, hac]
      refine ofO_congr fun a => ?_
      rw [on_eq, hac, ofP_obind]
      refine ofO_congr fun v => ?_
      cases a <;> try rfl
      rename_i o i
      show onCell v (st1 st o i v k) _ = _
      rw [onCell_eq]
      split
      · rename_i hv
        rw [st1_eq _ _ _ _ hv]
        unfold aStoreU aStore
        simp only [hn, acells_ok hv]
        rw [show Nat.beq (lenA [v]) n = true from by
          rw [Nat.beq_eq] at h1 ⊢; rw [h1]; rfl, cond_true]
      · rfl
    | false =>
      show (ac x).on le tm (fun x => (ac y).on le tm fun y => ofP (aStoreU P st t x y) k) = _
      rw [on_eq, hac]
      refine ofO_congr fun a => ?_
      rw [on_eq, hac, ofP_obind]

/-! ### places -/
theorem ffield_run (hac : ∀ x, (ac x).val le tm = ev (od x)) (s : TypeId) (f : Nat) (x : Operand) (ty : TypeId) (k : AV → St → Res) :
    (ffield P s f (ac x)).run cf le tm st k = ofP (sem P cf (.fieldAddr s x f) ty (cls P (.fieldAddr s x f)) ev ((Op.fieldAddr s x f).operands.toList.map od) st) k := by
  rw [sem0 rfl]
  show _ = ofP (obind (one ev [od x] (aFieldAddr P s f)) (keep st)) k
  unfold ffield
  cases hn : fieldOff P s f with
  | none =>
    show Res.no = _
    rw [ofP_keep, one_one, ofO_obind]
    cases ev (od x) with
    | none => rfl
    | some v => cases v <;> try rfl
                show Res.no = ofO (obind (fieldOff P s f) _) _
                rw [hn]; rfl
  | some off =>
    refine run1 hac (F := fun x k => onPtr x (fun o i => cN (Nat.add i off) fun j => k (.ptr o j)) .no) (fun x k => ?_) x k
    cases x <;> try rfl
    rename_i o i
    show cN (Nat.add i off) (fun j => k (.ptr o j)) = ofO (obind (fieldOff P s f) fun off => some (.ptr o (Nat.add i off))) k
    rw [hn, cN_eq]; rfl
theorem findex_run (hac : ∀ x, (ac x).val le tm = ev (od x)) (t : TypeId) (x y : Operand) (ty : TypeId) (k : AV → St → Res) :
    (findex P t (ac x) (ac y)).run cf le tm st k = ofP (sem P cf (.indexAddr t x y) ty (cls P (.indexAddr t x y)) ev ((Op.indexAddr t x y).operands.toList.map od) st) k := by
  rw [sem0 rfl]
  show _ = ofP (obind (two ev [od x, od y] (aIndexAddr P t)) (keep st)) k
  unfold findex
  split
  · rename_i e hu
    cases hn : sizeT P e with
    | none =>
      show Res.no = _
      rw [ofP_keep, two_two, ofO_obind]
      cases ev (od x) with
      | none => rfl
      | some a =>
        rw [ofO_some, ofO_obind]
        cases ev (od y) with
        | none => rfl
        | some v =>
          rw [ofO_some]
          unfold aIndexAddr
          rw [hu]
          cases v <;> try rfl
          rename_i kd n
          cases n <;> try rfl
          cases a <;> try rfl
          simp only [hn]
          cases Nat.blt _ _ <;> rfl
    | some s =>
      refine run2 hac (F := fun x y k => onSl x (fun o i len => onI y (fun _ n =>
        Int.rec (motive := fun _ => Res) (fun n => bsel (Nat.ble (Nat.succ n) len) (cN (Nat.add i (Nat.mul n s)) fun j => k (.ptr o j)) .no) (fun _ => .no) n) .no) .no) (fun a v k => ?_) x y k
      unfold aIndexAddr
      rw [hu]
      cases v <;> try (cases a <;> rfl)
      rename_i kd n
      cases n <;> try (cases a <;> rfl)
      rename_i n
      cases a <;> try rfl
      rename_i o i len cap kn e2
      show bsel (Nat.ble (Nat.succ n) len) (cN _ _) .no = ofO (bsel (Nat.blt n len) (obind (sizeT P e) _) (bad 26)) k
      rw [hn, show Nat.blt n len = Nat.ble (Nat.succ n) len from rfl, cN_eq]
      cases Nat.ble (Nat.succ n) len <;> rfl
  · exact run2 hac (fun x y k => rfl) x y k
theorem fconv_run (hac : ∀ x, (ac x).val le tm = ev (od x)) (s d : TypeId) (x : Operand) (ty : TypeId) (k : AV → St → Res) :
    (fconv P s d x ty ac).run cf le tm st k = ofP (sem P cf (.convert s d x) ty (cls P (.convert s d x)) ev ((Op.convert s d x).operands.toList.map od) st) k := by
  unfold fconv
  split
  · rename_i us kd hs hd
    have hc : cls P (.convert s d x) = 0 := by
      show (match P.underlying s, P.underlying d with
        | some .string, some (.slice _) => 2
        | some (.slice _), some .string => 1
        | some (.slice _), some (.slice _) => 2
        | _, _ => 0) = 0
      rw [hs, hd]
      cases us <;> rfl
    rw [sem0 hc]
    show _ = ofP (obind (one ev [od x] (aConvP P s d)) (keep st)) k
    refine run1 hac (F := fun x k => onI x (fun _ n => k (.i kd (wrapF kd n))) (ofO (aConvP P s d x) k)) (fun x k => ?_) x k
    cases x <;> try rfl
    rename_i k0 n
    show k (.i kd (wrapF kd n)) = ofO (aConvP P s d (.i k0 n)) k
    unfold aConvP
    rw [hs, hd, wrapF_eq]
    rfl
  · exact fgen_run hac _ ty k

/-! ### new variables -/
theorem new1_eq (st : St) (vs : List AV) (n : Nat) (hn : lenA vs = n) (k : AV → St → Res) : new1 st (wr .e 0 vs) n k = k (.ptr st.next 0) (newCells st vs n) := by
  obtain ⟨h, nx, wm⟩ := st
  subst hn
  show cN nx (fun nx => k (.ptr nx 0) (.mk (setO (.cells (wr .e 0 vs) (lenA vs) (lenA vs) false 0) (pth nx) h) (Nat.succ nx) wm)) = _
  rw [cN_eq, setO_pth]
  rfl
theorem falloc_run (t : TypeId) (ty : TypeId) (k : AV → St → Res) :
    (falloc P t).run cf le tm st k = ofP (sem P cf (.alloc t) ty (cls P (.alloc t)) ev ((Op.alloc t).operands.toList.map od) st) k := by
  rw [sem2 rfl]
  show _ = ofP (obind (zeroT P t) (aNewVar st)) k
  unfold falloc
  cases zeroT P t with
  | none => rfl
  | some z =>
    show (bsel (allOk (acells z)) _ _ : FK).run cf le tm st k = ofP (bif allOk (acells z) then _ else _) k
    cases allOk (acells z) with
    | false => rfl
    | true => exact new1_eq st _ _ rfl k
theorem fbox_run (hac : ∀ x, (ac x).val le tm = ev (od x)) (t : TypeId) (x : Operand) (ty : TypeId) (k : AV → St → Res) :
    (fbox (ac x)).run cf le tm st k = ofP (sem P cf (.box t x) ty (cls P (.box t x)) ev ((Op.box t x).operands.toList.map od) st) k := by
  rw [sem2 rfl]
  show (ac x).on le tm (fun y => onCell y (new1 st (.n (some y) .e .e) 1 k) (ofP (aNewVar st y) k)) = ofP (one ev [od x] (aNewVar st)) k
  rw [on_eq, hac, one_one, ofP_obind]
  refine ofO_congr fun v => ?_
  rw [onCell_eq]
  split
  · rename_i hv
    have hall : allOk [v] = true := by rw [allOk_cons, hv]; rfl
    have := new1_eq st [v] 1 rfl k
    rw [show wr (.e : Tr AV) 0 [v] = .n (some v) .e .e from rfl] at this
    rw [this]
    unfold aNewVar
    rw [acells_ok hv, hall, cond_true]
    rfl
  · rfl
end
end Go.Proofs.YtaadcblcpojhhaaGreatDoor.Ev
