import Derived.Test.YtaadcblcpojhhaaGreatDoorEvFast
set_option linter.unusedVariables false
namespace Go.Proofs.YtaadcblcpojhhaaGreatDoor.Ev
open Go.RowKit

/-! ## tries -/
theorem getV_eq : ∀ (p : Pth) (t : Tr AV), getV p t = getQ p t
  | .z, _ => rfl
  | .l _, .e => rfl
  | .l p, .n _ l _ => getV_eq p l
  | .r _, .e => rfl
  | .r p, .n _ _ r => getV_eq p r
theorem setV_eq (a : AV) : ∀ (p : Pth) (t : Tr AV), setV a p t = setQ a p t
  | .z, .e => rfl
  | .z, .n _ _ _ => rfl
  | .l p, .e => congrArg (fun x => Tr.n none x .e) (setV_eq a p .e)
  | .l p, .n v l r => congrArg (fun x => Tr.n v x r) (setV_eq a p l)
  | .r p, .e => congrArg (fun x => Tr.n none .e x) (setV_eq a p .e)
  | .r p, .n v l r => congrArg (fun x => Tr.n v l x) (setV_eq a p r)
theorem getO_eq : ∀ (p : Pth) (t : Tr AObj), getO p t = getQ p t
  | .z, _ => rfl
  | .l _, .e => rfl
  | .l p, .n _ l _ => getO_eq p l
  | .r _, .e => rfl
  | .r p, .n _ _ r => getO_eq p r
theorem setO_eq (a : AObj) : ∀ (p : Pth) (t : Tr AObj), setO a p t = setQ a p t
  | .z, .e => rfl
  | .z, .n _ _ _ => rfl
  | .l p, .e => congrArg (fun x => Tr.n none x .e) (setO_eq a p .e)
  | .l p, .n v l r => congrArg (fun x => Tr.n v x r) (setO_eq a p l)
  | .r p, .e => congrArg (fun x => Tr.n none .e x) (setO_eq a p .e)
  | .r p, .n v l r => congrArg (fun x => Tr.n v l x) (setO_eq a p r)
theorem getV_pth (t : Tr AV) (k : Nat) : getV (pth k) t = t.get k := getV_eq _ _
theorem setV_pth (t : Tr AV) (k : Nat) (a : AV) : setV a (pth k) t = t.set k a := setV_eq _ _ _
theorem getO_pth (t : Tr AObj) (k : Nat) : getO (pth k) t = t.get k := getO_eq _ _
theorem setO_pth (t : Tr AObj) (k : Nat) (a : AObj) : setO a (pth k) t = t.set k a := setO_eq _ _ _

/-! ## operands -/
theorem ofO_none (k : AV → Res) : ofO none k = .no := rfl
theorem ofO_some (v : AV) (k : AV → Res) : ofO (some v) k = k v := rfl
theorem ofP_none (k : AV → St → Res) : ofP none k = .no := rfl
theorem ofP_some (v : AV) (st : St) (k : AV → St → Res) : ofP (some (v, st)) k = k v st := rfl
theorem ofP_keep (o : Option AV) (st : St) (k : AV → St → Res) : ofP (obind o (keep st)) k = ofO o fun v => k v st := by cases o <;> rfl
theorem ofO_obind (o : Option AV) (f : AV → Option AV) (k : AV → Res) : ofO (obind o f) k = ofO o fun v => ofO (f v) k := by cases o <;> rfl
theorem ofP_obind (o : Option AV) (f : AV → Option (AV × St)) (k : AV → St → Res) : ofP (obind o f) k = ofO o fun v => ofP (f v) k := by cases o <;> rfl

theorem hdK_eq (le : List AV) (k : AV → Res) : hdK le k = ofO le[0]? k := by cases le <;> rfl
theorem nthK_eq : ∀ (j : Nat) (le : List AV) (k : AV → Res), nthK j le k = ofO le[j]? k
  | 0, le, k => hdK_eq le k
  | j + 1, [], k => rfl
  | j + 1, x :: t, k => nthK_eq j t k
theorem on_eq (a : Acc) (le : List AV) (tm : Tr AV) (k : AV → Res) : a.on le tm k = ofO (a.val le tm) k := by
  cases a with
  | l0 => exact hdK_eq le k
  | l1 => cases le with
    | nil => rfl
    | cons x t => exact hdK_eq t k
  | l2 => cases le with
    | nil => rfl
    | cons x t => cases t with
      | nil => rfl
      | cons y u => exact hdK_eq u k
  | l j => exact nthK_eq j le k
  | v p => show Option.rec (motive := fun _ => (AV → Res) → Res) (fun _ => .no) (fun v k => k v) (getV p tm) k = ofO (getV p tm) k; cases getV p tm <;> rfl
  | c a => rfl
  | x => rfl
theorem lAcc_val (j : Nat) (le : List AV) (tm : Tr AV) : (lAcc j).val le tm = le[j]? := by
  unfold lAcc
  simp only [bsel_eq, Nat.beq_eq]
  split
  · rename_i h; subst h; rfl
  · split
    · rename_i h; subst h; rfl
    · split
      · rename_i h; subst h; rfl
      · rfl

/-! ## all operands at once -/
theorem one_cong {β : Type} {ev ev' : Od → Option AV} {ds ds' : List Od} (h : ds.map ev = ds'.map ev') (f : AV → Option β) : one ev ds f = one ev' ds' f := by
  cases ds with
  | nil => cases ds' with
    | nil => rfl
    | cons d r => simp at h
  | cons d r => cases ds' with
    | nil => simp at h
    | cons d' r' =>
      simp only [List.map_cons, List.cons.injEq] at h
      cases r with
      | nil => cases r' with
        | nil => rw [one_one, one_one, h.1]
        | cons e s => simp at h
      | cons e s => cases r' with
        | nil => simp at h
        | cons e' s' => rfl
theorem two_cong {β : Type} {ev ev' : Od → Option AV} {ds ds' : List Od} (h : ds.map ev = ds'.map ev') (f : AV → AV → Option β) : two ev ds f = two ev' ds' f := by
  cases ds with
  | nil => cases ds' with
    | nil => rfl
    | cons d r => simp at h
  | cons d r => cases ds' with
    | nil => simp at h
    | cons d' r' =>
      simp only [List.map_cons, List.cons.injEq] at h
      rw [two_cons, two_cons, h.1]
      congr 1
      funext x
      exact one_cong h.2 _
theorem three_cong {β : Type} {ev ev' : Od → Option AV} {ds ds' : List Od} (h : ds.map ev = ds'.map ev') (f : AV → AV → AV → Option β) : three ev ds f = three ev' ds' f := by
  cases ds with
  | nil => cases ds' with
    | nil => rfl
    | cons d r => simp at h
  | cons d r => cases ds' with
    | nil => simp at h
    | cons d' r' =>
      simp only [List.map_cons, List.cons.injEq] at h
      rw [three_cons, three_cons, h.1]
      congr 1
      funext x
      exact two_cong h.2 _
theorem many_cong {ev ev' : Od → Option AV} : ∀ {ds ds' : List Od}, ds.map ev = ds'.map ev' → many ev ds = many ev' ds'
  | [], [], _ => rfl
  | [], _ :: _, h => by simp at h
  | _ :: _, [], h => by simp at h
  | d :: r, d' :: r', h => by
    simp only [List.map_cons, List.cons.injEq] at h
    rw [many_cons, many_cons, h.1, many_cong h.2]
theorem sem_cong {P : Program} {cf : CallF} {op : Op} {ty : TypeId} {cl : Nat} {ev ev' : Od → Option AV} {ds ds' : List Od} {st : St} (h : ds.map ev = ds'.map ev') :
    sem P cf op ty cl ev ds st = sem P cf op ty cl ev' ds' st := by
  unfold sem
  congr 1
  · congr 1
    cases op <;> simp only [semP] <;> first | rfl | exact one_cong h _ | exact two_cong h _ | exact three_cong h _ | rw [many_cong h]
  · congr 1
    · congr 1
      cases op <;> simp only [semR] <;> first | rfl | exact one_cong h _ | exact two_cong h _
    · cases op with
      | makeMap t r => cases r <;> rfl
      | next i b => cases b with
        | false => exact one_cong h _
        | true => exact one_cong h _
      | _ => simp only [semA] <;> first | rfl | exact one_cong h _ | exact two_cong h _ | exact three_cong h _ | rw [many_cong h]
theorem many_map {ev : Od → Option AV} : ∀ {ds : List Od} {vs : List AV}, many ev ds = some vs → ds.map ev = vs.map some
  | [], vs, h => by cases h; rfl
  | d :: r, vs, h => by
    rw [many_cons] at h
    obtain ⟨v, h1, h⟩ := obind_elim h
    obtain ⟨vs', h2, h⟩ := obind_elim h
    cases h
    rw [List.map_cons, List.map_cons, h1, many_map h2]
theorem lget_eq : ∀ (l : List AV) (j : Nat), lget l j = l[j]?
  | [], j => rfl
  | x :: l, 0 => rfl
  | x :: l, j + 1 => by rw [lget_succ, lget_eq l j]; rfl
theorem idxs_map (vs : List AV) : ∀ (as : List Acc) (n : Nat), (idxs n as).map (evOd vs .e) = (List.range' n as.length).map fun i => vs[i]?
  | [], n => rfl
  | a :: as, n => by
    show evOd vs .e (.l n) :: (idxs (n + 1) as).map (evOd vs .e) = _
    rw [idxs_map vs as (n + 1), List.length_cons, List.range'_succ, List.map_cons, evOd_l, lget_eq]
theorem manyK_eq {ac : Operand → Acc} {od : Operand → Od} {ev : Od → Option AV} {le : List AV} {tm : Tr AV} (h : ∀ x, (ac x).val le tm = ev (od x)) : ∀ (l : List Operand) (k : List AV → Res),
    manyK (accsOf ac l) le tm k = Option.rec (motive := fun _ => Res) .no k (many ev (l.map od))
  | [], k => rfl
  | x :: l, k => by
    show (ac x).on le tm (fun v => manyK (accsOf ac l) le tm fun vs => k (v :: vs)) = _
    rw [on_eq, h x, List.map_cons, many_cons]
    cases ev (od x) with
    | none => rfl
    | some v =>
      rw [ofO_some, obind_some, manyK_eq h l]
      cases many ev (l.map od) <;> rfl
theorem accsOf_length (ac : Operand → Acc) : ∀ l, (accsOf ac l).length = l.length
  | [] => rfl
  | x :: l => congrArg Nat.succ (accsOf_length ac l)
theorem many_length {ev : Od → Option AV} {ds : List Od} {vs : List AV} (h : many ev ds = some vs) : ds.length = vs.length := by
  have := congrArg List.length (many_map h); simpa using this
theorem callOps_eq (c : Call) : callOps c = c.operands.toList := by
  unfold callOps Call.operands
  cases c.callee <;> simp
theorem opsF_eq (op : Op) : opsF op = op.operands.toList := by
  unfold opsF
  split
  · rw [callOps_eq]; rfl
  · rfl
theorem one_none {β : Type} {ev : Od → Option AV} {ds : List Od} (h : many ev ds = none) (f : AV → Option β) : one ev ds f = none := by
  cases ds with
  | nil => cases h
  | cons d r => cases r with
    | nil =>
      rw [one_one]
      rw [many_cons, many_nil] at h
      cases hd : ev d with
      | none => rfl
      | some v => rw [hd] at h; cases h
    | cons e s => rfl
theorem two_none {β : Type} {ev : Od → Option AV} {ds : List Od} (h : many ev ds = none) (f : AV → AV → Option β) : two ev ds f = none := by
  cases ds with
  | nil => cases h
  | cons d r =>
    rw [two_cons]
    rw [many_cons] at h
    cases hd : ev d with
    | none => rfl
    | some v =>
      rw [hd, obind_some] at h
      rw [obind_some]
      exact one_none (by cases hm : many ev r with | none => rfl | some vs => rw [hm] at h; cases h) _
theorem three_none {β : Type} {ev : Od → Option AV} {ds : List Od} (h : many ev ds = none) (f : AV → AV → AV → Option β) : three ev ds f = none := by
  cases ds with
  | nil => cases h
  | cons d r =>
    rw [three_cons]
    rw [many_cons] at h
    cases hd : ev d with
    | none => rfl
    | some v =>
      rw [hd, obind_some] at h
      rw [obind_some]
      exact two_none (by cases hm : many ev r with | none => rfl | some vs => rw [hm] at h; cases h) _
theorem sem_none {P : Program} {cf : CallF} {op : Op} {ty : TypeId} {cl : Nat} {ev : Od → Option AV} {od : Operand → Od} {st : St} (h : many ev (op.operands.toList.map od) = none) :
    sem P cf op ty cl ev (op.operands.toList.map od) st = none := by
  have h1 : semP P op ty ev (op.operands.toList.map od) = none := by
    cases op <;> simp only [semP] <;> first | rfl | exact one_none h _ | exact two_none h _ | exact three_none h _ | (rw [h]; rfl)
  have h2 : semR P op ev (op.operands.toList.map od) st = none := by
    cases op <;> simp only [semR] <;> first | rfl | exact one_none h _ | exact two_none h _
  have h3 : semA P cf op ev (op.operands.toList.map od) st = none := by
    cases op with
    | makeMap t r => cases r with
      | none => simp [Op.operands, many_nil] at h
      | some x => rfl
    | next i b => cases b with
      | false => exact one_none h _
      | true => exact one_none h _
    | alloc t => simp [Op.operands, many_nil] at h
    | _ => simp only [semA] <;> first | rfl | exact one_none h _ | exact two_none h _ | exact three_none h _ | (rw [h]; rfl)
  unfold sem
  rw [h1, h2, h3]
  simp only [bsel_eq, obind_none]
  split
  · rfl
  · split <;> rfl
end Go.Proofs.YtaadcblcpojhhaaGreatDoor.Ev
