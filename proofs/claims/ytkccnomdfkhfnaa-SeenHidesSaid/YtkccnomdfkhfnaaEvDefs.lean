/- What functions of the program compute, written down; read off their code. -/
import GoSem.Dispatch
import GoSem.Core.Region
import GoSem.Machine.Frame
import Derived.Test.YtkccnomdfkhfnaaSvData
set_option linter.unusedSimpArgs false
set_option linter.unusedVariables false
namespace Go.Proofs.Ytkccnomdfkhfnaa.Ev
noncomputable section
/-! ## small eliminators: by the recursors themselves, so that the kernel has the least to unfold -/
def bsel {α : Type} (b : Bool) (x y : α) : α := Bool.rec (motive := fun _ => α) y x b
def obind {α β : Type} (x : Option α) (f : α → Option β) : Option β := Option.rec (motive := fun _ => Option β) none f x
def obind2 {α γ β : Type} (x : Option (α × γ)) (f : α → γ → Option β) : Option β :=
  Option.rec (motive := fun _ => Option β) none (fun p => Prod.rec (motive := fun _ => Option β) f p) x

theorem bsel_true {α : Type} (x y : α) : bsel true x y = x := rfl
theorem bsel_false {α : Type} (x y : α) : bsel false x y = y := rfl
theorem bsel_eq {α : Type} (b : Bool) (x y : α) : bsel b x y = if b = true then x else y := by cases b <;> rfl
theorem obind_none {α β : Type} (f : α → Option β) : obind none f = none := rfl
theorem obind_some {α β : Type} (a : α) (f : α → Option β) : obind (some a) f = f a := rfl
theorem obind2_none {α γ β : Type} (f : α → γ → Option β) : obind2 none f = none := rfl
theorem obind2_some {α γ β : Type} (a : α) (c : γ) (f : α → γ → Option β) : obind2 (some (a, c)) f = f a c := rfl

/-! ## tries -/
inductive Tr (α : Type) where
  | e : Tr α
  | n (v : Option α) (l r : Tr α) : Tr α

/-! ### places in a trie, as paths -/
inductive Pth where
  | z
  | l (p : Pth)
  | r (p : Pth)
def pthF (f : Nat) : Nat → Pth :=
  Nat.rec (motive := fun _ => Nat → Pth) (fun _ => .z) (fun _ ih k => Bool.rec (motive := fun _ => Pth)
    (Bool.rec (motive := fun _ => Pth) (.r (ih (Nat.sub (Nat.div k 2) 1))) (.l (ih (Nat.div k 2))) (Nat.beq (Nat.mod k 2) 1)) .z (Nat.beq k 0)) f
def pth (k : Nat) : Pth := pthF (Nat.succ k) k
def getQ {α : Type} (p : Pth) : Tr α → Option α :=
  Pth.rec (motive := fun _ => Tr α → Option α)
    (fun t => Tr.rec (motive := fun _ => Option α) none (fun v _ _ _ _ => v) t)
    (fun _ ih t => Tr.rec (motive := fun _ => Option α) none (fun _ l _ _ _ => ih l) t)
    (fun _ ih t => Tr.rec (motive := fun _ => Option α) none (fun _ _ r _ _ => ih r) t) p
def setQ {α : Type} (a : α) (p : Pth) : Tr α → Tr α :=
  Pth.rec (motive := fun _ => Tr α → Tr α)
    (fun t => Tr.rec (motive := fun _ => Tr α) (.n (some a) .e .e) (fun _ l r _ _ => .n (some a) l r) t)
    (fun _ ih t => Tr.rec (motive := fun _ => Tr α) (.n none (ih .e) .e) (fun v l r _ _ => .n v (ih l) r) t)
    (fun _ ih t => Tr.rec (motive := fun _ => Tr α) (.n none .e (ih .e)) (fun v l r _ _ => .n v l (ih r)) t) p
def Tr.get {α : Type} (t : Tr α) (k : Nat) : Option α := getQ (pth k) t
def Tr.set {α : Type} (t : Tr α) (k : Nat) (a : α) : Tr α := setQ a (pth k) t

def Pth.num : Pth → Nat
  | .z => 0
  | .l p => 2 * p.num + 1
  | .r p => 2 * p.num + 2
theorem num_pthF : ∀ (f k : Nat), k < f → (pthF f k).num = k
  | 0, k, h => absurd h (Nat.not_lt_zero k)
  | f + 1, k, h => by
    show (Bool.rec (motive := fun _ => Pth) (Bool.rec (motive := fun _ => Pth) (.r (pthF f (k / 2 - 1))) (.l (pthF f (k / 2))) (Nat.beq (k % 2) 1)) .z (Nat.beq k 0)).num = k
    by_cases h0 : k = 0
    · subst h0; rfl
    · rw [show Nat.beq k 0 = false from by rw [← Bool.not_eq_true, Nat.beq_eq]; exact h0]
      by_cases h1 : k % 2 = 1
      · rw [show Nat.beq (k % 2) 1 = true from by rw [Nat.beq_eq]; exact h1]
        show 2 * (pthF f (k / 2)).num + 1 = k
        rw [num_pthF f _ (by omega)]; omega
      · rw [show Nat.beq (k % 2) 1 = false from by rw [← Bool.not_eq_true, Nat.beq_eq]; exact h1]
        show 2 * (pthF f (k / 2 - 1)).num + 2 = k
        rw [num_pthF f _ (by omega)]; omega
theorem pth_inj {k j : Nat} (h : pth k = pth j) : k = j := by
  rw [← num_pthF (k + 1) k (by omega), ← num_pthF (j + 1) j (by omega)]
  exact congrArg Pth.num h
theorem getQ_e {α : Type} (p : Pth) : getQ p (.e : Tr α) = none := by cases p <;> rfl
theorem getQ_setQ_same {α : Type} (a : α) : ∀ (p : Pth) (t : Tr α), getQ p (setQ a p t) = some a
  | .z, .e => rfl
  | .z, .n _ _ _ => rfl
  | .l p, .e => getQ_setQ_same a p .e
  | .l p, .n _ l _ => getQ_setQ_same a p l
  | .r p, .e => getQ_setQ_same a p .e
  | .r p, .n _ _ r => getQ_setQ_same a p r
theorem getQ_setQ_ne {α : Type} (a : α) : ∀ (p q : Pth) (t : Tr α), q ≠ p → getQ q (setQ a p t) = getQ q t
  | .z, .z, _, h => absurd rfl h
  | .z, .l q, .e, _ => getQ_e q
  | .z, .l _, .n _ _ _, _ => rfl
  | .z, .r q, .e, _ => getQ_e q
  | .z, .r _, .n _ _ _, _ => rfl
  | .l _, .z, .e, _ => rfl
  | .l _, .z, .n _ _ _, _ => rfl
  | .l p, .l q, .e, h => (getQ_setQ_ne a p q .e (fun e => h (congrArg Pth.l e))).trans (getQ_e q)
  | .l p, .l q, .n _ l _, h => getQ_setQ_ne a p q l (fun e => h (congrArg Pth.l e))
  | .l _, .r q, .e, _ => getQ_e q
  | .l _, .r _, .n _ _ _, _ => rfl
  | .r _, .z, .e, _ => rfl
  | .r _, .z, .n _ _ _, _ => rfl
  | .r _, .l q, .e, _ => getQ_e q
  | .r _, .l _, .n _ _ _, _ => rfl
  | .r p, .r q, .e, h => (getQ_setQ_ne a p q .e (fun e => h (congrArg Pth.r e))).trans (getQ_e q)
  | .r p, .r q, .n _ _ r, h => getQ_setQ_ne a p q r (fun e => h (congrArg Pth.r e))
theorem Tr.get_e {α : Type} (k : Nat) : (Tr.e : Tr α).get k = none := getQ_e _
theorem Tr.get_set {α : Type} (t : Tr α) (k : Nat) (a : α) (k' : Nat) : (t.set k a).get k' = if k' = k then some a else t.get k' := by
  unfold Tr.get Tr.set
  by_cases h : k' = k
  · subst h; rw [if_pos rfl, getQ_setQ_same]
  · rw [if_neg h, getQ_setQ_ne _ _ _ _ (fun e => h (pth_inj e))]

/-! ## abstract values -/
/-- What is not known but by its text: data, rows in memory that is never written again, rows of one's own (object, version, elements, where it begins, how many), pointers into both. -/
inductive SX where
  | b (x : Bool)
  | i (k : IntKind) (n : Int)
  | s (l : List UInt8)
  | row (e : ET) (xs : List e.T)
  | own (o ver : Nat) (e : ET) (fu : Bool) (lo n : Nat)
  | rp (e : ET) (xs : List e.T) (i j : Nat)
  | op (o ver : Nat) (e : ET) (i j : Nat)
/-- A value as the run knows it. Strings by their bytes' number; rows and pointers by objects. -/
inductive AV where
  | b (x : Bool)
  | i (k : IntKind) (n : Int)
  | s (len code : Nat)
  | nilp
  | ptr (o k : Nat)
  | nils
  | sl (o k len cap : Nat) (kn : Bool) (e : Nat)
  | loose (o : Nat)
  | nilm
  | mp (o : Nat)
  | fn (f : FuncId) (first captured : List AV)
  | nilf
  | ifc (t : TypeId) (v : AV)
  | nili
  | agg (l : List AV)
  | tup (l : List AV)
  | fl (k : FloatKind) (b : Nat)
  | top
  | lb (n : Nat)
  | neg
  | alt (it g : Nat) (l : List AV)
  | sn (l : List (Nat × Nat))
  | x (s : SX)
  deriving Inhabited

def bad {α : Type} (_ : Nat) : Option α := none

def need {α : Type} (b : Bool) (n : Nat) (x : Option α) : Option α := bsel b x (bad n)

def undefA : AV := .tup []

def acells : AV → List AV
  | .agg l => l
  | v => [v]

/-- may it stand in one cell? -/
def cell1 : AV → Bool
  | .agg _ | .tup _ | .top | .lb _ | .neg | .alt _ _ _ | .sn _ | .x _ => false
  | _ => true
def all1 : List AV → Bool
  | [] => true
  | x :: r => bsel (cell1 x) (all1 r) false
def cellOk : AV → Bool
  | .agg _ | .tup _ | .top | .lb _ | .neg | .sn _ => false
  | _ => true

def okC (v : AV) : Bool :=
  AV.rec (motive_1 := fun _ => Bool) (motive_2 := fun _ => Bool) (fun _ => true) (fun _ _ => true) (fun _ _ => true) true (fun _ _ => true) true (fun _ _ _ _ _ _ => true) (fun _ => true) true (fun _ => true)
    (fun _ _ _ _ _ => true) true (fun _ _ _ => true) true (fun _ _ => false) (fun _ _ => false) (fun _ _ => true) false (fun _ => false) false (fun _ _ _ _ => true) (fun _ => false) (fun _ => true) true (fun _ _ _ _ => true) v
theorem okC_eq (v : AV) : okC v = cellOk v := by cases v <;> rfl
def allOk (l : List AV) : Bool := List.rec (motive := fun _ => Bool) true (fun x _ ih => Bool.rec (motive := fun _ => Bool) false ih (okC x)) l
theorem allOk_nil : allOk [] = true := rfl
theorem allOk_cons (x : AV) (xs : List AV) : allOk (x :: xs) = bsel (cellOk x) (allOk xs) false := by rw [← okC_eq]; rfl
def appA (l r : List AV) : List AV := List.rec (motive := fun _ => List AV) r (fun x _ ih => x :: ih) l
theorem appA_eq (l r : List AV) : appA l r = l ++ r := by
  induction l with
  | nil => rfl
  | cons x l ih => exact congrArg (List.cons x) ih
def lenA (l : List AV) : Nat := List.rec (motive := fun _ => Nat) 0 (fun _ _ ih => Nat.succ ih) l
theorem lenA_eq (l : List AV) : lenA l = List.length l := by
  induction l with
  | nil => rfl
  | cons x l ih => exact congrArg Nat.succ ih

/-! ### strings -/
def enc (l : List UInt8) : Nat := l.foldl (fun n b => n * 256 + b.toNat) 0
def dec : Nat → Nat → List UInt8 → List UInt8
  | 0, _, acc => acc
  | n + 1, code, acc => dec n (Nat.div code 256) (UInt8.ofNat (Nat.mod code 256) :: acc)
def strV (len code : Nat) : Value := .string ⟨⟨dec len code []⟩⟩

/-! ### constants -/
mutual
def cv : Nat → Value → Option AV
  | 0, _ => none
  | n + 1, v => match v with
    | .bool b => some (.b b)
    | .int k x => some (.i k x)
    | .string s => some (.s s.size (enc s.data.toList))
    | .pointer none => some .nilp
    | .slice none 0 0 => some .nils
    | .map none => some .nilm
    | .nilFunc => some .nilf
    | .nilIface => some .nili
    | .iface t w => match cv n w with | some a => some (.ifc t a) | none => none
    | .agg cs => match cvl n cs.toList with | some l => some (.agg l) | none => none
    | .tuple cs => match cvl n cs.toList with | some l => some (.tup l) | none => none
    | .float k b => some (.fl k b)
    | _ => none
def cvl : Nat → List Value → Option (List AV)
  | _, [] => some []
  | n, v :: vs => match cv n v with
    | some a => match cvl n vs with
      | some l => some (a :: l)
      | none => none
    | none => none
end

/-- back, where no object is named -/
def toV : Nat → AV → Option Value
  | 0, _ => none
  | n + 1, a => match a with
    | .b x => some (.bool x)
    | .i k x => some (.int k x)
    | .s len code => some (strV len code)
    | .nilp => some (.pointer none)
    | .nils => some (.slice none 0 0)
    | .nilm => some (.map none)
    | .nilf => some .nilFunc
    | .nili => some .nilIface
    | .ifc t w => match toV n w with | some v => some (.iface t v) | none => none
    | .agg l => match l.mapM (toV n) with | some vs => some (.agg ⟨vs⟩) | none => none
    | .fl k b => some (.float k b)
    | _ => none

/-! ## abstract memory -/
/-- an iterator over a map: the map, its clock and its entries' births when it began, the numbers that keep which entry each step was given -/
inductive MI where
  | mk (m since : Nat) (bs gs : List Nat)
inductive AObj where
  | cells (c : Tr AV) (lim esz : Nat) (ro : Bool) (twin : Nat)
  | map (es : List (AV × AV × Nat)) (clock : Nat)
  | iter (s : ByteArray) (pos : Nat)
  | dead
  | miter (m : Option MI)

/-- a row of one's own: its elements, its version; is it kept from being written? -/
structure RowO where
  e : ET
  xs : List e.T
  ver : Nat
  fr : Bool
/-- the rows of one's own, what was taken to be so, what branches are to be taken -/
structure XS where
  rows : Tr RowO
  cs : List Prop
  orc : List Bool
/-- the objects, the next number, and the number below which no object may be changed -/
structure St where
  heap : Tr AObj
  next : Nat
  wmin : Nat
  x : XS

def sizeT (P : Program) (t : TypeId) : Option Nat := match P.info? t with | some i => some i.size | none => none
def zeroT (P : Program) (t : TypeId) : Option AV := match P.info? t with
  | some i => match i.zero with
    | some z => cv 6 z
    | none => none
  | none => none
def isAggT (P : Program) (t : TypeId) : Option Bool := match P.underlying t with
  | some (.struct _) => some true
  | some (.array _ _) => some true
  | some _ => some false
  | none => none

def pureRun {α : Type} (P : Program) : Sem α → Option α
  | .pure a => some a
  | .program k => pureRun P (k P)
  | .mark _ k => pureRun P k
  | _ => none

/-- an operation of the model's on what names no object -/
def pureV (P : Program) (s : Sem Value) : Option AV := match pureRun P s with
  | some v => cv 6 v
  | none => none

def rd (c : Tr AV) (k n : Nat) : List AV :=
  Nat.rec (motive := fun _ => Nat → List AV) (fun _ => []) (fun _ ih k => List.cons (Option.rec (motive := fun _ => AV) .top (fun v => v) (c.get k)) (ih (Nat.succ k))) n k
def wr (c : Tr AV) (k : Nat) (l : List AV) : Tr AV :=
  List.rec (motive := fun _ => Tr AV → Nat → Tr AV) (fun c _ => c) (fun v _ ih c k => ih (c.set k v) (Nat.succ k)) l c k
theorem rd_zero (c : Tr AV) (k : Nat) : rd c k 0 = [] := rfl
theorem rd_succ (c : Tr AV) (k n : Nat) : rd c k (n + 1) = (c.get k).getD .top :: rd c (k + 1) n := by
  show List.cons _ _ = _
  cases c.get k <;> rfl
theorem wr_nil (c : Tr AV) (k : Nat) : wr c k [] = c := rfl
theorem wr_cons (c : Tr AV) (k : Nat) (v : AV) (vs : List AV) : wr c k (v :: vs) = wr (c.set k v) (k + 1) vs := rfl

def ldCells (st : St) (o k n : Nat) : Option (List AV) :=
  obind (st.heap.get o) fun ob => match ob with
  | .cells c lim _ _ _ => bsel (Nat.ble (Nat.add k n) lim) (some (rd c k n)) (bad 1)
  | _ => bad 2

/-- an object's twin, which may share its array, is no more to be read -/
def killTwin (h : Tr AObj) (tw : Nat) : Tr AObj := bsel (Nat.beq tw 0) h (h.set (Nat.sub tw 1) .dead)
def twinOk (st : St) (tw : Nat) : Bool := bsel (Nat.beq tw 0) true (Nat.blt st.wmin tw)

def newObj (st : St) (ob : AObj) : St := match st with
  | .mk h nx wm x => .mk (h.set nx ob) (Nat.succ nx) wm x
def setHeap (st : St) (h : Tr AObj) : St := match st with
  | .mk _ nx wm x => .mk h nx wm x
def growShare (st : St) (o : Nat) (c : Tr AV) (lim esz tw : Nat) (c' : Tr AV) (lim' : Nat) : St := match st with
  | .mk h nx wm x => .mk (((killTwin h tw).set o (.cells c lim esz false (Nat.succ nx))).set nx (.cells c' lim' esz false (Nat.succ o))) (Nat.succ nx) wm x

def stCells (st : St) (o k : Nat) (vs : List AV) : Option St :=
  obind (st.heap.get o) fun ob => match ob with
  | .cells c lim esz false tw =>
    need (Nat.ble (Nat.add k (lenA vs)) lim) 3 (need (allOk vs) 3 (need (Nat.ble st.wmin o) 3 (need (twinOk st tw) 3
      (some (setHeap st (killTwin (st.heap.set o (.cells (wr c k vs) lim esz false 0)) tw))))))
  | _ => bad 4

def newCells (st : St) (vs : List AV) (esz : Nat) : St :=
  match st with
  | .mk h nx wm x => .mk (h.set nx (.cells (wr .e 0 vs) (lenA vs) esz false 0)) (Nat.succ nx) wm x

/-! ## what does not look at the memory -/
def aField (P : Program) (s : TypeId) (f : Nat) : Option (Nat × TypeId) :=
  match P.underlying s with
  | some (.struct fs) => match fs.toList[f]? with
    | some fd => some (fd.offset, fd.type)
    | none => bad 5
  | _ => bad 6

def aPart (P : Program) (t : TypeId) (cs : List AV) (off : Nat) : Option AV :=
  match isAggT P t with
  | some true => match sizeT P t with
    | some n => bif Nat.ble (Nat.add off n) (lenA cs) then some (.agg ((cs.drop off).take n)) else bad 7
    | none => bad 7
  | some false => cs[off]?
  | none => bad 8

/-- the cells of parts laid over a row of cells -/
def lay (cs : List AV) (off : Nat) (vs : List AV) : List AV := cs.take off ++ (vs ++ cs.drop (Nat.add off (lenA vs)))
def aFill (place : Nat → Option (Nat × Nat)) (cs : List AV) : List (Nat × AV) → Option (List AV)
  | [] => some cs
  | (i, v) :: rest => match place i with
    | none => bad 9
    | some (off, size) =>
      bif Nat.beq (lenA (acells v)) size && Nat.ble (Nat.add off size) (lenA cs) && allOk (acells v) then aFill place (lay cs off (acells v)) rest else bad 10

def aPlaces (P : Program) : List Field → Option (List (Nat × Nat))
  | [] => some []
  | f :: fs => match sizeT P f.type with
    | none => none
    | some n => match aPlaces P fs with
      | none => none
      | some l => some ((f.offset, n) :: l)
def placesT (P : Program) (t : TypeId) : Option (List (Nat × Nat)) := match P.underlying t with
  | some (.struct fs) => aPlaces P fs.toList
  | _ => bad 11

def aBuild (P : Program) (t : TypeId) (parts : List (Nat × AV)) : Option AV :=
  match zeroT P t, P.underlying t with
  | some z, some (.struct _) => match placesT P t with
    | some l => match aFill (fun i => l[i]?) (acells z) parts with
      | some cs => some (.agg cs)
      | none => none
    | none => none
  | some z, some (.array _ e) => match sizeT P e with
    | some n => match aFill (fun i => some (Nat.mul i n, n)) (acells z) parts with
      | some cs => some (.agg cs)
      | none => none
    | none => bad 12
  | _, _ => bad 13

/-- a bound of a slice expression -/
def aBound (v : Option AV) (dflt : Option Nat) (top : Nat) : Option Nat :=
  match v with
  | none => dflt
  | some (.i _ (.ofNat m)) => bif Nat.ble m top then some m else bad 15
  | _ => bad 17

def aSliceOf (o k len cap : Nat) (kn : Bool) (size : Nat) (lo hi mx : Option AV) : Option AV :=
  obind (aBound mx (some cap) cap) fun m =>
  obind (aBound hi (bsel mx.isNone (some len) none) m) fun h =>
  obind (aBound lo (some 0) h) fun l =>
    bsel (bsel mx.isSome true kn)
      (bsel (Nat.beq m l) (some (.sl o k 0 0 true size)) (some (.sl o (Nat.add k (Nat.mul l size)) (Nat.sub h l) (Nat.sub m l) true size)))
      (bsel (Nat.blt l m) (some (.sl o (Nat.add k (Nat.mul l size)) (Nat.sub h l) (Nat.sub m l) false size))
        (bsel (Nat.beq l 0) (some (.sl o k h 0 false size)) (need (Nat.beq h l) 22 (some (.loose o)))))

def aSliceS (len code : Nat) (lo hi mx : Option AV) : Option AV :=
  bsel mx.isSome (bad 19)
    (obind (aBound hi (some len) len) fun h => obind (aBound lo (some 0) h) fun l =>
      some (.s (Nat.sub h l) (Nat.mod (Nat.div code (Nat.pow 256 (Nat.sub len h))) (Nat.pow 256 (Nat.sub h l)))))
/-- of a row that is empty, whatever its bounds -/
def aSlice0 (r : AV) (lo hi mx : Option AV) : Option AV :=
  obind (aBound mx (some 0) 0) fun _ => obind (aBound hi (bsel mx.isNone (some 0) none) 0) fun _ => obind (aBound lo (some 0) 0) fun _ => some r

def aSlice (P : Program) (t : TypeId) (x : AV) (lo hi mx : Option AV) : Option AV :=
  match P.underlying t, x with
  | some .string, .s len code => aSliceS len code lo hi mx
  | some (.slice e), .nils => obind (sizeT P e) fun _ => aSlice0 .nils lo hi mx
  | some (.slice e), .sl o k len cap kn size => obind (sizeT P e) fun n => bsel (Nat.beq n size) (aSliceOf o k len cap kn size lo hi mx) (bad 22)
  | some (.slice e), .loose o => obind (sizeT P e) fun _ => need mx.isNone 23 (aSlice0 (.loose o) lo hi mx)
  | _, _ => bad 24

def aIndexAddr (P : Program) (t : TypeId) (x i : AV) : Option AV :=
  match i with
  | .i _ (.ofNat n) => match P.underlying t, x with
    | some (.slice e), .sl o k len _ _ _ =>
      bsel (Nat.blt n len) (obind (sizeT P e) fun s => some (.ptr o (Nat.add k (Nat.mul n s)))) (bad 26)
    | some (.array len e), .ptr o k =>
      bsel (Nat.blt n len) (obind (sizeT P e) fun s => some (.ptr o (Nat.add k (Nat.mul n s)))) (bad 28)
    | _, _ => bad 29
  | _ => bad 30

/-- where a field begins, if it takes a cell at all -/
def fieldOff (P : Program) (s : TypeId) (f : Nat) : Option Nat := match aField P s f with
  | some (off, ft) => match sizeT P ft with
    | some 0 => bad 31
    | some _ => some off
    | none => bad 32
  | none => none
def aFieldAddr (P : Program) (s : TypeId) (f : Nat) (x : AV) : Option AV :=
  match x with
  | .ptr o k => obind (fieldOff P s f) fun off => some (.ptr o (Nat.add k off))
  | _ => bad 33

/-- '==' where one side is nil -/
def aEqNil (P : Program) (t : TypeId) (x y : AV) : Option Bool :=
  match P.underlying t with
  | some (.pointer _) => match x, y with
    | .nilp, .nilp => some true
    | .nilp, .ptr _ _ => some false
    | .ptr _ _, .nilp => some false
    | _, _ => bad 34
  | some (.slice _) => match x, y with
    | .nils, .nils => some true
    | .nils, .sl _ _ _ _ _ _ => some false
    | .nils, .loose _ => some false
    | .sl _ _ _ _ _ _, .nils => some false
    | .loose _, .nils => some false
    | _, _ => bad 34
  | some (.map _ _) => match x, y with
    | .nilm, .nilm => some true
    | .nilm, .mp _ => some false
    | .mp _, .nilm => some false
    | _, _ => bad 34
  | some (.func _ _ _) => match x, y with
    | .nilf, .nilf => some true
    | .nilf, .fn _ _ _ => some false
    | .fn _ _ _, .nilf => some false
    | _, _ => bad 34
  | some (.interface _) => match x, y with
    | .nili, .ifc _ _ => some false
    | .ifc _ _, .nili => some false
    | _, _ => bad 34
  | _ => bad 34

def ltI : Int → Int → Bool
  | .ofNat m, .ofNat n => Nat.blt m n
  | .ofNat _, .negSucc _ => false
  | .negSucc _, .ofNat _ => true
  | .negSucc m, .negSucc n => Nat.blt n m
def eqI : Int → Int → Bool
  | .ofNat m, .ofNat n => Nat.beq m n
  | .negSucc m, .negSucc n => Nat.beq m n
  | _, _ => false
/-- wrapping, by a short way where nothing wraps -/
def wrapI (k : IntKind) (n : Int) : Int :=
  match n with
  | .ofNat m => match k with
    | .i64 => bif Nat.blt m 9223372036854775808 then .ofNat m else k.wrap (.ofNat m)
    | _ => k.wrap (.ofNat m)
  | .negSucc m => k.wrap (.negSucc m)

def strLt (l c l' c' : Nat) : Bool :=
  bif Nat.ble l l' then
    -- the shorter is the first: it is less if it is a part of the other, or less there
    Nat.blt (Nat.mul c (Nat.pow 256 (Nat.sub l' l))) c' || (Nat.beq (Nat.mul c (Nat.pow 256 (Nat.sub l' l))) c' && Nat.blt l l')
  else Nat.blt c (Nat.mul c' (Nat.pow 256 (Nat.sub l l')))

def aBinS (op : BinOp) (l c l' c' : Nat) : Option AV :=
  match op with
  | .add => bif Nat.ble (Nat.add l l') 1099511627776 then some (.s (Nat.add l l') (Nat.add (Nat.mul c (Nat.pow 256 l')) c')) else bad 35
  | .eql => some (.b (Nat.beq l l' && Nat.beq c c'))
  | .neq => some (.b (!(Nat.beq l l' && Nat.beq c c')))
  | .lss => some (.b (strLt l c l' c'))
  | .leq => some (.b (!(strLt l' c' l c)))
  | .gtr => some (.b (strLt l' c' l c))
  | .geq => some (.b (!(strLt l c l' c')))
  | _ => bad 35

def kNo : IntKind → Nat
  | .i8 => 0 | .i16 => 1 | .i32 => 2 | .i64 => 3 | .u8 => 4 | .u16 => 5 | .u32 => 6 | .u64 => 7
def sameK (a b : IntKind) : Bool := Nat.beq (kNo a) (kNo b)

def aBinI (P : Program) (op : BinOp) (k : IntKind) (a : Int) (k' : IntKind) (b : Int) : Option AV :=
  bsel (sameK k k')
    (match op with
    | .add => some (.i k (wrapI k (Int.add a b)))
    | .sub => some (.i k (wrapI k (Int.sub a b)))
    | .lss => some (.b (ltI a b))
    | .leq => some (.b (!(ltI b a)))
    | .gtr => some (.b (ltI b a))
    | .geq => some (.b (!(ltI a b)))
    | .eql => some (.b (eqI a b))
    | .neq => some (.b (!(eqI a b)))
    | op => pureV P (binOp op 0 (.int k a) (.int k b)))
    (pureV P (binOp op 0 (.int k a) (.int k' b)))

/-- is the string listed? -/
def hasSN : List (Nat × Nat) → Nat → Nat → Bool
  | [], _, _ => false
  | p :: r, n, c => (Nat.beq p.1 n && Nat.beq p.2 c) || hasSN r n c
def aBin (P : Program) (op : BinOp) (t : TypeId) (xo yo : Operand) (x y : AV) : Option AV :=
  match x, y with
  | .i k a, .i k' b => aBinI P op k a k' b
  | .s l c, .s l' c' => aBinS op l c l' c'
  | .i k a, .lb n => match op with
    | .gtr => bif sameK k .i64 && ltI a (.ofNat (Nat.succ n)) then some (.b false) else bad 36
    | _ => bad 36
  | .lb n, .i k a => bsel (sameK k .i64 && ltI a (.ofNat (Nat.succ n))) (match op with
    | .lss => some (.b false)
    | .geq => some (.b true)
    | .gtr => bsel (ltI a (.ofNat n)) (some (.b true)) (bad 36)
    | .leq => bsel (ltI a (.ofNat n)) (some (.b false)) (bad 36)
    | .eql => bsel (ltI a (.ofNat n)) (some (.b false)) (bad 36)
    | _ => bad 36) (bad 36)
  | .neg, .i k a => bsel (sameK k .i64 && ltI (.negSucc 0) a) (match op with
    | .lss => some (.b true)
    | .geq => some (.b false)
    | .gtr => some (.b false)
    | .leq => some (.b true)
    | .eql => some (.b false)
    | _ => bad 36) (bad 36)
  | .sn l, .s n c => match op with
    | .eql => bsel (hasSN l n c) (some (.b false)) (bad 36)
    | .neq => bsel (hasSN l n c) (some (.b true)) (bad 36)
    | _ => bad 36
  | x, y => match toV 6 x, toV 6 y with
    | some v, some w => pureV P (do eqGuard op t xo yo v w; binOp op t v w)
    | _, _ => match op with
      | .eql => match aEqNil P t x y with | some b => some (.b b) | none => none
      | .neq => match aEqNil P t x y with | some b => some (.b (!b)) | none => none
      | _ => bad 37

def aUn (P : Program) (op : UnOp) (x : AV) : Option AV :=
  match op, x with
  | .not, .b x => some (.b (!x))
  | op, x => match toV 2 x with
    | some v => pureV P (Op.unary op v)
    | none => bad 38

def aConvP (P : Program) (s d : TypeId) (x : AV) : Option AV :=
  match P.underlying s, P.underlying d, x with
  | some _, some (.int k), .i _ n => some (.i k (wrapI k n))
  | some _, some .string, .s l c => some (.s l c)
  | _, _, _ => match toV 2 x with
    | some v => pureV P (convert s d v)
    | none => bad 39

def aLen (P : Program) (t : TypeId) (x : AV) : Option AV :=
  match P.underlying t, x with
  | some .string, .s l _ => some (.i .i64 (.ofNat l))
  | some (.slice _), .nils => some (.i .i64 0)
  | some (.slice _), .sl _ _ n _ _ _ => some (.i .i64 (.ofNat n))
  | some (.slice _), .loose _ => some (.i .i64 0)
  | some (.array n _), _ => some (.i .i64 (.ofNat n))
  | some (.map _ _), .nilm => some (.i .i64 0)
  | _, _ => bad 40
def aCap (P : Program) (t : TypeId) (x : AV) : Option AV :=
  match P.underlying t, x with
  | some (.slice _), .nils => some (.i .i64 0)
  | some (.slice _), .sl _ _ _ n true _ => some (.i .i64 (.ofNat n))
  | some (.slice _), .sl _ _ _ n false _ => some (.lb n)
  | some (.slice _), .loose _ => some (.lb 0)
  | _, _ => bad 41

def okTup (ok : Bool) (v : AV) (has : Bool) : AV := bif ok then .tup [v, .b has] else v
/-- a failing assertion -/
def aFails (P : Program) (a : TypeId) (ok : Bool) : Option AV :=
  bif ok then match zeroT P a with
    | some z => some (.tup [z, .b false])
    | none => bad 42
  else bad 43
def aTypeAssert (P : Program) (a : TypeId) (ok : Bool) (x : AV) : Option AV :=
  match P.underlying a with
  | some (.interface want) => match x with
    | .ifc t _ => match P.info? t with
      | some i => match Instr.missingMethod want i.methods with
        | none => some (okTup ok x true)
        | some _ => aFails P a ok
      | none => bad 44
    | .nili => aFails P a ok
    | _ => bad 45
  | some _ => match x with
    | .ifc t v => bif Nat.beq t a then some (okTup ok v true) else aFails P a ok
    | .nili => aFails P a ok
    | _ => bad 46
  | none => bad 47

def hd1 (l : List AV) : Option AV := match l with
  | [v] => some v
  | _ => bad 81
def aIndex (P : Program) (t : TypeId) (x i : AV) : Option AV :=
  match P.underlying t, x, i with
  | some .string, .s len code, .i _ (.ofNat n) =>
    bif Nat.blt n len then some (.i .u8 (.ofNat (Nat.mod (Nat.div code (Nat.pow 256 (Nat.sub (Nat.pred len) n))) 256))) else bad 48
  | some (.array len e), .agg l, .i _ (.ofNat n) =>
    bif Nat.blt n len then match sizeT P e with
      | some s => aPart P e l (Nat.mul n s)
      | none => bad 49
    else bad 49
  | _, _, _ => bad 50

def toVs : List AV → Option (List Value)
  | [] => some []
  | x :: xs => match toV 2 x with
    | some v => match toVs xs with
      | some l => some (v :: l)
      | none => none
    | none => none

def pick3 (c a b : AV) : Option AV := match c with
  | .b true => some a
  | .b false => some b
  | _ => bad 52

/-- what is written among a slice's bounds -/
def takeOpt (p : Option Operand) (l : List AV) : Option (Option AV × List AV) := match p with
  | none => some (none, l)
  | some _ => match l with
    | a :: r => some (some a, r)
    | [] => bad 63
def aSliceArgs (P : Program) (t : TypeId) (lo hi mx : Option Operand) (x : AV) (l : List AV) : Option AV :=
  obind2 (takeOpt lo l) fun alo l1 => obind2 (takeOpt hi l1) fun ahi l2 => obind2 (takeOpt mx l2) fun amx _ => aSlice P t x alo ahi amx

def aBuildL (P : Program) (t : TypeId) (parts : List (Nat × Operand)) (args : List AV) : Option AV := aBuild P t ((parts.map (·.1)).zip args)
def aSliceL (P : Program) (t : TypeId) (lo hi mx : Option Operand) (args : List AV) : Option AV := match args with
  | x :: l => aSliceArgs P t lo hi mx x l
  | [] => bad 63
def allPtr : List AV → Bool
  | [] => true
  | .ptr _ _ :: r => allPtr r
  | _ :: _ => false
def aNilCheck : AV → Option AV
  | .ptr o k => some (.ptr o k)
  | .alt it g l => bsel (allPtr l) (some (.alt it g l)) (bad 54)
  | .fn f a b => some (.fn f a b)
  | _ => bad 54
def aMakeIface (P : Program) (t : TypeId) (v : AV) : Option AV := match P.underlying t with
  | some (.interface _) => bad 60
  | some _ => some (.ifc t v)
  | none => bad 61
def aMakeFunc (f : Fn) (n m : Nat) (l : List AV) : Option AV := match f with
  | .func f => bif Nat.beq (lenA l) (Nat.add n m) then some (.fn f (l.take n) (l.drop n)) else bad 62
  | _ => bad 62
def aFieldOf (P : Program) (t : TypeId) (f : Nat) (v : AV) : Option AV := match v with
  | .agg cs => match aField P t f with
    | some (off, ft) => aPart P ft cs off
    | none => none
  | _ => bad 65
def aExtract (i : Nat) (v : AV) : Option AV := match v with
  | .tup vs => vs[i]?
  | _ => bad 69
def aMin (P : Program) (ts : Array TypeId) (ty : TypeId) (args : List AV) : Option AV := match toVs args with
  | some l => pureV P (Builtin.min_ ts ty ⟨l⟩)
  | none => bad 74
def aMax (P : Program) (ts : Array TypeId) (ty : TypeId) (args : List AV) : Option AV := match toVs args with
  | some l => pureV P (Builtin.max_ ts ty ⟨l⟩)
  | none => bad 76

def semCallP (P : Program) (c : Call) (ty : TypeId) (args : List AV) : Option AV :=
  match c.callee, c.argTypes.toList, args with
  | .builtin .len, [t], [x] => aLen P t x
  | .builtin .cap, [t], [x] => aCap P t x
  | .builtin .min, _, args => aMin P c.argTypes ty args
  | .builtin .max, _, args => aMax P c.argTypes ty args
  | _, _, _ => bad 77

/-- how an operation comes to its operands' values: one after another -/
inductive Od where
  | l (j : Nat)
  | v (t : Nat)
  | c (a : AV)
  | x

def one {β : Type} (ev : Od → Option AV) (l : List Od) (f : AV → Option β) : Option β :=
  List.rec (motive := fun _ => Option β) none (fun d r _ => List.rec (motive := fun _ => Option β) (obind (ev d) f) (fun _ _ _ => none) r) l
def two {β : Type} (ev : Od → Option AV) (l : List Od) (f : AV → AV → Option β) : Option β :=
  List.rec (motive := fun _ => Option β) none (fun d r _ => obind (ev d) fun x => one ev r (f x)) l
def three {β : Type} (ev : Od → Option AV) (l : List Od) (f : AV → AV → AV → Option β) : Option β :=
  List.rec (motive := fun _ => Option β) none (fun d r _ => obind (ev d) fun x => two ev r (f x)) l
def many (ev : Od → Option AV) (l : List Od) : Option (List AV) :=
  List.rec (motive := fun _ => Option (List AV)) (some []) (fun d _ ih => obind (ev d) fun v => obind ih fun vs => some (v :: vs)) l
theorem many_nil (ev : Od → Option AV) : many ev [] = some [] := rfl
theorem many_cons (ev : Od → Option AV) (d : Od) (r : List Od) : many ev (d :: r) = obind (ev d) fun v => obind (many ev r) fun vs => some (v :: vs) := rfl
theorem one_nil {β : Type} (ev : Od → Option AV) (f : AV → Option β) : one ev [] f = none := rfl
theorem one_one {β : Type} (ev : Od → Option AV) (d : Od) (f : AV → Option β) : one ev [d] f = obind (ev d) f := rfl
theorem one_more {β : Type} (ev : Od → Option AV) (d e : Od) (r : List Od) (f : AV → Option β) : one ev (d :: e :: r) f = none := rfl
theorem two_nil {β : Type} (ev : Od → Option AV) (f : AV → AV → Option β) : two ev [] f = none := rfl
theorem two_cons {β : Type} (ev : Od → Option AV) (d : Od) (r : List Od) (f : AV → AV → Option β) : two ev (d :: r) f = obind (ev d) fun x => one ev r (f x) := rfl
theorem three_nil {β : Type} (ev : Od → Option AV) (f : AV → AV → AV → Option β) : three ev [] f = none := rfl
theorem three_cons {β : Type} (ev : Od → Option AV) (d : Od) (r : List Od) (f : AV → AV → AV → Option β) : three ev (d :: r) f = obind (ev d) fun x => two ev r (f x) := rfl

def semP (P : Program) (o : Op) (ty : TypeId) (ev : Od → Option AV) (ds : List Od) : Option AV :=
  match o with
  | .move _ => one ev ds some
  | .assign _ => one ev ds some
  | .pick _ _ _ => three ev ds pick3
  | .build t parts => obind (many ev ds) (aBuildL P t parts.toList)
  | .nilCheck _ => one ev ds aNilCheck
  | .binOp op t xo yo _ => two ev ds (aBin P op t xo yo)
  | .unOp op _ _ => one ev ds (aUn P op)
  | .convert s d _ => one ev ds (aConvP P s d)
  | .makeInterface t _ => one ev ds (aMakeIface P t)
  | .makeFunc f first captured => obind (many ev ds) (aMakeFunc f first.size captured.size)
  | .slice t _ lo hi mx => obind (many ev ds) (aSliceL P t lo hi mx)
  | .fieldAddr s _ f => one ev ds (aFieldAddr P s f)
  | .field t _ f => one ev ds (aFieldOf P t f)
  | .indexAddr t _ _ => two ev ds (aIndexAddr P t)
  | .index t _ _ => two ev ds (aIndex P t)
  | .extract _ i => one ev ds (aExtract i)
  | .typeAssert _ _ a ok => one ev ds (aTypeAssert P a ok)
  | .call c => obind (many ev ds) (semCallP P c ty)
  | _ => bad 79

/-! ## what looks at the memory -/
/-- how many cells a variable of a type has, if it is a struct or an array; 0: another one -/
def aggN (P : Program) (t : TypeId) : Option Nat := match isAggT P t with
  | some true => match sizeT P t with
    | some n => bif Nat.beq n 0 then bad 80 else some n
    | none => bad 80
  | some false => some 0
  | none => bad 82
/-- the cells behind pointers, each a row -/
def altRows (st : St) (n : Nat) : List AV → Option (List (List AV))
  | [] => some []
  | .ptr o k :: r => obind (ldCells st o k n) fun row => obind (altRows st n r) fun rs => bsel (all1 row) (some (row :: rs)) (bad 83)
  | _ :: _ => bad 83
def colOf (j : Nat) : List (List AV) → List AV
  | [] => []
  | x :: r => (match x[j]? with | some a => a | none => .top) :: colOf j r
def altCols (it g : Nat) (rows : List (List AV)) : Nat → Nat → List AV
  | _, 0 => []
  | j, n + 1 => .alt it g (colOf j rows) :: altCols it g rows (Nat.succ j) n
def aLoad (P : Program) (st : St) (t : TypeId) (a : AV) : Option AV :=
  match a with
  | .ptr o k => obind (aggN P t) fun n => bsel (Nat.beq n 0)
      (obind (ldCells st o k 1) hd1)
      (obind (ldCells st o k n) fun l => some (.agg l))
  | .alt it g l => obind (aggN P t) fun n => bsel (Nat.beq n 0)
      (obind (altRows st 1 l) fun rows => hd1 (altCols it g rows 0 1))
      (obind (altRows st n l) fun rows => some (.agg (altCols it g rows 0 n)))
  | _ => bad 83

/-! ### entries of a map that is gone over -/
def borns : List (AV × AV × Nat) → List Nat
  | [] => []
  | e :: r => e.2.2 :: borns r
def keysOf : List (AV × AV × Nat) → List AV
  | [] => []
  | e :: r => e.1 :: keysOf r
def valsOf : List (AV × AV × Nat) → List AV
  | [] => []
  | e :: r => e.2.1 :: valsOf r
def eqNs : List Nat → List Nat → Bool
  | [], [] => true
  | a :: l, b :: m => bsel (Nat.beq a b) (eqNs l m) false
  | _, _ => false
def allLt (n : Nat) : List Nat → Bool
  | [] => true
  | a :: l => bsel (Nat.blt a n) (allLt n l) false
def noN (a : Nat) : List Nat → Bool
  | [] => true
  | b :: l => bsel (Nat.beq a b) false (noN a l)
def distN : List Nat → Bool
  | [] => true
  | a :: l => bsel (noN a l) (distN l) false
def lastN : List Nat → Option Nat
  | [] => none
  | [a] => some a
  | _ :: b :: l => lastN (b :: l)
def lenN : List Nat → Nat
  | [] => 0
  | _ :: l => Nat.succ (lenN l)
/-- the map is what it was, each entry may be told -/
def okM (since : Nat) (bs : List Nat) (es : List (AV × AV × Nat)) (clock : Nat) : Bool :=
  bsel (Nat.beq clock since) (bsel (eqNs bs (borns es)) (bsel (allLt since bs) (bsel (distN bs) (bsel (all1 (keysOf es)) (all1 (valsOf es)) false) false) false) false) false
def entryM (st : St) (r : Nat) (mi : MI) : Option AV := match mi with
  | .mk m since bs gs => match st.heap.get m with
    | some (.map es clock) => need (okM since bs es clock) 164 (obind (lastN gs) fun g => some (.tup [.alt r g (keysOf es), .alt r g (valsOf es)]))
    | _ => bad 163
def aEntry (st : St) (it : AV) : Option AV := match it with
  | .ptr r 0 => match st.heap.get r with
    | some (.miter (some mi)) => entryM st r mi
    | _ => bad 164
  | _ => bad 165

/-- keys of a map: integers or strings -/
def keyEq : AV → AV → Option Bool
  | .i k a, .i k' b => bif sameK k k' then some (eqI a b) else none
  | .s l c, .s l' c' => some (Nat.beq l l' && Nat.beq c c')
  | _, _ => none
def aFind (k : AV) : List (AV × AV × Nat) → Nat → Option (Option (Nat × AV))
  | [], _ => some none
  | e :: es, i => match keyEq k e.1 with
    | some true => some (some (i, e.2.1))
    | some false => aFind k es (Nat.succ i)
    | none => bad 84
def plainKey (P : Program) (t : TypeId) (k : AV) : Bool :=
  match P.underlying t, k with
  | some (.int _), .i _ _ => true
  | some .string, .s _ _ => true
  | _, _ => false

def aEntries (st : St) (x : AV) : Option (List (AV × AV × Nat)) := match x with
  | .nilm => some []
  | .mp r => (match st.heap.get r with | some (.map es _) => some es | _ => bad 85)
  | _ => bad 86
mutual
def veq : Nat → AV → AV → Bool
  | 0, _, _ => false
  | n + 1, x, y => match x, y with
    | .b a, .b b => a == b
    | .i k a, .i k' b => sameK k k' && eqI a b
    | .s a b, .s c d => Nat.beq a c && Nat.beq b d
    | .nilp, .nilp => true
    | .ptr a b, .ptr c d => Nat.beq a c && Nat.beq b d
    | .nils, .nils => true
    | .sl a b c d e f, .sl a' b' c' d' e' f' => Nat.beq a a' && Nat.beq b b' && Nat.beq c c' && Nat.beq d d' && (e == e') && Nat.beq f f'
    | .loose a, .loose b => Nat.beq a b
    | .nilm, .nilm => true
    | .mp a, .mp b => Nat.beq a b
    | .nilf, .nilf => true
    | .nili, .nili => true
    | .ifc t v, .ifc u w => Nat.beq t u && veq n v w
    | .agg a, .agg b => veqL n a b
    | .tup a, .tup b => veqL n a b
    | .fn f a b, .fn g c d => Nat.beq f g && veqL n a c && veqL n b d
    | .alt i g a, .alt i' g' a' => Nat.beq i i' && Nat.beq g g' && veqL n a a'
    | _, _ => false
def veqL : Nat → List AV → List AV → Bool
  | _, [], [] => true
  | n, x :: xs, y :: ys => veq n x y && veqL n xs ys
  | _, _, _ => false
end

def aLookup1 (P : Program) (st : St) (t : TypeId) (ok : Bool) (x key : AV) : Option AV :=
  match P.underlying t with
  | some (.map kt et) =>
    bif plainKey P kt key then
      match aEntries st x with
      | none => none
      | some es => match aFind key es 0 with
        | none => none
        | some (some (_, v)) => some (okTup ok v true)
        | some none => match zeroT P et with
          | some z => some (okTup ok z false)
          | none => bad 87
    else bad 88
  | _ => bad 89

/-- of a key that is one of a few: they must have one answer -/
def lookAlt (P : Program) (st : St) (t : TypeId) (ok : Bool) (x : AV) : List AV → Option AV
  | [] => bad 90
  | [k] => aLookup1 P st t ok x k
  | k :: r => obind (aLookup1 P st t ok x k) fun v => obind (lookAlt P st t ok x r) fun v' => bsel (veq 8 v v') (some v) (bad 90)
def aLookup (P : Program) (st : St) (t : TypeId) (ok : Bool) (x key : AV) : Option AV := match key with
  | .alt _ _ l => lookAlt P st t ok x l
  | key => aLookup1 P st t ok x key

def bytesCode : List AV → Nat → Option Nat
  | [], acc => some acc
  | .i .u8 (.ofNat n) :: r, acc => bif Nat.blt n 256 then bytesCode r (Nat.add (Nat.mul acc 256) n) else bad 94
  | _, _ => bad 94
def aBytesStr (P : Program) (st : St) (s : TypeId) (x : AV) : Option AV :=
  match P.underlying s with
  | some (.slice e) => match P.underlying e with
    | some (.int .u8) => match x with
      | .sl o k len _ _ _ => match ldCells st o k len with
        | some l => match bytesCode l 0 with
          | some c => some (.s len c)
          | none => none
        | none => none
      | .loose _ => some (.s 0 0)
      | .nils => some (.s 0 0)
      | _ => bad 95
    | _ => bad 96
  | _ => bad 97

def semR (P : Program) (o : Op) (ev : Od → Option AV) (ds : List Od) (st : St) : Option AV :=
  match o with
  | .load t _ => one ev ds (aLoad P st t)
  | .lookup t _ _ ok => two ev ds (aLookup P st t ok)
  | .convert s _ _ => one ev ds (aBytesStr P st s)
  | .entry _ => one ev ds (aEntry st)
  | _ => bad 92

/-! ## what changes the memory -/
def aStore (P : Program) (st : St) (t : TypeId) (a v : AV) : Option St :=
  match a with
  | .ptr o k => match sizeT P t with
    | some n => bif Nat.beq (lenA (acells v)) n then stCells st o k (acells v) else bad 100
    | none => bad 101
  | _ => bad 102

def aNewVar (st : St) (v : AV) : Option (AV × St) :=
  bif allOk (acells v) then some (.ptr st.next 0, newCells st (acells v) (lenA (acells v))) else bad 103

def zerosOf (z : List AV) : Nat → List AV
  | 0 => []
  | n + 1 => z ++ zerosOf z n

/-- the cells of a row that is built, and how many an element takes -/
def buildCs (P : Program) (t : TypeId) (len : Nat) (parts : List (Nat × AV)) : Option (List AV × Nat) :=
  match P.underlying t with
  | some (.slice e) => match sizeT P e, zeroT P e with
    | some size, some z =>
      bif Nat.ble (Nat.mul len size) 16777216 && Nat.beq (lenA (acells z)) size && Nat.ble 1 size && allOk (acells z) then
        match aFill (fun i => some (Nat.mul i size, size)) (zerosOf (acells z) len) parts with
        | some cs => some (cs, size)
        | none => none
      else bad 104
    | _, _ => bad 105
  | _ => bad 106
def aBuildSlice (P : Program) (st : St) (t : TypeId) (len : Nat) (parts : List (Nat × AV)) : Option (AV × St) :=
  obind2 (buildCs P t len parts) fun cs size => some (.sl st.next 0 len len true size, newCells st cs size)

def aMakeSlice (P : Program) (st : St) (t : TypeId) (len cap : AV) : Option (AV × St) :=
  match P.underlying t with
  | some (.slice e) => match len, cap, P.info? e, zeroT P e with
    | .i _ (.ofNat l), .i _ (.ofNat c), some i, some z =>
        bif Nat.ble l c && Nat.ble c 1048576 && Nat.ble (Nat.mul i.bytes c) 281474976710656 && Nat.beq (lenA (acells z)) i.size && Nat.ble 1 i.size && allOk (acells z) then
          some (.sl st.next 0 l c true i.size, newCells st (zerosOf (acells z) c) i.size)
        else bad 107
    | _, _, _, _ => bad 109
  | _ => bad 110

def byteVals : List UInt8 → List AV
  | [] => []
  | b :: r => .i .u8 (.ofNat b.toNat) :: byteVals r
/-- the bytes of a string as cells -/
def strCells : Nat → Nat → List AV → List AV
  | 0, _, acc => acc
  | n + 1, code, acc => strCells n (Nat.div code 256) (.i .u8 (.ofNat (Nat.mod code 256)) :: acc)

/-- the first n elements of what is appended or copied, as cells -/
def aCells (st : St) (size n : Nat) : AV → Option (List AV)
  | .sl o k _ _ _ _ => ldCells st o k (Nat.mul n size)
  | .loose _ => bif Nat.beq n 0 then some [] else bad 111
  | .nils => bif Nat.beq n 0 then some [] else bad 112
  | .s len code => some ((strCells len code []).take n)
  | _ => bad 113
def aLenOf : AV → Option Nat
  | .sl _ _ n _ _ _ => some n
  | .loose _ => some 0
  | .nils => some 0
  | .s l _ => some l
  | _ => bad 114

/-- a row grows: a new array of which the capacity is not known -/
def growTo (st : St) (cs : List AV) (esz need : Nat) : Option (AV × St) :=
  some (.sl st.next 0 need need false esz, newCells st cs esz)

/-- it fits -/
def appendIn1 (st : St) (o k len cap : Nat) (kn : Bool) (size : Nat) (new : List AV) (n : Nat) (ob : AObj) : Option (AV × St) := match ob with
  | .cells c lim esz false tw =>
    need (Nat.ble (Nat.add k (Nat.mul len size)) lim) 117 (need (allOk new) 117 (need (Nat.ble st.wmin o) 117 (need (twinOk st tw) 117
      (some (.sl o k (Nat.add len n) cap kn size,
        setHeap st (killTwin (st.heap.set o (.cells (wr c (Nat.add k (Nat.mul len size)) new) (Nat.max lim (Nat.add (Nat.add k (Nat.mul len size)) (Nat.mul n size))) esz false 0)) tw))))))
  | _ => bad 118
def appendIn (st : St) (o k len cap : Nat) (kn : Bool) (size : Nat) (new : List AV) (n : Nat) : Option (AV × St) :=
  bsel (Nat.beq n 0) (some (.sl o k len cap kn size, st)) (obind (st.heap.get o) (appendIn1 st o k len cap kn size new n))
/-- it may not fit: one that the new row may share with the elder one -/
def appendShare (st : St) (o k len : Nat) (size : Nat) (new : List AV) (n : Nat) (c : Tr AV) (lim esz : Nat) (ro : Bool) (tw : Nat) : Option (AV × St) :=
  need (bsel ro false true) 119 (need (Nat.beq k 0) 119 (need (Nat.ble 1 n) 119 (need (allOk new) 119 (need (Nat.ble st.wmin o) 119 (need (twinOk st tw) 119 (need (bsel (Nat.beq tw (Nat.succ o)) false true) 119
    (some (.sl st.next 0 (Nat.add len n) (Nat.add len n) false size,
      growShare st o c (Nat.min lim (Nat.mul len size)) esz tw (wr c (Nat.mul len size) new) (Nat.add (Nat.mul len size) (Nat.mul n size))))))))))
def appendNew1 (st : St) (o k len : Nat) (kn : Bool) (size : Nat) (new : List AV) (n : Nat) (ob : AObj) : Option (AV × St) := match ob with
  | .cells c lim esz ro tw =>
    need (Nat.ble (Nat.add k (Nat.mul len size)) lim) 120
      (bsel kn (growTo st (appA (rd c k (Nat.mul len size)) new) size (Nat.add len n)) (appendShare st o k len size new n c lim esz ro tw))
  | _ => bad 121
/-- it does not fit, or may not -/
def appendNew (st : St) (o k len : Nat) (kn : Bool) (size : Nat) (new : List AV) (n : Nat) : Option (AV × St) :=
  obind (st.heap.get o) (appendNew1 st o k len kn size new n)
def aAppendCells (P : Program) (st : St) (e : TypeId) (size : Nat) (s : AV) (new : List AV) (n : Nat) : Option (AV × St) :=
  match s with
  | .nils =>
    bsel (Nat.beq n 0) (some (.nils, st)) (need (Nat.ble n 1099511627776) 116 (need (Nat.ble (Nat.mul n (P.bytesOf e)) 1099511627776) 116 (growTo st new size n)))
  | .sl o k len cap kn size' =>
    need (Nat.beq size' size) 122 (need (Nat.ble (Nat.add len n) 1099511627776) 122 (need (Nat.ble (Nat.mul (Nat.add len n) (P.bytesOf e)) 1099511627776) 122
      (bsel (Nat.ble (Nat.add len n) cap) (appendIn st o k len cap kn size new n) (appendNew st o k len kn size new n))))
  | _ => bad 123
def appendZ (P : Program) (st : St) (e : TypeId) (size : Nat) (z s x : AV) : Option (AV × St) := match x with
  | .i _ (.ofNat n) => need (Nat.ble n 1048576) 124 (aAppendCells P st e size s (zerosOf (acells z) n) n)
  | _ => bad 125
def appendX (P : Program) (st : St) (e : TypeId) (size : Nat) (s x : AV) : Option (AV × St) :=
  obind (aLenOf x) fun n => obind (aCells st size n x) fun new => need (Nat.beq (lenA new) (Nat.mul n size)) 127 (aAppendCells P st e size s new n)
def append2 (P : Program) (st : St) (t xt : TypeId) (s x : AV) : Option (AV × St) := match P.underlying t with
  | some (.slice e) => obind (sizeT P e) fun size => obind (zeroT P e) fun z =>
    need (Nat.beq (lenA (acells z)) size) 127 (need (Nat.ble 1 size) 127 (need (allOk (acells z)) 127 (match P.underlying xt with
      | some (.int _) => appendZ P st e size z s x
      | some .string => appendX P st e size s x
      | some (.slice _) => appendX P st e size s x
      | _ => bad 126)))
  | _ => bad 128
def aAppend (P : Program) (st : St) (ts : List TypeId) (args : List AV) : Option (AV × St) :=
  match ts, args with
  | [t, xt], [s, x] => append2 P st t xt s x
  | _, _ => bad 129

def aCopy (P : Program) (st : St) (ts : List TypeId) (args : List AV) : Option (AV × St) :=
  match ts, args with
  | t :: _, [d, s] => match P.underlying t with
    | some (.slice e) => match sizeT P e, aLenOf s with
      | some size, some ls => match d with
        | .nils => some (.i .i64 0, st)
        | .loose _ => some (.i .i64 0, st)
        | .sl o k dl _ _ _ =>
          bif Nat.beq (Nat.min ls dl) 0 then some (.i .i64 0, st) else
          match aCells st size (Nat.min ls dl) s with
          | some cs => match stCells st o k cs with
            | some st' => some (.i .i64 (.ofNat (Nat.min ls dl)), st')
            | none => none
          | none => none
        | _ => bad 132
      | _, _ => bad 133
    | _ => bad 134
  | _, _ => bad 135

def aClear (P : Program) (st : St) (ts : List TypeId) (args : List AV) : Option (AV × St) :=
  match ts, args with
  | [t], [d] => match P.underlying t with
    | some (.slice e) => match d, zeroT P e with
      | .nils, _ => some (undefA, st)
      | .loose _, _ => some (undefA, st)
      | .sl _ _ 0 _ _ _, _ => some (undefA, st)
      | .sl o k n _ _ _, some z => match stCells st o k (zerosOf (acells z) n) with
        | some st' => some (undefA, st')
        | none => none
      | _, _ => bad 136
    | _ => bad 137
  | _, _ => bad 138

def mapSet (es : List (AV × AV × Nat)) (i : Nat) (v : AV) : List (AV × AV × Nat) :=
  match es, i with
  | [], _ => []
  | e :: r, 0 => (e.1, v, e.2.2) :: r
  | e :: r, i + 1 => e :: mapSet r i v

def aMapUpdate (P : Program) (st : St) (t : TypeId) (m key v : AV) : Option St :=
  match P.underlying t with
  | some (.map kt _) =>
    bif plainKey P kt key then
      match m with
      | .mp r => match st.heap.get r with
        | some (.map es clock) => bif !(Nat.ble st.wmin r) then bad 149 else match aFind key es 0 with
          | some (some (i, _)) => some (setHeap st (st.heap.set r (.map (mapSet es i v) clock)))
          | some none => some (setHeap st (st.heap.set r (.map (es ++ [(key, v, clock)]) (Nat.succ clock))))
          | none => none
        | _ => bad 139
      | _ => bad 140
    else bad 141
  | _ => bad 142

def aConvert (P : Program) (st : St) (d : TypeId) (x : AV) : Option (AV × St) :=
  match P.underlying d, x with
  | some (.slice e), .s len code => match P.underlying e, sizeT P e with
    | some (.int .u8), some 1 => growTo st (strCells len code []) 1 len
    | _, _ => bad 146
  | _, _ => bad 147

/-- a row of bytes to its own type: the model marks its block, no cell of it -/
def aMark (P : Program) (st : St) (s d : TypeId) (x : AV) : Option (AV × St) := match x with
  | .sl o k len cap kn e => match P.underlying d with
    | some (.slice el) => (match P.underlying el with
      | some (.int .u8) => (match st.heap.get o with
        | some (.cells c lim esz false 0) => need (Nat.beq s d) 148 (need (Nat.beq esz 1) 148 (need (Nat.ble st.wmin o) 148
          (some (.sl o k len cap kn e, setHeap st (killTwin (st.heap.set o (.cells c lim esz false 0)) 0)))))
        | _ => bad 148)
      | _ => bad 148)
    | _ => bad 148
  | _ => bad 148
def aConvA (P : Program) (st : St) (s d : TypeId) (x : AV) : Option (AV × St) := match P.underlying s with
  | some .string => aConvert P st d x
  | some (.slice _) => aMark P st s d x
  | _ => bad 148

abbrev CallF := FuncId → List AV → St → Option (AV × St)

def aRangeS (st : St) (x : AV) : Option (AV × St) := match x with
  | .s len code => some (.ptr st.next 0, newObj st (.iter ⟨⟨dec len code []⟩⟩ 0))
  | _ => bad 158
def aRangeM (st : St) (x : AV) : Option (AV × St) := match x with
  | .nilm => some (.ptr st.next 0, newObj st (.miter none))
  | .mp r => (match st.heap.get r with
    | some (.map es clock) => some (.ptr st.next 0, newObj st (.miter (some (.mk r clock (borns es) []))))
    | _ => bad 159)
  | _ => bad 157
def aRange (P : Program) (st : St) (t : TypeId) (x : AV) : Option (AV × St) := match P.underlying t with
  | some .string => aRangeS st x
  | some (.map _ _) => aRangeM st x
  | _ => bad 160
def stepM (st : St) (r m since : Nat) (bs gs : List Nat) : St := match st with
  | .mk h nx wm x => .mk ((h.set nx .dead).set r (.miter (some (.mk m since bs (gs ++ [nx]))))) (Nat.succ nx) wm x
/-- the next entry, whichever: told by a new number; no more when as many were told as there are -/
def nextM (st : St) (r m since : Nat) (bs gs : List Nat) (es : List (AV × AV × Nat)) (clock : Nat) : Option (AV × St) :=
  need (okM since bs es clock) 163 (bsel (Nat.blt (lenN gs) (lenN bs))
    (need (Nat.ble st.wmin r) 163 (some (.tup [.b true, .alt r st.next (keysOf es), .alt r st.next (valsOf es)], stepM st r m since bs gs)))
    (some (.tup [.b false], st)))
/-- a map that holds nothing: the iteration is over -/
def aNextM (st : St) (it : AV) : Option (AV × St) := match it with
  | .ptr r 0 => match st.heap.get r with
    | some (.miter none) => some (.tup [.b false], st)
    | some (.miter (some (.mk m since bs gs))) => (match st.heap.get m with
      | some (.map [] _) => some (.tup [.b false], st)
      | some (.map es clock) => nextM st r m since bs gs es clock
      | _ => bad 163)
    | _ => bad 164
  | _ => bad 165
def aNext (st : St) (it : AV) : Option (AV × St) := match it with
  | .ptr r 0 => match st.heap.get r with
    | some (.iter s pos) =>
      bif !(Nat.ble st.wmin r) then bad 169 else
      bif Nat.blt pos s.size then
        some (.tup [.b true, .i .i64 (.ofNat pos), .i .i32 (Utf8.decode s pos).1], setHeap st (st.heap.set r (.iter s (Nat.add pos (Utf8.decode s pos).2))))
      else some (.tup [.b false], st)
    | _ => bad 161
  | _ => bad 162

def aStoreU (P : Program) (st : St) (t : TypeId) (a v : AV) : Option (AV × St) := obind (aStore P st t a v) fun st' => some (undefA, st')
def aMapUpdateU (P : Program) (st : St) (t : TypeId) (m k v : AV) : Option (AV × St) := obind (aMapUpdate P st t m k v) fun st' => some (undefA, st')
def aAllocU (P : Program) (st : St) (t : TypeId) : Option (AV × St) := obind (zeroT P t) (aNewVar st)
def aMakeMap (P : Program) (st : St) (t : TypeId) : Option (AV × St) := match P.underlying t with
  | some (.map _ _) => some (.mp st.next, newObj st (.map [] 0))
  | _ => bad 155
def aBuildSliceL (P : Program) (st : St) (t : TypeId) (n : Nat) (parts : List (Nat × Operand)) (args : List AV) : Option (AV × St) := aBuildSlice P st t n ((parts.map (·.1)).zip args)

def semCallA (P : Program) (cf : CallF) (c : Call) (st : St) (args : List AV) : Option (AV × St) :=
  match c.callee with
  | .builtin .append => aAppend P st c.argTypes.toList args
  | .builtin .copy => aCopy P st c.argTypes.toList args
  | .builtin .clear => aClear P st c.argTypes.toList args
  | .value _ => match args with
    | .fn f first captured :: rest => cf f (appA first (appA rest captured)) st
    | _ => bad 166
  | _ => bad 167

def semA (P : Program) (cf : CallF) (o : Op) (ev : Od → Option AV) (ds : List Od) (st : St) : Option (AV × St) :=
  match o with
  | .store t _ _ => two ev ds (aStoreU P st t)
  | .alloc t => aAllocU P st t
  | .box _ _ => one ev ds (aNewVar st)
  | .buildSlice t n parts => obind (many ev ds) (aBuildSliceL P st t n parts.toList)
  | .makeSlice t _ _ => two ev ds (aMakeSlice P st t)
  | .makeMap t none => aMakeMap P st t
  | .mapUpdate t _ _ _ => three ev ds (aMapUpdateU P st t)
  | .insert t _ _ _ => three ev ds (aMapUpdateU P st t)
  | .convert s d _ => one ev ds (aConvA P st s d)
  | .range t _ => one ev ds (aRange P st t)
  | .next _ true => one ev ds (aNext st)
  | .next _ false => one ev ds (aNextM st)
  | .call c => obind (many ev ds) (semCallA P cf c st)
  | _ => bad 168

/-- 0: it looks at no memory; 1: it looks; 2: it changes it -/
def cls (P : Program) (o : Op) : Nat :=
  match o with
  | .load _ _ => 1
  | .lookup _ _ _ _ => 1
  | .entry _ => 1
  | .store _ _ _ => 2
  | .alloc _ => 2
  | .box _ _ => 2
  | .buildSlice _ _ _ => 2
  | .makeSlice _ _ _ => 2
  | .makeMap _ _ => 2
  | .mapUpdate _ _ _ _ => 2
  | .insert _ _ _ _ => 2
  | .range _ _ => 2
  | .next _ _ => 2
  | .convert s d _ => match P.underlying s, P.underlying d with
    | some .string, some (.slice _) => 2
    | some (.slice _), some .string => 1
    | some (.slice _), some (.slice _) => 2
    | _, _ => 0
  | .call c => match c.callee with
    | .builtin .len => 0
    | .builtin .cap => 0
    | .builtin .min => 0
    | .builtin .max => 0
    | _ => 2
  | _ => 0


/-! ## what is known by its text alone -/
def okI (k : IntKind) (n : Int) : Bool := eqI (wrapI k n) n
def tI : AV → Option (IntKind × Int)
  | .i k n => need (okI k n) 300 (some (k, n))
  | .x (.i k n) => some (k, n)
  | _ => bad 300
def tB : AV → Option Bool
  | .b x => some x
  | .x (.b x) => some x
  | _ => bad 301
def tS : AV → Option (List UInt8)
  | .s len code => need (Nat.ble len 140737488351232) 302 (some (dec len code []))
  | .x (.s l) => some l
  | _ => bad 302
abbrev Pn := Prop

/-! ### operations on numbers -/
def andI (k : IntKind) (a b : Int) : Int := k.wrap ((BitVec.ofInt k.bits a) &&& (BitVec.ofInt k.bits b)).toNat
def orI (k : IntKind) (a b : Int) : Int := k.wrap ((BitVec.ofInt k.bits a) ||| (BitVec.ofInt k.bits b)).toNat
def xorI (k : IntKind) (a b : Int) : Int := k.wrap ((BitVec.ofInt k.bits a) ^^^ (BitVec.ofInt k.bits b)).toNat
def andNotI (k : IntKind) (a b : Int) : Int := k.wrap ((BitVec.ofInt k.bits a) &&& ~~~(BitVec.ofInt k.bits b)).toNat
def xBinI (op : BinOp) (k : IntKind) (a b : Int) : Option (AV × List Pn) := match op with
  | .add => some (.x (.i k (k.wrap (a + b))), [])
  | .sub => some (.x (.i k (k.wrap (a - b))), [])
  | .mul => some (.x (.i k (k.wrap (a * b))), [])
  | .quo => some (.x (.i k (k.wrap (a.tdiv b))), [¬ b = 0])
  | .rem => some (.x (.i k (k.wrap (a.tmod b))), [¬ b = 0, k.wrap (a.tmod b) = a.tmod b])
  | .and => some (.x (.i k (andI k a b)), [])
  | .or => some (.x (.i k (orI k a b)), [])
  | .xor => some (.x (.i k (xorI k a b)), [])
  | .andNot => some (.x (.i k (andNotI k a b)), [])
  | .eql => some (.x (.b (a == b)), [])
  | .neq => some (.x (.b (a != b)), [])
  | .lss => some (.x (.b (decide (a < b))), [])
  | .leq => some (.x (.b (decide (a ≤ b))), [])
  | .gtr => some (.x (.b (decide (a > b))), [])
  | .geq => some (.x (.b (decide (a ≥ b))), [])
  | _ => bad 303
def shrI (k : IntKind) (a b : Int) : Int := a.fdiv (2 ^ (min b.toNat k.bits))
def shlI (a b : Int) (k : IntKind) : Int := k.wrap (a * 2 ^ (min b.toNat k.bits))
def xShl (k : IntKind) (a b : Int) : Option (AV × List Pn) := some (.x (.i k (shlI a b k)), [0 ≤ b])
def xShr (k : IntKind) (a b : Int) : Option (AV × List Pn) := some (.x (.i k (shrI k a b)), [0 ≤ b, k.wrap (shrI k a b) = shrI k a b])
def xBinS (op : BinOp) (a b : List UInt8) : Option (AV × List Pn) := match op with
  | .add => some (.x (.s (a ++ b)), [a.length + b.length ≤ Room])
  | .eql => some (.x (.b (a == b)), [])
  | .neq => some (.x (.b (!(a == b))), [])
  | .lss => some (.x (.b (Op.bytesLess a b)), [])
  | .leq => some (.x (.b (Op.bytesLess a b || a == b)), [])
  | .gtr => some (.x (.b (!(Op.bytesLess a b || a == b))), [])
  | .geq => some (.x (.b (!(Op.bytesLess a b))), [])
  | _ => bad 304
def xBinB (op : BinOp) (a b : Bool) : Option (AV × List Pn) := match op with
  | .eql => some (.x (.b (a == b)), [])
  | .neq => some (.x (.b (!(a == b))), [])
  | _ => bad 305
def xNot (a : Bool) : AV := .x (.b (!a))
def xNeg (k : IntKind) (a : Int) : AV := .x (.i k (k.wrap (0 - a)))
def xConvI (k : IntKind) (n : Int) : AV := .x (.i k (k.wrap n))
def xStr (l : List UInt8) : AV := .x (.s l)
def xLenS (l : List UInt8) : AV := .x (.i .i64 (Int.ofNat l.length))
def xLenR (e : ET) (xs : List e.T) : AV := .x (.i .i64 (Int.ofNat xs.length))
def xLenN (n : Nat) : AV := .x (.i .i64 (Int.ofNat n))
def xIdxS (l : List UInt8) (i : Int) : AV × List Pn := (.x (.i .u8 (Int.ofNat (l.getD i.toNat 0).toNat)), [0 ≤ i, i < Int.ofNat l.length])
def xPickB (c a b : Bool) : AV := .x (.b (bif c then a else b))
def xPickI (c : Bool) (k : IntKind) (a b : Int) : AV := .x (.i k (bif c then a else b))
def xPickS (c : Bool) (a b : List UInt8) : AV := .x (.s (bif c then a else b))
def mnI (a b : Int) : Int := if b < a then b else a
def mxI (a b : Int) : Int := if b > a then b else a
def xMin (k : IntKind) (a b : Int) : AV := .x (.i k (mnI a b))
def xMax (k : IntKind) (a b : Int) : AV := .x (.i k (mxI a b))
/-- a bound of a slice expression: its number, what is to be so -/
def xBd (v : Option AV) (dflt : Nat) (top : Nat) : Option (Nat × List Pn) := match v with
  | none => some (dflt, [])
  | some a => obind2 (tI a) fun _ n => some (n.toNat, [0 ≤ n, n ≤ Int.ofNat top])
def xCut {α : Type} (lo hi : Option AV) (l : List α) (a b : Nat) : List α := match lo, hi with
  | none, none => l
  | none, some _ => l.take b
  | some _, none => l.drop a
  | some _, some _ => (l.take b).drop a
def xSlS (lo hi : Option AV) (l : List UInt8) : Option (AV × List Pn) :=
  obind2 (xBd hi l.length l.length) fun b c1 => obind2 (xBd lo 0 b) fun a c2 => some (.x (.s (xCut lo hi l a b)), c1 ++ c2)
def xSlR (lo hi : Option AV) (e : ET) (xs : List e.T) : Option (AV × List Pn) :=
  obind2 (xBd hi xs.length xs.length) fun b c1 => obind2 (xBd lo 0 b) fun a c2 => some (.x (.row e (xCut lo hi xs a b)), c1 ++ c2)
def xSlO (lo hi : Option AV) (o ver : Nat) (e : ET) (fu : Bool) (at_ n : Nat) : Option (AV × List Pn) :=
  obind2 (xBd hi n n) fun b c1 => obind2 (xBd lo 0 b) fun a c2 => some (match lo with
    | none => .x (.own o ver e (fu && hi.isNone) at_ b)
    | some _ => .x (.own o ver e false (at_ + a) (b - a)), c1 ++ c2)
def xIxR (e : ET) (xs : List e.T) (i : Int) : AV × List Pn := (.x (.rp e xs i.toNat 0), [0 ≤ i, i < Int.ofNat xs.length])
def xIxO (o ver : Nat) (e : ET) (at_ n : Nat) (i : Int) : AV × List Pn := (.x (.op o ver e (at_ + i.toNat) 0), [0 ≤ i, i < Int.ofNat n])

/-! ### data and values -/
def ofV (v : AV) : Option (AV × List Pn) := some (v, [])
def ofL : (l : LT) → l.T → AV
  | .int k, x => .x (.i k x)
  | .bool, x => .x (.b x)
  | .str, x => .x (.s x)
  | .row e, x => .x (.row e x)
def ofE : (e : ET) → e.T → List AV
  | .one l, x => [ofL l x]
  | .cons l e, x => ofL l x.1 :: ofE e x.2
/-- the j-th cell of an element, and those behind it -/
def xsAt (e : ET) (xs : List e.T) (i : Nat) : e.T := xs.getD i e.z
def xApp {α : Type} (a b : List α) : List α := a ++ b
def nLen {α : Type} (a : List α) : Nat := a.length
def nAdd (a b : Nat) : Nat := a + b
def sBytes (l : List UInt8) : List Int := l.map fun b => Int.ofNat b.toNat
def bBytes (l : List Int) : List UInt8 := l.map fun n => UInt8.ofNat n.toNat
def isZ (n : Nat) : Bool := Nat.beq n 0
def cRoom (n : Nat) (e : ET) : List Pn := [n * e.by ≤ Room]
def cEq (a b : List AV) : List Pn := bsel (veqL 8 a b) [] [a = b]
def xSub {α : Type} (l : List α) (fu : Bool) (lo n : Nat) : List α := bsel fu l ((l.drop lo).take n)
def xSet {α : Type} (l : List α) (i : Nat) (x : α) : List α := l.set i x
def xZero {α : Type} (l : List α) (lo n : Nat) (z : α) : List α := l.take lo ++ List.replicate n z ++ l.drop (lo + n)
def xRep {α : Type} (n : Int) (x : α) : List α := List.replicate n.toNat x
def xMapF (n : Int) : List (Int × Int) → Int
  | [] => 0
  | (k, v) :: r => bif n == k then v else xMapF n r
abbrev Rw (e : ET) := List e.T
abbrev El (e : ET) := e.T
abbrev Lf (l : LT) := l.T
def lNil (e : ET) : Rw e := []
def rCast {a b : ET} (h : a = b) (x : Rw a) : Rw b := castE h x
def e1 {l : LT} (x : Lf l) : El (.one l) := x
def e2 {l : LT} {e : ET} (x : Lf l) (y : El e) : El (.cons l e) := (x, y)
def r1 {e : ET} (x : El e) : Rw e := [x]
def rCons {e : ET} (x : El e) (r : Rw e) : Rw e := x :: r
def lI (k : IntKind) (n : Int) : Lf (.int k) := n
def lB (b : Bool) : Lf .bool := b
def lS (s : List UInt8) : Lf .str := s
def lR {e : ET} (r : Rw e) : Lf (.row e) := r
def zE (e : ET) : El e := e.z
def lo0 : Nat := 0
abbrev Nm := Nat
def setLf : (e : ET) → El e → Nat → (l : LT) → Lf l → Option (El e)
  | .one m, _, 0, l, x => match eqLT l m with
    | some h => some (Eq.rec (motive := fun c _ => c.T) x h.down)
    | none => none
  | .one _, _, _ + 1, _, _ => none
  | .cons m e, y, 0, l, x => match eqLT l m with
    | some h => some ((Eq.rec (motive := fun c _ => c.T) x h.down, y.2) : m.T × e.T)
    | none => none
  | .cons m e, y, j + 1, l, x => match setLf e y.2 j l x with
    | some r => some ((y.1, r) : m.T × e.T)
    | none => none

/-! ### the state -/
def addC (st : St) (c : List Pn) : St := match st with
  | .mk h nx wm (.mk rows cs orc) => .mk h nx wm (.mk rows (c ++ cs) orc)
def getRow (st : St) (o : Nat) : Option RowO := st.x.rows.get o
def setRow (st : St) (o : Nat) (r : RowO) : St := match st with
  | .mk h nx wm (.mk rows cs orc) => .mk h nx wm (.mk (rows.set o r) cs orc)
def addRow (st : St) (r : RowO) : St := match st with
  | .mk h nx wm (.mk rows cs orc) => .mk h (Nat.succ nx) wm (.mk (rows.set nx r) cs orc)
def setRo (st : St) (o : Nat) (ob : AObj) : St := match st with
  | .mk h nx wm x => .mk (h.set o ob) nx wm x
def newOwn (st : St) (e : ET) (xs : Rw e) : Option (AV × St) := some (.x (.own st.next 0 e true lo0 (nLen xs)), addRow st ⟨e, xs, 0, false⟩)

/-! ### values as data: what is one's own is not written any more -/
def chunks {α β : Type} (f : List AV → St → Option (α × St)) (nil : β) (cons : α → β → β) (sz : Nat) : Nat → List AV → St → Option (β × St)
  | 0, _, st => some (nil, st)
  | n + 1, l, st => obind2 (f (l.take sz) st) fun a st1 => obind2 (chunks f nil cons sz n (l.drop sz) st1) fun r st2 => some (cons a r, st2)
def toOwn (e e' : ET) (st : St) (o ver : Nat) (fu : Bool) (lo n : Nm) : Option (Rw e × St) :=
  obind (getRow st o) fun ro => need (Nat.beq ver ro.ver) 310 (need (eqET e' e).isSome 311 (match eqET ro.e e with
    | some h => some (xSub (rCast h.down ro.xs) fu lo n, setRow st o ⟨ro.e, ro.xs, ro.ver, true⟩)
    | none => bad 311))
def toSl {β : Type} (sz : Nat) (ch : List AV → St → Option (β × St)) (st : St) (o k len esz : Nat) : Option (β × St) :=
  need (Nat.beq esz sz) 312 (match st.heap.get o with
    | some (.cells c lim es _ 0) => need (Nat.ble (Nat.add k (Nat.mul len sz)) lim && Nat.ble st.wmin o) 313 (ch (rd c k (Nat.mul len sz)) (setRo st o (.cells c lim es true 0)))
    | _ => bad 314)
mutual
def toL : (l : LT) → AV → St → Option (Lf l × St)
  | .int k, a, st => obind2 (tI a) fun k' n => need (sameK k k') 315 (some (lI k n, st))
  | .bool, a, st => obind (tB a) fun b => some (lB b, st)
  | .str, a, st => obind (tS a) fun s => some (lS s, st)
  | .row e, a, st => match a with
    | .nils => some (lR (lNil e), st)
    | .loose _ => some (lR (lNil e), st)
    | .x (.row e' xs) => (match eqET e' e with
      | some h => some (lR (rCast h.down xs), st)
      | none => bad 316)
    | .x (.own o ver e' fu lo n) => obind2 (toOwn e e' st o ver fu lo n) fun r st' => some (lR r, st')
    | .sl o k len _ _ esz => need (Nat.ble (Nat.mul len e.by) 140737488351232) 318 (obind2 (toSl e.sz (chunks (toE e) (lNil e) (fun x r => rCons x r) e.sz len) st o k len esz) fun r st' => some (lR r, st'))
    | _ => bad 317
def toE : (e : ET) → List AV → St → Option (El e × St)
  | .one l, a, st => match a with
    | [a] => obind2 (toL l a st) fun x st' => some (e1 x, st')
    | _ => bad 319
  | .cons l e, a, st => match a with
    | a :: r => obind2 (toL l a st) fun x st1 => obind2 (toE e r st1) fun y st2 => some (e2 x y, st2)
    | [] => bad 319
end
def leafAt : ET → Nat → Option LT
  | .one l, 0 => some l
  | .one _, _ + 1 => bad 320
  | .cons l _, 0 => some l
  | .cons _ e, j + 1 => leafAt e j
/-- cells for an element's cells from the j-th on -/
structure LV where
  l : LT
  x : Lf l
def toLs (e : ET) (j : Nat) : List AV → St → Option (List LV × St)
  | [], st => some ([], st)
  | a :: r, st => obind (leafAt e j) fun l => obind2 (toL l a st) fun x st1 => obind2 (toLs e (Nat.succ j) r st1) fun vs st2 => some (⟨l, x⟩ :: vs, st2)
def setLs (e : ET) (y : El e) (j : Nat) : List LV → Option (El e)
  | [] => some y
  | v :: r => obind (setLf e y j v.l v.x) fun y' => setLs e y' (Nat.succ j) r

/-! ### the type of an element, by the program's table -/
mutual
def etL : Nat → Program → TypeId → Option (List LT)
  | 0, _, _ => none
  | n + 1, P, t => match P.underlying t with
    | some (.int k) => some [.int k]
    | some .bool => some [.bool]
    | some .string => some [.str]
    | some (.slice u) => obind (etT n P u) fun e => some [.row e]
    | some (.struct fs) => etF n P fs.toList
    | _ => none
def etF : Nat → Program → List Field → Option (List LT)
  | 0, _, _ => none
  | _ + 1, _, [] => some []
  | n + 1, P, f :: r => obind (etL n P f.type) fun a => obind (etF n P r) fun b => some (a ++ b)
def etT : Nat → Program → TypeId → Option ET
  | 0, _, _ => none
  | n + 1, P, t => obind (etL n P t) ofLs
def ofLs : List LT → Option ET
  | [] => none
  | [l] => some (.one l)
  | l :: r => obind (ofLs r) fun e => some (.cons l e)
end
def etOf (P : Program) (t : TypeId) : Option ET := obind (etT 40 P t) fun e => need (Nat.beq e.by (P.bytesOf t)) 321 (obind (sizeT P t) fun n => need (Nat.beq n e.sz) 322 (obind (zeroT P t) fun z => need (Nat.beq (lenA (acells z)) n && allOk (acells z)) 322 (some e)))

/-! ### operations that look at no memory -/
def lfOf (P : Program) (u : TypeId) : Option LT := match P.underlying u with
  | some (.int k) => some (.int k)
  | some .bool => some .bool
  | some .string => some .str
  | _ => bad 331
def eqLf (P : Program) (u : TypeId) (a b : AV) : Option Bool := obind (lfOf P u) fun l => match l with
  | .int _ => obind2 (tI a) fun k m => obind2 (tI b) fun k' n => need (sameK k k') 331 (some (m == n))
  | .bool => obind (tB a) fun p => obind (tB b) fun q => some (p == q)
  | .str => obind (tS a) fun p => obind (tS b) fun q => some (p == q)
  | _ => none
def eqFs (P : Program) (l m : List AV) : List Field → Option Bool
  | [] => some true
  | f :: fs => need (f.name != "_") 331 (obind (aPart P f.type l f.offset) fun a => obind (aPart P f.type m f.offset) fun b => obind (eqLf P f.type a b) fun p => obind (eqFs P l m fs) fun q => some (p && q))
def notB (b : Bool) : Bool := !b
def fieldsL (P : Program) (t : TypeId) : Option (List Field) := match P.underlying t with
  | some (.struct fs) => some fs.toList
  | _ => bad 331
/-- two structs of leaves -/
def xEqA (P : Program) (op : BinOp) (t : TypeId) (l m : List AV) : Option (AV × List Pn) := obind (fieldsL P t) fun fs => need (!P.stoodInHeld t && !P.eqGuardType P.depth t) 331 (obind (eqFs P l m fs) fun b => match op with
  | .eql => some (.x (.b b), [])
  | .neq => some (.x (.b (notB b)), [])
  | _ => bad 331)
def isBoolT (P : Program) (t : TypeId) : Bool := match P.underlying t with
  | some .bool => true
  | _ => false
def xBin (P : Program) (op : BinOp) (t : TypeId) (x y : AV) : Option (AV × List Pn) := match tI x, tI y with
  | some (k, a), some (k', b) => (match op with
    | .shr => xShr k a b
    | .shl => xShl k a b
    | op => need (sameK k k') 330 (xBinI op k a b))
  | _, _ => match tS x, tS y with
    | some a, some b => xBinS op a b
    | _, _ => match tB x, tB y with
      | some a, some b => need (isBoolT P t) 331 (xBinB op a b)
      | _, _ => match x, y with
        | .agg l, .agg m => xEqA P op t l m
        | _, _ => bad 331
def xUn (op : UnOp) (x : AV) : Option (AV × List Pn) := match op with
  | .not => obind (tB x) fun b => some (xNot b, [])
  | .neg => obind2 (tI x) fun k n => some (xNeg k n, [])
  | _ => bad 332
def xConv (P : Program) (s d : TypeId) (x : AV) : Option (AV × List Pn) := obind (P.underlying s) fun _ => match P.underlying d with
  | some (.int k) => obind2 (tI x) fun _ n => some (xConvI k n, [])
  | some .string => obind (match x with | .x (.s l) => some l | _ => bad 333) fun l => some (xStr l, [])
  | _ => bad 333
def xLen (P : Program) (t : TypeId) (x : AV) : Option (AV × List Pn) := match P.underlying t, x with
  | some .string, .x (.s l) => some (xLenS l, [])
  | some (.slice _), .x (.row e xs) => some (xLenR e xs, [])
  | some (.slice _), .x (.own _ _ _ _ _ n) => some (xLenN n, [])
  | _, _ => bad 334
def xIndex (P : Program) (t : TypeId) (x i : AV) : Option (AV × List Pn) := match P.underlying t with
  | some .string => obind (tS x) fun l => obind2 (tI i) fun _ n => some (xIdxS l n)
  | _ => bad 335
def xIndexAddr (P : Program) (t : TypeId) (x i : AV) : Option (AV × List Pn) := match P.underlying t, x with
  | some (.slice u), .x (.row e xs) => obind2 (tI i) fun _ n => obind (sizeT P u) fun s => need (Nat.beq s e.sz) 336 (some (xIxR e xs n))
  | some (.slice u), .x (.own o ver e _ lo m) => obind2 (tI i) fun _ n => obind (sizeT P u) fun s => need (Nat.beq s e.sz) 336 (some (xIxO o ver e lo m n))
  | _, _ => bad 337
def xFieldAddr (P : Program) (s : TypeId) (f : Nat) (x : AV) : Option (AV × List Pn) := match x with
  | .x (.rp e xs i j) => obind (fieldOff P s f) fun off => some (.x (.rp e xs i (Nat.add j off)), [])
  | .x (.op o ver e i j) => obind (fieldOff P s f) fun off => some (.x (.op o ver e i (Nat.add j off)), [])
  | _ => bad 338
def xNil (x : AV) : Option (AV × List Pn) := match x with
  | .x (.rp e xs i j) => some (.x (.rp e xs i j), [])
  | .x (.op o ver e i j) => some (.x (.op o ver e i j), [])
  | _ => bad 339
def xPick (c a b : AV) : Option (AV × List Pn) := obind (tB c) fun c => match tI a, tI b with
  | some (k, n), some (k', m) => need (sameK k k') 340 (some (xPickI c k n m, []))
  | _, _ => match tB a, tB b with
    | some p, some q => some (xPickB c p q, [])
    | _, _ => match tS a, tS b with
      | some p, some q => some (xPickS c p q, [])
      | _, _ => bad 341
def xSlice (P : Program) (t : TypeId) (lo hi : Option AV) (x : AV) : Option (AV × List Pn) := match P.underlying t, x with
  | some .string, x => obind (tS x) fun l => xSlS lo hi l
  | some (.slice u), .x (.row e xs) => obind (sizeT P u) fun s => need (Nat.beq s e.sz) 342 (xSlR lo hi e xs)
  | some (.slice u), .x (.own o ver e fu at_ n) => obind (sizeT P u) fun s => need (Nat.beq s e.sz) 342 (xSlO lo hi o ver e fu at_ n)
  | _, _ => bad 343
def xSliceL (P : Program) (t : TypeId) (lo hi mx : Option Operand) (args : List AV) : Option (AV × List Pn) := match args with
  | x :: l => need mx.isNone 344 (obind2 (takeOpt lo l) fun alo l1 => obind2 (takeOpt hi l1) fun ahi _ => xSlice P t alo ahi x)
  | [] => bad 344
def xMinMax (mn : Bool) (args : List AV) : Option (AV × List Pn) := match args with
  | [x, y] => obind2 (tI x) fun k a => obind2 (tI y) fun k' b => need (sameK k k') 345 (some (bsel mn (xMin k a b) (xMax k a b), []))
  | _ => bad 345
def xCallP (P : Program) (c : Call) (args : List AV) : Option (AV × List Pn) := match c.callee, c.argTypes.toList, args with
  | .builtin .len, [t], [x] => xLen P t x
  | .builtin .min, _, args => xMinMax true args
  | .builtin .max, _, args => xMinMax false args
  | _, _, _ => bad 346
def pX (P : Program) (o : Op) (args : List AV) : Option (AV × List Pn) := match o with
  | .binOp op t _ _ _ => (match args with | [x, y] => xBin P op t x y | _ => bad 347)
  | .unOp op _ _ => (match args with | [x] => xUn op x | _ => bad 347)
  | .convert s d _ => (match args with | [x] => xConv P s d x | _ => bad 347)
  | .slice t _ lo hi mx => xSliceL P t lo hi mx args
  | .fieldAddr s _ f => (match args with | [x] => xFieldAddr P s f x | _ => bad 347)
  | .indexAddr t _ _ => (match args with | [x, i] => xIndexAddr P t x i | _ => bad 347)
  | .index t _ _ => (match args with | [x, i] => xIndex P t x i | _ => bad 347)
  | .pick _ _ _ => (match args with | [c, a, b] => xPick c a b | _ => bad 347)
  | .nilCheck _ => (match args with | [x] => xNil x | _ => bad 347)
  | .call c => xCallP P c args
  | _ => bad 348

/-! ### operations that look at the memory -/
def cellsAt (l : List AV) (j n : Nat) : Option AV := bsel (Nat.beq n 0) l[j]? (need (Nat.ble (Nat.add j n) (lenA l)) 350 (some (.agg ((l.drop j).take n))))
def xLoad (P : Program) (st : St) (t : TypeId) (p : AV) : Option (AV × List Pn) := match p with
  | .x (.rp e xs i j) => obind (aggN P t) fun n => obind (cellsAt (ofE e (xsAt e xs i)) j n) ofV
  | .x (.op o ver e i j) => obind (aggN P t) fun n => obind (getRow st o) fun ro => need (Nat.beq ver ro.ver) 351 (match eqET ro.e e with
    | some h => obind (cellsAt (ofE e (xsAt e (rCast h.down ro.xs) i)) j n) ofV
    | none => bad 352)
  | _ => bad 353
def bRow (st : St) (x : AV) : Option (Rw (.one (.int .u8))) := match x with
  | .x (.row e xs) => (match eqET e (.one (.int .u8)) with | some h => some (rCast h.down xs) | none => bad 354)
  | .x (.own o ver e' fu lo n) => obind (getRow st o) fun ro => need (Nat.beq ver ro.ver) 355 (need (eqET e' (.one (.int .u8))).isSome 356 (match eqET ro.e (.one (.int .u8)) with
    | some h => some (xSub (rCast h.down ro.xs) fu lo n)
    | none => bad 356))
  | _ => bad 357
def u8s : List AV → Option (Rw (.one (.int .u8)))
  | [] => some (lNil _)
  | x :: r => obind2 (tI x) fun k n => need (sameK k .u8) 391 (obind (u8s r) fun q => some (rCons (e1 (lI .u8 n)) q))
/-- the entries of a map of known numbers -/
def entsI (kk kv : IntKind) : List (AV × AV × Nat) → Option (List (Int × Int))
  | [] => some []
  | (.i a k, .i b v, _) :: r => need (sameK a kk && sameK b kv && okI kv v) 392 (obind (entsI kk kv r) fun l => some ((k, v) :: l))
  | _ => bad 393
def xLookup (P : Program) (st : St) (t : TypeId) (ok : Bool) (m key : AV) : Option (AV × List Pn) := match P.underlying t with
  | some (.map kt et) => (match P.underlying kt, P.underlying et with
    | some (.int kk), some (.int kv) => obind2 (tI key) fun k n => need (sameK k kk && !ok) 394 (obind (zeroT P et) fun z => need (veq 2 z (.i kv 0)) 398 (obind (aEntries st m) fun es => obind (entsI kk kv es) fun l => some (.x (.i kv (xMapF n l)), [])))
    | _, _ => bad 395)
  | _ => bad 396
def rX (P : Program) (o : Op) (args : List AV) (st : St) : Option (AV × List Pn) := match o with
  | .load t _ => (match args with | [p] => xLoad P st t p | _ => bad 358)
  | .convert s _ _ => (match P.underlying s, args with
    | some (.slice u), [x] => (match P.underlying u with
      | some (.int .u8) => (match x with
        | .sl o k len _ _ _ => obind (ldCells st o k len) fun l => need (Nat.ble len 1000) 390 (obind (u8s l) fun r => some (xStr (bBytes r), []))
        | x => obind (bRow st x) fun r => some (xStr (bBytes r), []))
      | _ => bad 359)
    | _, _ => bad 359)
  | .lookup t _ _ ok => (match args with | [m, k] => xLookup P st t ok m k | _ => bad 397)
  | _ => bad 359

/-! ### operations that change the memory -/
def xStore (P : Program) (st : St) (t : TypeId) (p v : AV) : Option (AV × St) := match p with
  | .x (.op o ver e i j) => obind (sizeT P t) fun n => need (Nat.beq (lenA (acells v)) n && Nat.ble 1 n) 360 (obind2 (toLs e j (acells v) st) fun vs st1 =>
    obind (getRow st1 o) fun ro => need (Nat.beq ver ro.ver) 361 (need (bsel ro.fr false true) 362 (match eqET ro.e e with
      | some h => obind (setLs e (xsAt e (rCast h.down ro.xs) i) j vs) fun y => some (undefA, setRow st1 o ⟨e, xSet (rCast h.down ro.xs) i y, ver, false⟩)
      | none => bad 363)))
  | _ => bad 364
def xSrc (P : Program) (u xt : TypeId) (e : ET) (x : AV) (st : St) : Option (Rw e × St) := match P.underlying xt with
  | some (.slice _) => obind2 (toL (.row e) x st) fun r st' => some ((r : Rw e), st')
  | some .string => (match P.underlying u, eqET (.one (.int .u8)) e with
    | some (.int .u8), some h => obind (tS x) fun l => some (rCast h.down (sBytes l), st)
    | _, _ => bad 365)
  | _ => bad 366
/-- a row of cells becomes a row of one's own -/
def slOwn (e : ET) (o k len esz : Nat) (st : St) : Option (Nat × St) := need (Nat.beq esz e.sz) 367 (match st.heap.get o with
  | some (.cells c lim _ false 0) => need (Nat.ble (Nat.add k (Nat.mul len e.sz)) lim && Nat.ble st.wmin o && Nat.ble (Nat.mul len e.by) 140737488351232) 367
      (obind2 (chunks (toE e) (lNil e) (fun x r => rCons x r) e.sz len (rd c k (Nat.mul len e.sz)) st) fun xs st1 => match st1.heap.get o with
        | some (.cells _ _ _ false 0) => some (st1.next, addRow (setRo st1 o .dead) ⟨e, xs, 0, false⟩)
        | _ => bad 367)
  | _ => bad 367)
def appOwn (e : ET) (o ver : Nat) (e' : ET) (fu : Bool) (lo n : Nm) (ys : Rw e) (st : St) : Option (AV × St) :=
  obind (getRow st o) fun ro => need (Nat.beq ver ro.ver) 368 (need (bsel ro.fr false true) 369 (need (isZ lo && (eqET e' e).isSome) 370 (match eqET ro.e e with
      | some h => some (.x (.own o (Nat.succ ver) e true lo0 (nLen (xApp (xSub (rCast h.down ro.xs) fu lo n) ys))),
          setRow (addC st (cRoom (nLen (xApp (xSub (rCast h.down ro.xs) fu lo n) ys)) e)) o ⟨e, xApp (xSub (rCast h.down ro.xs) fu lo n) ys, Nat.succ ver, false⟩)
      | none => bad 371)))
def xApp1 (e : ET) (s : AV) (ys : Rw e) (st : St) : Option (AV × St) := match s with
  | .nils => appOwn e st.next 0 e true lo0 (nLen (lNil e)) ys (addRow st ⟨e, lNil e, 0, false⟩)
  | .sl o k len _ _ esz => obind2 (slOwn e o k len esz st) fun o' st1 => obind (getRow st1 o') fun ro => appOwn e o' 0 e true lo0 (match eqET ro.e e with | some h => nLen (rCast h.down ro.xs) | none => lo0) ys st1
  | .x (.own o ver e' fu lo n) => appOwn e o ver e' fu lo n ys st
  | _ => bad 372
def xAppend (P : Program) (ts : List TypeId) (args : List AV) (st : St) : Option (AV × St) := match ts, args with
  | [t, xt], [s, x] => (match P.underlying t with
    | some (.slice u) => obind (etOf P u) fun e => obind2 (xSrc P u xt e x st) fun ys st1 => xApp1 e s ys st1
    | _ => bad 373)
  | _, _ => bad 374
def zLf : LT → AV → Bool
  | .int k, .i k' n => sameK k' k && (match n with | .ofNat 0 => true | _ => false)
  | .bool, .b b => !b
  | .str, .s len _ => Nat.beq len 0
  | .row _, .nils => true
  | _, _ => false
def zOk : ET → List AV → Bool
  | .one l, [a] => zLf l a
  | .cons l e, a :: r => zLf l a && zOk e r
  | _, _ => false
def xClear (P : Program) (st : St) (ts : List TypeId) (args : List AV) : Option (AV × St) := match ts, args with
  | [t], [.x (.own o ver e' _ lo n)] => (match P.underlying t with
    | some (.slice u) => obind (etOf P u) fun e => obind (zeroT P u) fun z => need (zOk e (acells z) && (eqET e' e).isSome) 375 (obind (getRow st o) fun ro => need (Nat.beq ver ro.ver) 376 (need (bsel ro.fr false true) 377 (match eqET ro.e e with
      | some h => some (undefA, setRow st o ⟨e, xZero (rCast h.down ro.xs) lo n (zE e), ver, false⟩)
      | none => bad 378)))
    | _ => bad 379)
  | _, _ => bad 379
def aX (P : Program) (o : Op) (args : List AV) (st : St) : Option (AV × St) := match o with
  | .store t _ _ => (match args with | [p, v] => xStore P st t p v | _ => bad 380)
  | .call c => (match c.callee with
    | .builtin .append => xAppend P c.argTypes.toList args st
    | .builtin .clear => xClear P st c.argTypes.toList args
    | _ => bad 381)
  | _ => bad 382

/-! ## operations with their operands' places -/
inductive IOp where
  | mk (op : Op) (ty : TypeId) (cl : Nat) (ods : List Od) (gd : Option (Od × Bool))

def gdVal (want : Bool) (v : AV) : Option Bool := match v with
  | .b b => some (b == want)
  | .tup _ => some false
  | _ => bad 170

/- what is not known is asked of the oracle; the answer is noted -/
def ask (c : Bool) (st : St) : Option (Bool × St) := match st with
  | .mk h nx wm (.mk rows cs orc) => match orc with
    | [] => none
    | d :: r => some (d, .mk h nx wm (.mk rows ((c = d) :: cs) r))
def lget (l : List AV) : Nat → Option AV :=
  List.rec (motive := fun _ => Nat → Option AV) (fun _ => none) (fun x _ ih n => Bool.rec (motive := fun _ => Option AV) (ih (Nat.sub n 1)) (some x) (Nat.beq n 0)) l
theorem lget_nil (n : Nat) : lget [] n = none := rfl
theorem lget_cons (x : AV) (l : List AV) (n : Nat) : lget (x :: l) n = bsel (Nat.beq n 0) (some x) (lget l (Nat.sub n 1)) := rfl
def evOd (le : List AV) (tm : Tr AV) (d : Od) : Option AV :=
  Od.rec (motive := fun _ => Option AV) (fun j => lget le j) (fun t => tm.get t) (fun a => some a) none d
theorem evOd_l (le : List AV) (tm : Tr AV) (j : Nat) : evOd le tm (.l j) = lget le j := rfl
theorem evOd_v (le : List AV) (tm : Tr AV) (t : Nat) : evOd le tm (.v t) = tm.get t := rfl
theorem evOd_c (le : List AV) (tm : Tr AV) (a : AV) : evOd le tm (.c a) = some a := rfl
theorem evOd_x (le : List AV) (tm : Tr AV) : evOd le tm .x = none := rfl
def evGd (ev : Od → Option AV) (g : Option (Od × Bool)) : Option Bool :=
  Option.rec (motive := fun _ => Option Bool) (some true) (fun p => Prod.rec (motive := fun _ => Option Bool) (fun d want => obind (ev d) (gdVal want)) p) g
theorem evGd_none (ev : Od → Option AV) : evGd ev none = some true := rfl
theorem evGd_some (ev : Od → Option AV) (d : Od) (want : Bool) : evGd ev (some (d, want)) = obind (ev d) (gdVal want) := rfl

def gdAsk (want : Bool) (v : AV) (st : St) : Option (Bool × St) := match v with
  | .x (.b c) => obind2 (ask c st) fun d st' => some (d == want, st')
  | v => obind (gdVal want v) fun b => some (b, st)
def evGdS (ev : Od → Option AV) (g : Option (Od × Bool)) (st : St) : Option (Bool × St) := match g with
  | none => some (true, st)
  | some p => obind (ev p.1) fun v => gdAsk p.2 v st

def posOf (t : Nat) : List (Option Nat) → Nat → Option Nat
  | [], _ => none
  | some u :: r, j => bif Nat.beq u t then some j else posOf t r (Nat.succ j)
  | none :: r, j => posOf t r (Nat.succ j)

/-- the place of an operand, behind operations with these targets (the last one first) -/
def odOf (loc : List (Option Nat)) : Operand → Od
  | .tmp t => match posOf t loc 0 with
    | some j => .l j
    | none => .v t
  | .const v => match cv 6 v with
    | some a => .c a
    | none => .x
  | .global _ => .x
  | .func f => .c (.fn f [] [])

def gdOf (ops : Array Oper) (loc : List (Option Nat)) : Option (Nat × Bool) → Option (Od × Bool)
  | none => none
  | some (j, want) => match (ops.toList[j]?).bind (·.dst) with
    | some t => some (odOf loc (.tmp t), want)
    | none => some (.x, want)

def iops (P : Program) (ops : Array Oper) : List Oper → List (Option Nat) → List IOp
  | [], _ => []
  | o :: r, loc => .mk o.op o.type (cls P o.op) (o.op.operands.toList.map (odOf loc)) (gdOf ops loc o.guard) :: iops P ops r (o.dst :: loc)

/-- one way, or else the other -/
def orP (a : Option AV) (b : Option (AV × List Pn)) : Option (AV × List Pn) := match a with
  | some v => some (v, [])
  | none => b
def orA (a b : Option (AV × St)) : Option (AV × St) := match a with
  | some v => some v
  | none => b
def semP2 (P : Program) (op : Op) (ty : TypeId) (ev : Od → Option AV) (ds : List Od) : Option (AV × List Pn) :=
  orP (semP P op ty ev ds) (obind (many ev ds) (pX P op))
def semR2 (P : Program) (op : Op) (ev : Od → Option AV) (ds : List Od) (st : St) : Option (AV × List Pn) :=
  orP (semR P op ev ds st) (obind (many ev ds) fun args => rX P op args st)
def semA2 (P : Program) (cf : CallF) (op : Op) (ev : Od → Option AV) (ds : List Od) (st : St) : Option (AV × St) :=
  orA (semA P cf op ev ds st) (obind (many ev ds) fun args => aX P op args st)
/-- the value, the state with what is to be so -/
def keepC (st : St) (v : AV) (c : List Pn) : Option (AV × St) := some (v, addC st c)
def sem (P : Program) (cf : CallF) (op : Op) (ty : TypeId) (cl : Nat) (ev : Od → Option AV) (ds : List Od) (st : St) : Option (AV × St) :=
  bsel (Nat.beq cl 0) (obind2 (semP2 P op ty ev ds) (keepC st)) (bsel (Nat.beq cl 1) (obind2 (semR2 P op ev ds st) (keepC st)) (semA2 P cf op ev ds st))

/-- a guard that was asked is known from then on -/
def setB (d : Bool) : List AV → Nat → List AV
  | [], _ => []
  | a :: r, j => bsel (Nat.beq j 0) (.b d :: r) (a :: setB d r (Nat.sub j 1))
def fixG (le : List AV) (gd : Option (Od × Bool)) (g : Bool) : List AV := match gd with
  | some (.l j, want) => (match lget le j with
    | some (.x (.b _)) => setB (g == want) le j
    | _ => le)
  | _ => le
def evOps (P : Program) (cf : CallF) (tm : Tr AV) (l : List IOp) : List AV → St → Option (List AV × St) :=
  List.rec (motive := fun _ => List AV → St → Option (List AV × St)) (fun le st => some (le, st))
    (fun o _ ih le st => IOp.rec (motive := fun _ => Option (List AV × St)) (fun op ty cl ods gd =>
      obind2 (evGdS (evOd le tm) gd st) fun g st => bsel g (obind2 (sem P cf op ty cl (evOd (fixG le gd g) tm) ods st) fun v st' => ih (v :: fixG le gd g) st') (ih (undefA :: fixG le gd g) st)) o) l
theorem evOps_nil (P : Program) (cf : CallF) (tm : Tr AV) (le : List AV) (st : St) : evOps P cf tm [] le st = some (le, st) := rfl
theorem evOps_cons (P : Program) (cf : CallF) (tm : Tr AV) (op : Op) (ty : TypeId) (cl : Nat) (ods : List Od) (gd : Option (Od × Bool)) (r : List IOp) (le : List AV) (st : St) :
    evOps P cf tm (.mk op ty cl ods gd :: r) le st = obind2 (evGdS (evOd le tm) gd st) fun g st =>
      bsel g (obind2 (sem P cf op ty cl (evOd (fixG le gd g) tm) ods st) fun v st' => evOps P cf tm r (v :: fixG le gd g) st') (evOps P cf tm r (undefA :: fixG le gd g) st) := rfl

def bit (m i : Nat) : Bool := Nat.beq (Nat.mod (Nat.shiftRight m i) 2) 1
def withBit (m i : Nat) : Nat := Nat.lor m (Nat.shiftLeft 1 i)

/-- the slots that are written behind the region: those of the mask -/
def exps (X : Nat) : List (Option Nat) → Nat → List (Nat × Nat)
  | [], _ => []
  | some t :: r, j => bif bit X t then (t, j) :: exps X r (Nat.succ j) else exps X r (Nat.succ j)
  | none :: r, j => exps X r (Nat.succ j)

/-- lay them: the first written last, so that the latest stands -/
def export_ (le : List AV) (tm : Tr AV) (l : List (Nat × Nat)) : Option (Tr AV) :=
  List.rec (motive := fun _ => Option (Tr AV)) (some tm) (fun p _ ih => Prod.rec (motive := fun _ => Option (Tr AV)) (fun t j => obind (lget le j) fun v => obind ih fun tm' => some (tm'.set t v)) p) l
theorem export_nil (le : List AV) (tm : Tr AV) : export_ le tm [] = some tm := rfl
theorem export_cons (le : List AV) (tm : Tr AV) (t j : Nat) (r : List (Nat × Nat)) : export_ le tm ((t, j) :: r) = obind (lget le j) fun v => obind (export_ le tm r) fun tm' => some (tm'.set t v) := rfl

/-! ## a region that draws its order -/
def aftMask (o : Oper) : Nat := o.after.toList.foldl (fun m e => bif Region.binds .any e then withBit m e.on else m) 0
def subM (a b : Nat) : Bool := Nat.beq (Nat.land a b) a

structure DOp where
  idx : Nat
  o : Oper
  cl : Nat           -- 0 pure, 1 reads, 2 changes, 3 a new variable
  aft : Nat
  anc : Nat
  low : Nat
  high : Nat
  ods : List Od
  gd : Option (Od × Bool)

def clsD (P : Program) (o : Op) : Nat := match o with
  | .alloc _ => 3
  | .buildSlice _ _ _ => 3
  | o => cls P o
/-- one that a guard keeps is not laid ahead -/
def allC : List (Nat × Operand) → Bool
  | [] => true
  | (_, .const _) :: r => allC r
  | _ => false
def clsR (P : Program) (o : Oper) : Nat := match o.guard with
  | none => clsD P o.op
  | some _ => match o.op with
    | .buildSlice _ _ parts => bsel (allC parts.toList) 3 2
    | op => cls P op

/-- the first that is ready; what changes nothing first -/
def pickReady (P : Program) (done : Nat) (heavy : Bool) : List (Oper × Nat) → Option (Oper × Nat)
  | [] => none
  | (o, i) :: r => bif !(bit done i) && subM (aftMask o) done && (heavy || !(Nat.beq (clsR P o) 2)) then some (o, i) else pickReady P done heavy r
def orderF (P : Program) (l : List (Oper × Nat)) : Nat → Nat → List (Oper × Nat)
  | 0, _ => []
  | f + 1, done => match pickReady P done false l with
    | some x => x :: orderF P l f (withBit done x.2)
    | none => match pickReady P done true l with
      | some x => x :: orderF P l f (withBit done x.2)
      | none => []
def ancOf (aft : Nat) : List (Nat × Nat) → Nat → Nat
  | [], m => m
  | (j, a) :: r, m => ancOf aft r (bif bit aft j then withBit (Nat.lor m a) j else m)
def withAnc : List (Oper × Nat) → List (Nat × Nat) → List (Oper × Nat × Nat)
  | [], _ => []
  | (o, i) :: r, acc => (o, i, ancOf (aftMask o) acc 0) :: withAnc r ((i, ancOf (aftMask o) acc 0) :: acc)

def writerOf (t : Nat) : List (Oper × Nat × Nat) → Option (Oper × Nat × Nat)
  | [] => none
  | d :: r => match d.1.dst with
    | some u => bif Nat.beq u t then some d else writerOf t r
    | none => writerOf t r
/-- the place of an operand in a drawn region: the result of the operation of that number, or the slot as it was -/
def odD (l : List (Oper × Nat × Nat)) (aft i : Nat) : Operand → Od
  | .tmp t => match writerOf t l with
    | none => .v t
    | some (w, j, _) => bif bit aft j then .l j else bif bit (aftMask w) i then .v t else .x
  | .const v => match cv 6 v with
    | some a => .c a
    | none => .x
  | .global _ => .x
  | .func f => .c (.fn f [] [])
def gdD (ops : Array Oper) (l : List (Oper × Nat × Nat)) (aft i : Nat) : Option (Nat × Bool) → Option (Od × Bool)
  | none => none
  | some (j, want) => match (ops.toList[j]?).bind (·.dst) with
    | some t => some (odD l aft i (.tmp t), want)
    | none => some (.x, want)
def mkDOp (P : Program) (ops : Array Oper) (l hs : List (Oper × Nat × Nat)) : Oper × Nat × Nat → DOp
  | (o, i, a) => {
    idx := i, o := o, cl := clsR P o, aft := aftMask o, anc := a
    low := (hs.filter fun (_, h, _) => bit a h).length
    high := (hs.filter fun (_, h, b) => !(Nat.beq h i) && !(bit b i)).length
    ods := o.op.operands.toList.map (odD l (aftMask o) i), gd := gdD ops l (aftMask o) i o.guard }
def planL (P : Program) (ops : Array Oper) : List (Oper × Nat × Nat) := withAnc (orderF P ops.toList.zipIdx ops.size 0) []
def plan (P : Program) (ops : Array Oper) : List DOp :=
  (planL P ops).map (mkDOp P ops (planL P ops) ((planL P ops).filter fun (o, _, _) => Nat.beq (clsR P o) 2))

def chainOk : List DOp → Bool
  | a :: b :: r => bit b.anc a.idx && chainOk (b :: r)
  | _ => true
def noSelect (o : Op) : Bool := match o with | .select .. => false | _ => true
/-- each comes behind those that it waits for, none twice, none is left out -/
def topo (full : Nat) : List DOp → Nat → Bool
  | [], m => Nat.beq m full
  | d :: r, m => bsel (bit m d.idx) false (bsel (subM d.aft m) (topo full r (withBit m d.idx)) false)
/-- no two write the same slot -/
def dstsOnce : List DOp → Nat → Bool
  | [], _ => true
  | d :: r, m => match d.o.dst with
    | some t => bsel (bit m t) false (dstsOnce r (withBit m t))
    | none => dstsOnce r m
def heavies (pl : List DOp) : List DOp := pl.filter fun d => Nat.beq d.cl 2
def planOk (ops : Array Oper) (pl : List DOp) : Bool :=
  topo (Nat.sub (Nat.shiftLeft 1 ops.size) 1) pl 0 && dstsOnce pl 0 && chainOk (heavies pl) && pl.all fun d => noSelect d.o.op

def evOdD (V tm : Tr AV) : Od → Option AV
  | .l j => V.get j
  | .v t => tm.get t
  | .c a => some a
  | .x => none

/-- the new variables of a region, laid ahead of it -/
def layAllocs (P : Program) : List DOp → List (List AV × Nat) → Tr AV → St → Option (Tr AV × St)
  | [], _, V, st => some (V, st)
  | d :: r, gs, V, st => bif Nat.beq d.cl 3 then
      match d.o.op with
        | .alloc t => obind2 (aAllocU P st t) fun v st' => layAllocs P r gs (V.set d.idx v) st'
        | .buildSlice _ n _ => (match gs with
          | g :: gs' => layAllocs P r gs' (V.set d.idx (.sl st.next 0 n n true g.2)) (newCells st g.1 g.2)
          | [] => bad 183)
        | _ => bad 181
    else layAllocs P r gs V st
/-- the contents of the rows that a region builds, as a run in the plan's order has them: a guess, which is checked -/
def isBuild (d : DOp) : Bool := match d.o.op with | .buildSlice .. => true | _ => false
def layG (P : Program) : List DOp → Tr AV → St → Option (Tr AV × St)
  | [], V, st => some (V, st)
  | d :: r, V, st => match d.o.op with
    | .alloc t => obind2 (aAllocU P st t) fun v st' => layG P r (V.set d.idx v) st'
    | .buildSlice t n _ => (match P.underlying t with
      | some (.slice e) => obind (sizeT P e) fun size => layG P r (V.set d.idx (.sl st.next 0 n n true size)) (newObj st .dead)
      | _ => bad 184)
    | _ => layG P r V st
def csOf (P : Program) (tm V : Tr AV) (d : DOp) : Option (List AV × Nat) := match d.o.op with
  | .buildSlice t n parts => obind (many (evOdD V tm) d.ods) fun args => buildCs P t n ((parts.toList.map (·.1)).zip args)
  | _ => bad 185
def fillB (st : St) (v : AV) (g : List AV × Nat) : St := match v with
  | .sl o _ _ _ _ _ => setHeap st (st.heap.set o (.cells (wr .e 0 g.1) (lenA g.1) g.2 false 0))
  | _ => st
def runG (P : Program) (cf : CallF) (tm : Tr AV) : List DOp → Tr AV → St → Option (Tr AV)
  | [], V, _ => some V
  | d :: r, V, st => bif isBuild d then obind (csOf P tm V d) fun g => obind (V.get d.idx) fun v => runG P cf tm r V (fillB st v g)
    else bif Nat.beq d.cl 3 then runG P cf tm r V st
    else match evGd (evOdD V tm) d.gd with
      | none => runG P cf tm r (V.set d.idx undefA) st
      | some false => runG P cf tm r (V.set d.idx undefA) st
      | some true => obind2 (sem P cf d.o.op d.o.type d.cl (evOdD V tm) d.ods st) fun v st' => runG P cf tm r (V.set d.idx v) st'
def guessOf (P : Program) (tm V : Tr AV) : List DOp → Option (List (List AV × Nat))
  | [] => some []
  | d :: r => bif isBuild d then obind (csOf P tm V d) fun g => obind (guessOf P tm V r) fun gs => some (g :: gs) else guessOf P tm V r
def guess (P : Program) (cf : CallF) (tm : Tr AV) (pl : List DOp) (b : Bool) (st : St) : Option (List (List AV × Nat)) :=
  bsel b (obind2 (layG P pl .e st) fun V st1 => obind (runG P cf tm pl V st1) fun V' => guessOf P tm V' pl) (some [])

def nth {α : Type} : List α → Nat → Option α
  | [], _ => none
  | x :: xs, n => bif Nat.beq n 0 then some x else nth xs (Nat.sub n 1)

/-- what is a guard is asked where it is made; the answer is noted -/
def memN (i : Nat) : List Nat → Bool
  | [] => false
  | a :: r => bsel (Nat.beq i a) true (memN i r)
def gdsOf : List DOp → List Nat
  | [] => []
  | d :: r => match d.gd with
    | some (.l j, _) => j :: gdsOf r
    | _ => gdsOf r
def askG (isg : Bool) (v : AV) (c seen orc : List Pn × List Bool) : Option (AV × List Pn × List Bool) := bsel isg (match v with
  | .x (.b b) => (match orc.2 with
    | [] => none
    | d :: o => some (.b d, (b = d) :: c.1, o))
  | v => some (v, c.1, orc.2)) (some (v, c.1, orc.2))
/-- the run in the order of the plan; the states, the last one first, and how many they are less one -/
def runD (P : Program) (cf : CallF) (tm : Tr AV) (gl : List Nat) : List DOp → Tr AV → St → List St → Nat → List Pn → List Bool → Option (Tr AV × St × List St × List Pn × List Bool)
  | [], V, st, ss, _, cs, o => some (V, st, ss, cs, o)
  | d :: r, V, st, ss, n, cs, o =>
    match d.cl with
    | 3 => runD P cf tm gl r V st ss n cs o
    | cl => match evGd (evOdD V tm) d.gd with
      | none => none
      | some false => match cl with
        | 2 => runD P cf tm gl r (V.set d.idx undefA) st (st :: ss) (Nat.succ n) cs o
        | _ => runD P cf tm gl r (V.set d.idx undefA) st ss n cs o
      | some true => match cl with
          | 0 => match semP2 P d.o.op d.o.type (evOdD V tm) d.ods with
            | some (v, c) => match askG (memN d.idx gl) v (c, []) (cs ++ st.x.cs, []) ([], o) with
              | some (v, c, o) => runD P cf tm gl r (V.set d.idx v) st ss n (c ++ cs) o
              | none => none
            | none => none
          | 1 => match need (Nat.ble d.low n) 182 (nth ss (Nat.sub n d.low)) with
            | some s => match semR2 P d.o.op (evOdD V tm) d.ods s with
              | some (v, c) => match askG (memN d.idx gl) v (c, []) (cs ++ st.x.cs, []) ([], o) with
                | some (v, c, o) => runD P cf tm gl r (V.set d.idx v) st ss n (c ++ cs) o
                | none => none
              | none => none
            | none => bad 182
          | _ => match semA2 P cf d.o.op (evOdD V tm) d.ods st with
            | some (v, st') => match askG (memN d.idx gl) v ([], []) (cs ++ st.x.cs, []) ([], o) with
              | some (v, c, o) => runD P cf tm gl r (V.set d.idx v) st' (st' :: ss) (Nat.succ n) (c ++ cs) o
              | none => none
            | none => none

/-- is a new variable as it was made? -/
def freshObj (z : List AV) (st : St) (v : AV) : Bool :=
  match v with
  | .ptr o 0 => match st.heap.get o with
    | some (.cells c lim esz false 0) => Nat.beq lim (lenA z) && Nat.beq esz (lenA z) && allOk z && veqL 3 (rd c 0 lim) z
    | _ => false
  | _ => false

/-- is a row as it was built? what is to be so for it -/
def freshRow (cs : List AV) (size : Nat) (st : St) (v : AV) : Option (List Pn) :=
  match v with
  | .sl o 0 _ _ true e => match st.heap.get o with
    | some (.cells c lim esz false 0) => bsel (Nat.beq lim (lenA cs) && Nat.beq esz size && Nat.beq e size) (some (cEq (rd c 0 lim) cs)) (bad 192)
    | _ => bad 193
  | _ => bad 194
def andC (a b : Option (List Pn)) : Option (List Pn) := obind a fun x => obind b fun y => some (x ++ y)
def refreshRow (cs : List AV) (size : Nat) (v : AV) : List St → Option (List Pn)
  | [] => some []
  | s :: r => andC (freshRow cs size s v) (refreshRow cs size v r)

/-- the states between two numbers of heavy operations -/
def between (ss : List St) (low high : Nat) : List St := (ss.drop low).take (Nat.succ (Nat.sub high low))

def cEqB (v u : AV) : List Pn := match v, u with
  | .x (.b c), .b d => [c = d]
  | v, u => cEq [v] [u]
def setOrc (st : St) (o : List Bool) : St := match st with
  | .mk h nx wm (.mk rows cs _) => .mk h nx wm (.mk rows cs o)
def rereads (P : Program) (op : Op) (ev : Od → Option AV) (ds : List Od) (u : AV) : List St → Option (List Pn)
  | [] => some []
  | s :: r => andC (obind2 (semR2 P op ev ds s) fun v c => some (cEqB v u ++ c)) (rereads P op ev ds u r)
def refresh (z : List AV) (v : AV) : List St → Bool
  | [] => true
  | s :: r => freshObj z s v && refresh z v r
def okC0 (b : Bool) : Option (List Pn) := bsel b (some []) (bad 195)

def recheck (P : Program) (tm V : Tr AV) (ss : List St) (d : DOp) : Option (List Pn) :=
  match d.cl with
  | 1 => bif Nat.ble d.high d.low then some [] else match evGd (evOdD V tm) d.gd with
    | some true => match V.get d.idx with
      | some u => rereads P d.o.op (evOdD V tm) d.ods u (between ss (Nat.succ d.low) d.high)
      | _ => none
    | some false => some []
    | none => none
  | 3 => match evGd (evOdD V tm) d.gd with
   | some true => (match d.o.op with
    | .alloc t => match zeroT P t, V.get d.idx with
      | some z, some v => okC0 (refresh (acells z) v (between ss d.low d.high))
      | _, _ => none
    | .buildSlice _ _ _ => match csOf P tm V d, V.get d.idx with
      | some g, some v => refreshRow g.1 g.2 v (between ss d.low d.high)
      | _, _ => none
    | _ => none)
   | _ => bad 196
  | _ => some []
def recheckAll (P : Program) (tm V : Tr AV) (ss : List St) : List DOp → Option (List Pn)
  | [] => some []
  | d :: r => andC (recheck P tm V ss d) (recheckAll P tm V ss r)

def exportD (X : Nat) (V : Tr AV) : List DOp → Tr AV → Option (Tr AV)
  | [], tm => some tm
  | d :: r, tm => match d.o.dst with
    | some t => bif bit X t then match V.get d.idx with
        | some v => exportD X V r (tm.set t v)
        | none => none
      else exportD X V r tm
    | none => exportD X V r tm

/-- what is asked and noted in a drawn region, beneath what its calls note -/
def putC (st0 st : St) (c : List Pn) : St := match st with
  | .mk h nx wm (.mk rows cs orc) => .mk h nx wm (.mk rows (cs.take (Nat.sub cs.length st0.x.cs.length) ++ (c ++ st0.x.cs)) orc)
def evDraw (P : Program) (cf : CallF) (X : Nat) (pl : List DOp) (ok : Bool) (tm : Tr AV) (st : St) : Option (Tr AV × St) :=
  bif ok then
    match guess P cf tm pl (pl.any isBuild) st with
    | none => none
    | some gs => match layAllocs P pl gs .e st with
    | none => none
    | some (V0, st0) => match runD P cf tm (gdsOf pl) pl V0 st0 [st0] 0 [] st.x.orc with
      | none => none
      | some (V, st', ss, cs, o) => obind (recheckAll P tm V ss.reverse pl) fun c2 => obind (exportD X V pl tm) fun tm' => some (tm', setOrc (putC st st' (c2 ++ cs)) o)
  else bad 191

/-! ## code -/
inductive ICode where
  | skip
  | reg (ops : List IOp) (exps : List (Nat × Nat))
  | draw (X : Nat) (pl : List DOp) (ok : Bool)
  | seq (a b : ICode)
  | cond (c : Od) (a b : ICode)
  | block (id : Nat) (a : ICode)
  | loop (k : Nat) (a : ICode)
  | exit (id : Nat)
  | ret
  | no

def dstsOf (ops : Array Oper) : List (Option Nat) := (ops.toList.map (·.dst)).reverse
/-- every target is a slot of the frame -/
def dstsIn (nt : Nat) : List Oper → Bool
  | [] => true
  | o :: r => (match o.dst with | some t => Nat.blt t nt | none => true) && dstsIn nt r

/-- how many loops -/
def loopsIn : Code → Nat
  | .seq a b => Nat.add (loopsIn a) (loopsIn b)
  | .cond _ a b => Nat.add (loopsIn a) (loopsIn b)
  | .block _ a => loopsIn a
  | .loop a => Nat.succ (loopsIn a)
  | _ => 0
/-- a loop by its number -/
def nthLoop : Code → Nat → Option Code
  | .seq a b, k => bsel (Nat.blt k (loopsIn a)) (nthLoop a k) (nthLoop b (Nat.sub k (loopsIn a)))
  | .cond _ a b, k => bsel (Nat.blt k (loopsIn a)) (nthLoop a k) (nthLoop b (Nat.sub k (loopsIn a)))
  | .block _ a, k => nthLoop a k
  | .loop a, k => bsel (Nat.beq k 0) (some a) (nthLoop a (Nat.sub k 1))
  | _, _ => none
def comp (P : Program) (X nt : Nat) : Nat → Code → ICode
  | _, .skip => .skip
  | _, .label _ => .skip
  | _, .region _ ops false => bsel (dstsIn nt ops.toList) (.reg (iops P ops ops.toList []) (exps X (dstsOf ops) 0)) .no
  | _, .region _ ops true => .draw X (plan P ops) (bsel (dstsIn nt ops.toList) (planOk ops (plan P ops)) false)
  | k, .seq a b => .seq (comp P X nt k a) (comp P X nt (Nat.add k (loopsIn a)) b)
  | k, .cond c a b => .cond (odOf [] c) (comp P X nt k a) (comp P X nt (Nat.add k (loopsIn a)) b)
  | k, .block id a => .block id (comp P X nt k a)
  | k, .loop a => .loop k (comp P X nt (Nat.succ k) a)
  | _, .exit id => .exit id
  | _, .ret => .ret
  | _, _ => .no

/-- the slots that are read from outside of a region -/
def needOds : List Od → Nat → Nat
  | [], m => m
  | .v t :: r, m => needOds r (withBit m t)
  | _ :: r, m => needOds r m
def needGd : Option (Od × Bool) → Nat → Nat
  | some (.v t, _), m => withBit m t
  | _, m => m
def needIOps : List IOp → Nat → Nat
  | [], m => m
  | .mk _ _ _ ods gd :: r, m => needIOps r (needGd gd (needOds ods m))
def needDOps : List DOp → Nat → Nat
  | [], m => m
  | o :: r, m => needDOps r (needGd o.gd (needOds o.ods m))
def needs (P : Program) : Code → Nat → Nat
  | .region _ ops false, m => needIOps (iops P ops ops.toList []) m
  | .region _ ops true, m => needDOps (plan P ops) m
  | .seq a b, m => needs P b (needs P a m)
  | .cond c a b, m => needs P b (needs P a (needOds [odOf [] c] m))
  | .block _ a, m => needs P a m
  | .loop a, m => needs P a m
  | _, m => m
def needRes : List ResultVar → Nat → Nat
  | [], m => m
  | .tmp t :: r, m => needRes r (withBit m t)
  | .cell a _ :: r, m => needRes r (withBit m a)

/-- how a piece of code ends -/
inductive Res where
  | no
  | ok (tm : Tr AV) (st : St)
  | ex (id : Nat) (tm : Tr AV) (st : St)
  | rt (tm : Tr AV) (st : St)

def Res.andThen (r : Res) (k : Tr AV → St → Res) : Res := Res.rec (motive := fun _ => Res) .no k (fun id tm st => .ex id tm st) (fun tm st => .rt tm st) r
def Res.upto (id : Nat) (r : Res) : Res := Res.rec (motive := fun _ => Res) .no (fun tm st => .ok tm st) (fun id' tm st => bsel (Nat.beq id' id) (.ok tm st) (.ex id' tm st)) (fun tm st => .rt tm st) r
def iter (f : Tr AV → St → Res) (n : Nat) : Tr AV → St → Res :=
  Nat.rec (motive := fun _ => Tr AV → St → Res) (fun _ _ => .no) (fun _ ih tm st => (f tm st).andThen ih) n
theorem iter_zero (f : Tr AV → St → Res) (tm : Tr AV) (st : St) : iter f 0 tm st = .no := rfl
theorem iter_succ (f : Tr AV → St → Res) (n : Nat) (tm : Tr AV) (st : St) : iter f (n + 1) tm st = (f tm st).andThen (iter f n) := rfl
def doCond (v : Option AV) (st : St) (a b : St → Res) : Res := Option.rec (motive := fun _ => Res) .no (fun v => match v with
  | .b x => bsel x (a st) (b st)
  | .x (.b c) => Option.rec (motive := fun _ => Res) .no (fun p => bsel p.1 (a p.2) (b p.2)) (ask c st)
  | _ => .no) v
abbrev LSpec := Tr AV → St → Res
def doLoop (s : Option LSpec) (f : Tr AV → St → Res) : Tr AV → St → Res := Option.rec (motive := fun _ => Tr AV → St → Res) f (fun g => g) s
def ofReg (tm : Tr AV) (ex : List (Nat × Nat)) (r : Option (List AV × St)) : Res :=
  Option.rec (motive := fun _ => Res) .no (fun p => Prod.rec (motive := fun _ => Res) (fun le st => Option.rec (motive := fun _ => Res) .no (fun tm' => .ok tm' st) (export_ le tm ex)) p) r
def ofDraw (r : Option (Tr AV × St)) : Res := Option.rec (motive := fun _ => Res) .no (fun p => Prod.rec (motive := fun _ => Res) (fun tm st => .ok tm st) p) r
def evI (P : Program) (cf : CallF) (lf : Nat) (ls : Nat → Option LSpec) (c : ICode) : Tr AV → St → Res :=
  ICode.rec (motive := fun _ => Tr AV → St → Res)
    (fun tm st => .ok tm st)
    (fun ops ex tm st => ofReg tm ex (evOps P cf tm ops [] st))
    (fun X pl ok tm st => ofDraw (evDraw P cf X pl ok tm st))
    (fun _ _ ha hb tm st => (ha tm st).andThen hb)
    (fun c _ _ ha hb tm st => doCond (evOd [] tm c) st (ha tm) (hb tm))
    (fun id _ ha tm st => (ha tm st).upto id)
    (fun k _ ha tm st => doLoop (ls k) (iter ha lf) tm st)
    (fun id tm st => .ex id tm st)
    (fun tm st => .rt tm st)
    (fun _ _ => .no) c
section
variable (P : Program) (cf : CallF) (lf : Nat) (ls : Nat → Option LSpec) (tm : Tr AV) (st : St)
theorem evI_skip : evI P cf lf ls .skip tm st = .ok tm st := rfl
theorem evI_reg (ops : List IOp) (ex : List (Nat × Nat)) : evI P cf lf ls (.reg ops ex) tm st = ofReg tm ex (evOps P cf tm ops [] st) := rfl
theorem evI_draw (X : Nat) (pl : List DOp) (ok : Bool) : evI P cf lf ls (.draw X pl ok) tm st = ofDraw (evDraw P cf X pl ok tm st) := rfl
theorem evI_seq (a b : ICode) : evI P cf lf ls (.seq a b) tm st = (evI P cf lf ls a tm st).andThen (evI P cf lf ls b) := rfl
theorem evI_cond (c : Od) (a b : ICode) : evI P cf lf ls (.cond c a b) tm st = doCond (evOd [] tm c) st (evI P cf lf ls a tm) (evI P cf lf ls b tm) := rfl
theorem evI_block (id : Nat) (a : ICode) : evI P cf lf ls (.block id a) tm st = (evI P cf lf ls a tm st).upto id := rfl
theorem evI_loop (k : Nat) (a : ICode) : evI P cf lf ls (.loop k a) tm st = doLoop (ls k) (iter (evI P cf lf ls a) lf) tm st := rfl
theorem evI_exit (id : Nat) : evI P cf lf ls (.exit id) tm st = .ex id tm st := rfl
theorem evI_ret : evI P cf lf ls .ret tm st = .rt tm st := rfl
theorem evI_no : evI P cf lf ls .no tm st = .no := rfl
end

def tmOf (l : List AV) : Nat → Tr AV → Tr AV :=
  List.rec (motive := fun _ => Nat → Tr AV → Tr AV) (fun _ t => t) (fun v _ ih k t => ih (Nat.succ k) (t.set k v)) l
theorem tmOf_nil (k : Nat) (t : Tr AV) : tmOf [] k t = t := rfl
theorem tmOf_cons (v : AV) (vs : List AV) (k : Nat) (t : Tr AV) : tmOf (v :: vs) k t = tmOf vs (k + 1) (t.set k v) := rfl

def aResult (P : Program) (tm : Tr AV) (st : St) : ResultVar → Option AV
  | .tmp t => tm.get t
  | .cell a t => obind (tm.get a) (aLoad P st t)
def aResults (P : Program) (tm : Tr AV) (st : St) : List ResultVar → Option (List AV)
  | [] => some []
  | r :: rs => obind (aResult P tm st r) fun v => obind (aResults P tm st rs) fun vs => some (v :: vs)

/-- does a value name objects below a number alone? -/
def below (n : Nat) : AV → Bool
  | .b _ | .i _ _ | .s _ _ | .nilp | .nils | .nilm | .nilf | .nili | .fl _ _ => true
  | .ptr o _ => Nat.blt o n
  | .sl o _ _ _ _ _ => Nat.blt o n
  | .loose o => Nat.blt o n
  | .mp o => Nat.blt o n
  | .ifc _ (.b _) | .ifc _ (.i _ _) | .ifc _ (.s _ _) => true
  | .x (.b _) | .x (.i _ _) | .x (.s _) | .x (.row _ _) => true
  | .x (.own o _ _ _ _ _) => Nat.blt o n
  | _ => false
def allBelow (n : Nat) : List AV → Bool
  | [] => true
  | x :: xs => below n x && allBelow n xs

/-- what a run depends on beside the program: rounds; functions of which it is told what they do -/
abbrev FSpec := List AV → St → Option (AV × St)
structure Cfg where
  lf : Nat
  specs : List (FuncId × FSpec) := []

def specOf (f : Nat) : List (FuncId × FSpec) → Option FSpec
  | [] => none
  | p :: r => bif Nat.beq p.1 f then some p.2 else specOf f r

structure FnI where
  np : Nat
  code : ICode
  res : List ResultVar

inductive FnK where
  | go (f : FnI)
  | none
  | sp (h : FSpec)

def fnI (P : Program) (fn : Func) (c : Code) : FnI :=
  { np := Nat.add fn.params.size fn.nfree, code := comp P (needs P c (needRes fn.results.toList (Nat.sub (Nat.shiftLeft 1 (Nat.add fn.params.size fn.nfree)) 1))) fn.ntmps 0 c, res := fn.results.toList }
def fnOf (P : Program) (f : FuncId) : FnK := match P.funcs.toList[f]? with
  | some fn => match fn.body with
    | some c => .go (fnI P fn c)
    | none => .none
  | none => .none
def fnK (P : Program) (g : Cfg) (f : FuncId) : FnK := match specOf f g.specs with
  | some h => .sp h
  | none => fnOf P f

def ofRes (P : Program) (res : List ResultVar) (tm : Tr AV) (st : St) : Option (AV × St) :=
  match aResults P tm st res with
    | some [v] => some (v, st)
    | some vs => some (.tup vs, st)
    | none => none
def Res.fin (P : Program) (res : List ResultVar) (r : Res) : Option (AV × St) := match r with
  | .ok tm st => ofRes P res tm st
  | .rt tm st => ofRes P res tm st
  | _ => bad 208
def evBody (P : Program) (cf : CallF) (lf : Nat) (ls : Nat → Option LSpec) (F : FnI) (args : List AV) (st : St) : Option (AV × St) :=
  bsel (Nat.beq (lenA args) F.np) ((evI P cf lf ls F.code (tmOf args 0 .e) st).fin P F.res) (bad 209)
def noL : Nat → Option LSpec := fun _ => none

def evCall (P : Program) (g : Cfg) (n : Nat) : CallF :=
  Nat.rec (motive := fun _ => CallF) (fun _ _ _ => none) (fun _ ih f args st => FnK.rec (motive := fun _ => Option (AV × St))
    (fun F => evBody P ih g.lf noL F args st) none (fun h => h args st) (fnK P g f)) n
theorem evCall_zero (P : Program) (g : Cfg) (f : FuncId) (args : List AV) (st : St) : evCall P g 0 f args st = none := rfl
theorem evCall_succ (P : Program) (g : Cfg) (n : Nat) (f : FuncId) (args : List AV) (st : St) : evCall P g (n + 1) f args st = (match fnK P g f with
  | .go F => evBody P (evCall P g n) g.lf noL F args st
  | .none => none
  | .sp h => h args st) := by
  generalize hk : fnK P g f = k
  show FnK.rec (motive := fun _ => Option (AV × St)) (fun F => evBody P (evCall P g n) g.lf noL F args st) none (fun h => h args st) (fnK P g f) = _
  rw [hk]
  cases k <;> rfl
/-- the function's own body, with what is told of its loops -/
def evTop (P : Program) (g : Cfg) (n : Nat) (ls : Nat → Option LSpec) (f : FuncId) (args : List AV) (st : St) : Option (AV × St) := match fnOf P f with
  | .go F => evBody P (evCall P g n) g.lf ls F args st
  | _ => bad 205

end
end Go.Proofs.Ytkccnomdfkhfnaa.Ev
