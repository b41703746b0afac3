/- What functions of the program compute, written down; read off their code. -/
import GoSem.Dispatch
import GoSem.Core.Region
import GoSem.Machine.Frame
set_option linter.unusedSimpArgs false
set_option linter.unusedVariables false
namespace Go.Proofs.Ytkccnomdfkhfnaa.Ev

/-! ## data: what one cell holds, what an element of a row is -/
mutual
inductive LT where
  | int (k : IntKind)
  | bool
  | str
  | row (e : ET)
inductive ET where
  | one (l : LT)
  | cons (l : LT) (e : ET)
end
mutual
def LT.T : LT → Type
  | .int _ => Int
  | .bool => Bool
  | .str => List UInt8
  | .row e => List e.T
def ET.T : ET → Type
  | .one l => l.T
  | .cons l e => l.T × e.T
end
mutual
def LT.z : (l : LT) → l.T
  | .int _ => (0 : Int)
  | .bool => false
  | .str => ([] : List UInt8)
  | .row _ => []
def ET.z : (e : ET) → e.T
  | .one l => l.z
  | .cons l e => (l.z, e.z)
end
def ET.sz : ET → Nat
  | .one _ => 1
  | .cons _ e => Nat.succ e.sz
theorem ET.sz_pos : ∀ e : ET, 1 ≤ e.sz
  | .one _ => Nat.le_refl _
  | .cons _ e => Nat.succ_le_succ (Nat.zero_le _)
/-- the bytes of an element -/
def LT.by : LT → Nat
  | .int k => match k with
    | .i8 => 1 | .u8 => 1 | .i16 => 2 | .u16 => 2 | .i32 => 4 | .u32 => 4 | .i64 => 8 | .u64 => 8
  | .bool => 1
  | .str => 16
  | .row _ => 24
def ET.by : ET → Nat
  | .one l => l.by
  | .cons l e => l.by + e.by
theorem LT.by_pos (l : LT) : 1 ≤ l.by := by cases l <;> simp [LT.by] <;> split <;> omega
theorem ET.by_pos : ∀ e : ET, 1 ≤ e.by
  | .one l => l.by_pos
  | .cons l e => by have := l.by_pos; simp only [ET.by]; omega

/-- blocks that are never written again -/
abbrev Fz := Nat → Option (Array Value)
def InR (k : IntKind) (n : Int) : Prop := k.wrap n = n

/-- room of a row -/
def Room : Nat := 140737488351232

mutual
def decL (fz : Fz) : (l : LT) → l.T → Value → Prop
  | .int k, x, v => v = .int k x ∧ InR k x
  | .bool, x, v => v = .bool x
  | .str, x, v => v = .string ⟨⟨x⟩⟩ ∧ List.length x ≤ Room
  | .row e, xs, v => ∃ a c, v = .slice a (List.length xs) c ∧ List.length xs ≤ c ∧ List.length xs * e.by ≤ Room ∧ (List.length xs = 0 ∨ ∃ b off cs, a = some ⟨b, off, none⟩ ∧ fz b = some cs ∧
      off + c * e.sz ≤ cs.size ∧ ∀ (i : Nat) (x : e.T), (show List e.T from xs)[i]? = some x → decE fz e x cs (off + i * e.sz))
def decE (fz : Fz) : (e : ET) → e.T → Array Value → Nat → Prop
  | .one l, x, cs, p => ∃ v, cs[p]? = some v ∧ decL fz l x v
  | .cons l e, x, cs, p => (∃ v, cs[p]? = some v ∧ decL fz l x.1 v) ∧ decE fz e x.2 cs (p + 1)
end

def FzExt (f g : Fz) : Prop := ∀ b cs, f b = some cs → g b = some cs
theorem FzExt.refl (f : Fz) : FzExt f f := fun _ _ h => h
theorem FzExt.trans {f g h : Fz} (a : FzExt f g) (b : FzExt g h) : FzExt f h := fun x cs e => b x cs (a x cs e)

mutual
theorem decL_ext {f g : Fz} (h : FzExt f g) : ∀ (l : LT) (x : l.T) (v : Value), decL f l x v → decL g l x v
  | .int k, x, v, e => by simpa only [decL] using e
  | .bool, x, v, e => by simpa only [decL] using e
  | .str, x, v, e => by simpa only [decL] using e
  | .row e, xs, v, q => by
    simp only [decL] at q ⊢
    obtain ⟨a, c, h1, h2, h3, h4⟩ := q
    refine ⟨a, c, h1, h2, h3, h4.imp id fun ⟨b, off, cs, g1, g2, g3, g4⟩ => ⟨b, off, cs, g1, h b cs g2, g3, fun i x hx => decE_ext h e x cs _ (g4 i x hx)⟩⟩
theorem decE_ext {f g : Fz} (h : FzExt f g) : ∀ (e : ET) (x : e.T) (cs : Array Value) (p : Nat), decE f e x cs p → decE g e x cs p
  | .one l, x, cs, p, q => by
    simp only [decE] at q ⊢
    obtain ⟨v, h1, h2⟩ := q
    exact ⟨v, h1, decL_ext h l x v h2⟩
  | .cons l e, x, cs, p, q => by
    simp only [decE] at q ⊢
    obtain ⟨⟨v, h1, h2⟩, h3⟩ := q
    exact ⟨⟨v, h1, decL_ext h l x.1 v h2⟩, decE_ext h e x.2 cs _ h3⟩
end

/- one type for another, if they are the same -/
mutual
def eqLT : (a b : LT) → Option (PLift (a = b))
  | .int k, .int j => if h : k = j then some ⟨congrArg LT.int h⟩ else none
  | .bool, .bool => some ⟨rfl⟩
  | .str, .str => some ⟨rfl⟩
  | .row e, .row f => match eqET e f with
    | some h => some ⟨congrArg LT.row h.down⟩
    | none => none
  | _, _ => none
def eqET : (a b : ET) → Option (PLift (a = b))
  | .one l, .one m => match eqLT l m with
    | some h => some ⟨congrArg ET.one h.down⟩
    | none => none
  | .cons l e, .cons m f => match eqLT l m, eqET e f with
    | some h, some g => some ⟨by rw [h.down, g.down]⟩
    | _, _ => none
  | _, _ => none
end
def castE {a b : ET} (h : a = b) (x : List a.T) : List b.T := Eq.rec (motive := fun c _ => List c.T) x h

end Go.Proofs.Ytkccnomdfkhfnaa.Ev
