/- What functions of the program compute, written down; read off their code. -/
import Derived.Test.YtkccnomdfkhfnaaEvDefs
import Derived.Orders
import Derived.Below
set_option linter.unusedSimpArgs false
set_option linter.unusedVariables false
namespace Go.Proofs.Ytkccnomdfkhfnaa.Ev
open Go.RowKit

/-! ## tries -/
theorem Tr.get_set_same {α : Type} (t : Tr α) (k : Nat) (a : α) : (t.set k a).get k = some a := by rw [Tr.get_set]; simp
theorem Tr.get_set_ne {α : Type} (t : Tr α) {k k' : Nat} (a : α) (h : k' ≠ k) : (t.set k a).get k' = t.get k' := by rw [Tr.get_set, if_neg h]

/-! ## places and values -/
/-- where an object lies: its block, the abstract number of its first cell, that cell's place, the cells of an element, of the block -/
structure Place where
  blk : Nat
  lo : Nat
  base : Nat
  esz : Nat
  size : Nat

def Place.at_ (p : Place) (k : Nat) : Nat := p.base + (k - p.lo)
/-- where a row of one's own lies: its version, how many elements, room for how many, its block and first cell -/
structure RowAt where
  ver : Nat
  len : Nat
  cap : Nat
  at_ : Option (Nat × Nat)
/-- the places of objects, the blocks that are never written again, the rows of one's own; those of the blocks that were so at the start; the blocks that the run is to leave as they are -/
structure Mu where
  pl : Nat → Option Place
  fz : Fz
  own : Nat → Option RowAt
  f0 : Fz
  kp : Nat → Option Obj
instance : CoeFun Mu (fun _ => Nat → Option Place) := ⟨Mu.pl⟩
def OwnExt (f g : Nat → Option RowAt) : Prop := ∀ o r, f o = some r → ∃ r', g o = some r' ∧ r.ver ≤ r'.ver ∧ (r.ver = r'.ver → r' = r)
structure Ext (μ μ' : Mu) : Prop where
  pl : ∀ o p, μ o = some p → μ' o = some p
  fz : FzExt μ.fz μ'.fz
  own : OwnExt μ.own μ'.own
  f0 : μ'.f0 = μ.f0
  kp : μ'.kp = μ.kp
instance {μ μ' : Mu} : CoeFun (Ext μ μ') (fun _ => ∀ o p, μ o = some p → μ' o = some p) := ⟨Ext.pl⟩

theorem OwnExt.refl (f : Nat → Option RowAt) : OwnExt f f := fun o r h => ⟨r, h, Nat.le_refl _, fun _ => rfl⟩
theorem OwnExt.trans {f g h : Nat → Option RowAt} (a : OwnExt f g) (b : OwnExt g h) : OwnExt f h := fun o r e => by
  obtain ⟨r1, h1, h2, h3⟩ := a o r e
  obtain ⟨r2, g1, g2, g3⟩ := b o r1 h1
  refine ⟨r2, g1, Nat.le_trans h2 g2, fun q => ?_⟩
  have e1 : r.ver = r1.ver := by omega
  have e2 : r1.ver = r2.ver := by omega
  rw [g3 e2, h3 e1]
theorem Ext.refl (μ : Mu) : Ext μ μ := ⟨fun _ _ h => h, FzExt.refl _, OwnExt.refl _, rfl, rfl⟩
theorem Ext.trans {a b c : Mu} (h : Ext a b) (k : Ext b c) : Ext a c := ⟨fun o p e => k.pl o p (h.pl o p e), h.fz.trans k.fz, h.own.trans k.own, k.f0.trans h.f0, k.kp.trans h.kp⟩

/-- the slice of a row of one's own from an element on -/
def RowAt.val (r : RowAt) (sz lo n : Nat) : Value := .slice (r.at_.map fun a => ⟨a.1, a.2 + lo * sz, none⟩) n (r.cap - lo)
def vrX (μ : Mu) : SX → Value → Prop
  | .b x, v => v = .bool x
  | .i k n, v => v = .int k n ∧ InR k n
  | .s l, v => v = .string ⟨⟨l⟩⟩ ∧ l.length ≤ Room
  | .row e xs, v => decL μ.fz (.row e) xs v
  | .own o ver e fu lo n, v => ∃ r, μ.own o = some r ∧ ver ≤ r.ver ∧ (∃ a c, v = .slice a n c ∧ n ≤ c ∧ (n = 0 ∨ ∃ b off, a = some ⟨b, off, none⟩)) ∧ n * e.by ≤ Room ∧
      (ver = r.ver → (lo = 0 ∨ 0 < n → v = r.val e.sz lo n) ∧ lo + n ≤ r.len ∧ (fu = true → lo = 0 ∧ n = r.len))
  | .rp e xs i j, v => ∃ b off cs x, v = .pointer (some ⟨b, off + j, none⟩) ∧ μ.fz b = some cs ∧ xs[i]? = some x ∧ decE μ.fz e x cs off
  | .op o ver e i j, v => ∃ r, μ.own o = some r ∧ ver ≤ r.ver ∧ (∃ b k, v = .pointer (some ⟨b, k, none⟩)) ∧ (ver = r.ver → i < r.len ∧ ∃ b off, r.at_ = some (b, off) ∧ v = .pointer (some ⟨b, off + i * e.sz + j, none⟩))
theorem vrX_ext {μ μ' : Mu} (h : Ext μ μ') : ∀ (s : SX) (v : Value), vrX μ s v → vrX μ' s v
  | .b _, v, e => e
  | .i _ _, v, e => e
  | .s _, v, e => e
  | .row e xs, v, q => decL_ext h.fz _ _ _ q
  | .own o ver e fu lo n, v, q => by
    obtain ⟨r, h1, h2, h3, h4, h5⟩ := q
    obtain ⟨r', g1, g2, g3⟩ := h.own o r h1
    refine ⟨r', g1, Nat.le_trans h2 g2, h3, h4, fun k => ?_⟩
    have e1 : r.ver = r'.ver := by omega
    rw [g3 e1]; exact h5 (by omega)
  | .rp e xs i j, v, q => by
    obtain ⟨b, off, cs, x, h1, h2, h3, h4⟩ := q
    exact ⟨b, off, cs, x, h1, h.fz _ _ h2, h3, decE_ext h.fz _ _ _ _ h4⟩
  | .op o ver e i j, v, q => by
    obtain ⟨r, h1, h2, h3, h4⟩ := q
    obtain ⟨r', g1, g2, g3⟩ := h.own o r h1
    refine ⟨r', g1, Nat.le_trans h2 g2, h3, fun k => ?_⟩
    have e1 : r.ver = r'.ver := by omega
    rw [g3 e1]; exact h4 (by omega)
/-- it stands in one cell -/
theorem vrX_one {μ : Mu} {s : SX} {v : Value} (h : vrX μ s v) : v.cells.toList = [v] ∧ (∀ xs, v ≠ .agg xs) ∧ ∀ xs, v ≠ .tuple xs := by
  have key : (∀ xs, v ≠ .agg xs) ∧ ∀ xs, v ≠ .tuple xs := by
    cases s <;> simp only [vrX] at h
    case b => subst h; exact ⟨fun _ => nofun, fun _ => nofun⟩
    case i => obtain ⟨rfl, _⟩ := h; exact ⟨fun _ => nofun, fun _ => nofun⟩
    case s => obtain ⟨rfl, _⟩ := h; exact ⟨fun _ => nofun, fun _ => nofun⟩
    case row => simp only [decL] at h; obtain ⟨a, c, rfl, _⟩ := h; exact ⟨fun _ => nofun, fun _ => nofun⟩
    case own => obtain ⟨r, _, _, ⟨a, c, rfl, _⟩, _⟩ := h; exact ⟨fun _ => nofun, fun _ => nofun⟩
    case rp => obtain ⟨b, off, cs, x, rfl, _⟩ := h; exact ⟨fun _ => nofun, fun _ => nofun⟩
    case op => obtain ⟨r, _, _, ⟨a, k, rfl⟩, _⟩ := h; exact ⟨fun _ => nofun, fun _ => nofun⟩
  refine ⟨?_, key⟩
  cases v <;> first | rfl | exact absurd rfl (key.1 _)

mutual
def vr (μ : Mu) : AV → Value → Prop
  | .b x, v => v = .bool x
  | .i k n, v => v = .int k n
  | .s len code, v => ∃ l : List UInt8, v = .string ⟨⟨l⟩⟩ ∧ l.length = len ∧ enc l = code
  | .nilp, v => v = .pointer none
  | .ptr o k, v => ∃ p, μ o = some p ∧ p.lo ≤ k ∧ v = .pointer (some ⟨p.blk, p.at_ k, none⟩)
  | .nils, v => v = .slice none 0 0
  | .sl o k len cap kn e, v => ∃ p c, μ o = some p ∧ p.lo ≤ k ∧ v = .slice (some ⟨p.blk, p.at_ k, none⟩) len c ∧ p.esz = e ∧ cap ≤ c ∧ (kn = true → c = cap) ∧ len ≤ c ∧ p.at_ k + c * e ≤ p.size
  | .loose o, v => ∃ p c off, μ o = some p ∧ v = .slice (some ⟨p.blk, off, none⟩) 0 c
  | .nilm, v => v = .map none
  | .mp o, v => ∃ p, μ o = some p ∧ v = .map (some p.blk)
  | .fn f a b, v => ∃ xs ys, v = .func (.func f) ⟨xs⟩ ⟨ys⟩ ∧ vrL μ a xs ∧ vrL μ b ys
  | .nilf, v => v = .nilFunc
  | .ifc t a, v => ∃ w, v = .iface t w ∧ vr μ a w
  | .nili, v => v = .nilIface
  | .agg l, v => ∃ xs, v = .agg ⟨xs⟩ ∧ vrL μ l xs
  | .tup l, v => ∃ xs, v = .tuple ⟨xs⟩ ∧ vrL μ l xs
  | .fl k b, v => v = .float k b
  | .top, _ => True
  | .lb n, v => ∃ c : Nat, n ≤ c ∧ v = .int .i64 (Int.ofNat c)
  | .neg, v => ∃ c : Nat, v = .int .i64 (Int.negSucc c)
  | .sn l, v => ∃ s : List UInt8, v = .string ⟨⟨s⟩⟩ ∧ ∀ p ∈ l, ¬ (s.length = p.1 ∧ enc s = p.2)
  | .x s, v => vrX μ s v
  | .alt it g l, v => ∃ p, (μ g = some p ∧ ∃ q, μ it = some q) ∧ ((∀ xs, v ≠ .agg xs) ∧ ∀ xs, v ≠ .tuple xs) ∧ vrN μ l p.lo v
def vrL (μ : Mu) : List AV → List Value → Prop
  | [], vs => vs = []
  | a :: as, vs => ∃ v r, vs = v :: r ∧ vr μ a v ∧ vrL μ as r
def vrN (μ : Mu) : List AV → Nat → Value → Prop
  | [], _, _ => False
  | a :: _, 0, v => vr μ a v
  | _ :: as, n + 1, v => vrN μ as n v
end
theorem vrN_get {μ : Mu} : ∀ {l : List AV} {n : Nat} {v : Value}, vrN μ l n v ↔ ∃ a, l[n]? = some a ∧ vr μ a v
  | [], n, v => by simp [vrN]
  | a :: as, 0, v => by simp [vrN]
  | a :: as, n + 1, v => by simp only [vrN, List.getElem?_cons_succ]; exact vrN_get

theorem vrL_cons {μ : Mu} {a : AV} {as : List AV} {v : Value} {vs : List Value} : vrL μ (a :: as) (v :: vs) ↔ vr μ a v ∧ vrL μ as vs := by
  simp only [vrL]
  constructor
  · rintro ⟨v', r, h, h1, h2⟩; cases h; exact ⟨h1, h2⟩
  · rintro ⟨h1, h2⟩; exact ⟨v, vs, rfl, h1, h2⟩
theorem vrL_nil {μ : Mu} {vs : List Value} : vrL μ [] vs ↔ vs = [] := by simp only [vrL]

mutual
theorem vr_ext {μ μ' : Mu} (h : Ext μ μ') : ∀ (a : AV) (v : Value), vr μ a v → vr μ' a v
  | .b _, v, e => by simpa only [vr] using e
  | .i _ _, v, e => by simpa only [vr] using e
  | .s _ _, v, e => by simpa only [vr] using e
  | .nilp, v, e => by simpa only [vr] using e
  | .ptr o k, v, e => by
    simp only [vr] at e ⊢
    obtain ⟨p, h1, h2⟩ := e
    exact ⟨p, h _ _ h1, h2⟩
  | .nils, v, e => by simpa only [vr] using e
  | .sl o k len cap kn es, v, e => by
    simp only [vr] at e ⊢
    obtain ⟨p, c, h1, h2⟩ := e
    exact ⟨p, c, h _ _ h1, h2⟩
  | .loose o, v, e => by
    simp only [vr] at e ⊢
    obtain ⟨p, c, off, h1, h2⟩ := e
    exact ⟨p, c, off, h _ _ h1, h2⟩
  | .nilm, v, e => by simpa only [vr] using e
  | .mp o, v, e => by
    simp only [vr] at e ⊢
    obtain ⟨p, h1, h2⟩ := e
    exact ⟨p, h _ _ h1, h2⟩
  | .fn f a b, v, e => by
    simp only [vr] at e ⊢
    obtain ⟨xs, ys, h1, h2, h3⟩ := e
    exact ⟨xs, ys, h1, vrL_ext h a xs h2, vrL_ext h b ys h3⟩
  | .nilf, v, e => by simpa only [vr] using e
  | .ifc t a, v, e => by
    simp only [vr] at e ⊢
    obtain ⟨w, h1, h2⟩ := e
    exact ⟨w, h1, vr_ext h a w h2⟩
  | .nili, v, e => by simpa only [vr] using e
  | .agg l, v, e => by
    simp only [vr] at e ⊢
    obtain ⟨xs, h1, h2⟩ := e
    exact ⟨xs, h1, vrL_ext h l xs h2⟩
  | .tup l, v, e => by
    simp only [vr] at e ⊢
    obtain ⟨xs, h1, h2⟩ := e
    exact ⟨xs, h1, vrL_ext h l xs h2⟩
  | .fl _ _, v, e => by simpa only [vr] using e
  | .top, v, e => by simp only [vr]
  | .lb n, v, e => by simpa only [vr] using e
  | .neg, v, e => by simpa only [vr] using e
  | .sn _, v, e => by simpa only [vr] using e
  | .x s, v, e => by simp only [vr] at e ⊢; exact vrX_ext h s v e
  | .alt it g l, v, e => by
    simp only [vr] at e ⊢
    obtain ⟨p, ⟨h1, q, hq⟩, h0, h2⟩ := e
    exact ⟨p, ⟨h _ _ h1, q, h _ _ hq⟩, h0, vrN_ext h l _ _ h2⟩
theorem vrN_ext {μ μ' : Mu} (h : Ext μ μ') : ∀ (l : List AV) (n : Nat) (v : Value), vrN μ l n v → vrN μ' l n v
  | [], n, v, e => by simp only [vrN] at e
  | a :: as, 0, v, e => by simp only [vrN] at e ⊢; exact vr_ext h a v e
  | a :: as, n + 1, v, e => by simp only [vrN] at e ⊢; exact vrN_ext h as n v e
theorem vrL_ext {μ μ' : Mu} (h : Ext μ μ') : ∀ (l : List AV) (vs : List Value), vrL μ l vs → vrL μ' l vs
  | [], vs, e => by simpa only [vrL] using e
  | a :: as, vs, e => by
    simp only [vrL] at e ⊢
    obtain ⟨v, r, h1, h2, h3⟩ := e
    exact ⟨v, r, h1, vr_ext h a v h2, vrL_ext h as r h3⟩
end

/-! ## lists of values -/
theorem vrL_length {μ : Mu} : ∀ (l : List AV) (vs : List Value), vrL μ l vs → vs.length = l.length
  | [], vs, h => by simp only [vrL] at h; subst h; rfl
  | a :: as, vs, h => by
    simp only [vrL] at h
    obtain ⟨v, r, rfl, _, h3⟩ := h
    simp [vrL_length as r h3]
theorem vrL_app {μ : Mu} : ∀ (l l' : List AV) (vs vs' : List Value), vrL μ l vs → vrL μ l' vs' → vrL μ (l ++ l') (vs ++ vs')
  | [], l', vs, vs', h, h' => by simp only [vrL] at h; subst h; simpa using h'
  | a :: as, l', vs, vs', h, h' => by
    simp only [vrL] at h
    obtain ⟨v, r, rfl, h2, h3⟩ := h
    exact vrL_cons.2 ⟨h2, vrL_app as l' r vs' h3 h'⟩
theorem vrL_get {μ : Mu} : ∀ (l : List AV) (vs : List Value), vrL μ l vs → ∀ (i : Nat) (a : AV), l[i]? = some a → ∃ v, vs[i]? = some v ∧ vr μ a v
  | [], vs, h, i, a, e => by simp at e
  | b :: as, vs, h, i, a, e => by
    simp only [vrL] at h
    obtain ⟨v, r, rfl, h2, h3⟩ := h
    cases i with
    | zero => simp at e; subst e; exact ⟨v, by simp, h2⟩
    | succ i => simp at e; simpa using vrL_get as r h3 i a e
theorem vrL_take {μ : Mu} : ∀ (n : Nat) (l : List AV) (vs : List Value), vrL μ l vs → vrL μ (l.take n) (vs.take n)
  | 0, l, vs, h => by simp [vrL]
  | n + 1, [], vs, h => by simp only [vrL] at h; subst h; simp [vrL]
  | n + 1, a :: as, vs, h => by
    simp only [vrL] at h
    obtain ⟨v, r, rfl, h2, h3⟩ := h
    simpa using vrL_cons.2 ⟨h2, vrL_take n as r h3⟩
theorem vrL_drop {μ : Mu} : ∀ (n : Nat) (l : List AV) (vs : List Value), vrL μ l vs → vrL μ (l.drop n) (vs.drop n)
  | 0, l, vs, h => by simpa using h
  | n + 1, [], vs, h => by simp only [vrL] at h; subst h; simp [vrL]
  | n + 1, a :: as, vs, h => by
    simp only [vrL] at h
    obtain ⟨v, r, rfl, h2, h3⟩ := h
    simpa using vrL_drop n as r h3
theorem vrL_of_get {μ : Mu} : ∀ (l : List AV) (vs : List Value), l.length = vs.length → (∀ (i : Nat) (a : AV) (v : Value), l[i]? = some a → vs[i]? = some v → vr μ a v) → vrL μ l vs
  | [], vs, h, _ => by simp only [vrL]; exact List.eq_nil_of_length_eq_zero (by simpa using h.symm)
  | a :: as, [], h, _ => by simp at h
  | a :: as, v :: vs, h, hg => vrL_cons.2 ⟨hg 0 a v (by simp) (by simp), vrL_of_get as vs (by simpa using h) fun i b u hb hu => hg (i + 1) b u (by simpa using hb) (by simpa using hu)⟩

/-- the cells of a value that is a struct or array, or one cell -/
theorem acells_vr {μ : Mu} {a : AV} {v : Value} (h : vr μ a v) (hok : a ≠ .top) : vrL μ (acells a) v.cells.toList := by
  cases a <;> simp only [vr] at h <;> simp only [acells]
  case agg l => obtain ⟨xs, rfl, h⟩ := h; exact h
  case top => exact absurd rfl hok
  case s => obtain ⟨l, rfl, h1, h2⟩ := h; exact vrL_cons.2 ⟨by simp only [vr]; exact ⟨l, rfl, h1, h2⟩, by simp [vrL]⟩
  case ptr o k => obtain ⟨p, h1, h2, rfl⟩ := h; exact vrL_cons.2 ⟨by simp only [vr]; exact ⟨p, h1, h2, rfl⟩, by simp [vrL]⟩
  case sl => obtain ⟨p, c, h1, h2, rfl, h3⟩ := h; exact vrL_cons.2 ⟨by simp only [vr]; exact ⟨p, c, h1, h2, rfl, h3⟩, by simp [vrL]⟩
  case loose => obtain ⟨p, c, off, h1, rfl⟩ := h; exact vrL_cons.2 ⟨by simp only [vr]; exact ⟨p, c, off, h1, rfl⟩, by simp [vrL]⟩
  case mp => obtain ⟨p, h1, rfl⟩ := h; exact vrL_cons.2 ⟨by simp only [vr]; exact ⟨p, h1, rfl⟩, by simp [vrL]⟩
  case fn => obtain ⟨xs, ys, rfl, h1, h2⟩ := h; exact vrL_cons.2 ⟨by simp only [vr]; exact ⟨xs, ys, rfl, h1, h2⟩, by simp [vrL]⟩
  case ifc => obtain ⟨w, rfl, h1⟩ := h; exact vrL_cons.2 ⟨by simp only [vr]; exact ⟨w, rfl, h1⟩, by simp [vrL]⟩
  case tup => obtain ⟨xs, rfl, h1⟩ := h; exact vrL_cons.2 ⟨by simp only [vr]; exact ⟨xs, rfl, h1⟩, by simp [vrL]⟩
  case lb => obtain ⟨c, h1, rfl⟩ := h; exact vrL_cons.2 ⟨by simp only [vr]; exact ⟨c, h1, rfl⟩, by simp [vrL]⟩
  case neg => obtain ⟨c, rfl⟩ := h; exact vrL_cons.2 ⟨by simp only [vr]; exact ⟨c, rfl⟩, by simp [vrL]⟩
  case sn => obtain ⟨c, rfl, h1⟩ := h; exact vrL_cons.2 ⟨by simp only [vr]; exact ⟨c, rfl, h1⟩, by simp [vrL]⟩
  case x s => rw [(vrX_one h).1]; exact vrL_cons.2 ⟨by simp only [vr]; exact h, by simp [vrL]⟩
  case alt it g l =>
    obtain ⟨p, h1, h0, h2⟩ := h
    have hv : v.cells.toList = [v] := by cases v <;> first | rfl | exact absurd rfl (h0.1 _)
    rw [hv]
    exact vrL_cons.2 ⟨by simp only [vr]; exact ⟨p, h1, h0, h2⟩, by simp [vrL]⟩
  all_goals (subst h; exact vrL_cons.2 ⟨by simp only [vr], by simp [vrL]⟩)


/-! ## running -/
theorem run_pure {α : Type} (P : Program) (a : α) (w : World) : (Pure.pure a : Sem α).run P w = .ok a w := rfl

theorem run_bind {α β : Type} (P : Program) (s : Sem α) (f : α → Sem β) (w : World) :
    (s.bind f).run P w = match s.run P w with | .ok a w' => (f a).run P w' | .halt h w' => .halt h w' := by
  induction s generalizing w with
  | pure a => rfl
  | load m a k ih =>
    simp only [Sem.bind, Sem.run]
    split
    · exact ih _ _
    · split
      · exact ih _ _
      · rfl
  | store m a v k ih => cases v <;> simp only [Sem.bind, Sem.run] <;> first | rfl | (repeat' split) <;> first | rfl | exact ih _ | simp_all
  | new o k ih => exact ih _ _
  | shape r k ih => exact ih _ _
  | freeze a n k ih => exact ih _
  | frozen a k ih => exact ih _ _
  | getObj r k ih => simp only [Sem.bind, Sem.run]; split <;> first | rfl | exact ih _ _
  | setObj r o k ih => simp only [Sem.bind, Sem.run]; split <;> first | rfl | exact ih _
  | choose q k ih => simp only [Sem.bind, Sem.run]; split <;> exact ih _ _
  | sys c k ih => exact ih _ _
  | program k ih => exact ih _ _
  | mark m k ih => exact ih _
  | halt h => rfl

theorem run_bind' {α β : Type} (P : Program) (s : Sem α) (f : α → Sem β) (w : World) :
    (s >>= f).run P w = match s.run P w with | .ok a w' => (f a).run P w' | .halt h w' => .halt h w' := run_bind P s f w

theorem run_bind_ok {α β : Type} {P : Program} {s : Sem α} {f : α → Sem β} {w w' : World} {a : α} (h : s.run P w = .ok a w') :
    (s >>= f).run P w = (f a).run P w' := by rw [run_bind', h]

theorem pureRun_ok {α : Type} {P : Program} : ∀ {s : Sem α} {a : α}, pureRun P s = some a → ∀ w, s.run P w = .ok a w
  | .pure b, a, h, w => by simp [pureRun] at h; subst h; rfl
  | .program k, a, h, w => pureRun_ok (s := k P) h w
  | .mark m k, a, h, w => pureRun_ok (s := k) h w
  | .load .., a, h, w => by simp [pureRun] at h
  | .store .., a, h, w => by simp [pureRun] at h
  | .new .., a, h, w => by simp [pureRun] at h
  | .shape .., a, h, w => by simp [pureRun] at h
  | .freeze .., a, h, w => by simp [pureRun] at h
  | .frozen .., a, h, w => by simp [pureRun] at h
  | .getObj .., a, h, w => by simp [pureRun] at h
  | .setObj .., a, h, w => by simp [pureRun] at h
  | .choose .., a, h, w => by simp [pureRun] at h
  | .sys .., a, h, w => by simp [pureRun] at h
  | .halt _, a, h, w => by simp [pureRun] at h

/-! ## constants -/
theorem cvl_length (n : Nat) : ∀ (vs : List Value) (l : List AV), cvl n vs = some l → l.length = vs.length
  | [], l, h => by simp [cvl] at h; subst h; rfl
  | v :: vs, l, h => by
    simp only [cvl] at h
    split at h
    · split at h
      · rename_i l' hl; cases h; simp [cvl_length n vs l' hl]
      · cases h
    · cases h

theorem cvl_vr {μ : Mu} {n : Nat} (ih : ∀ (v : Value) (a : AV), cv n v = some a → vr μ a v) : ∀ (vs : List Value) (l : List AV), cvl n vs = some l → vrL μ l vs
  | [], l, h => by simp [cvl] at h; subst h; simp [vrL]
  | v :: vs, l, h => by
    simp only [cvl] at h
    split at h
    · rename_i a ha
      split at h
      · rename_i l' hl; cases h; exact vrL_cons.2 ⟨ih v a ha, cvl_vr ih vs l' hl⟩
      · cases h
    · cases h

theorem cv_vr {μ : Mu} : ∀ (n : Nat) (v : Value) (a : AV), cv n v = some a → vr μ a v
  | 0, v, a, h => by simp [cv] at h
  | n + 1, v, a, h => by
    rw [cv.eq_def] at h
    dsimp only at h
    split at h
    case h_1 => cases h; simp only [vr]
    case h_2 => cases h; simp only [vr]
    case h_3 s =>
      cases h; simp only [vr]
      obtain ⟨⟨l⟩⟩ := s
      exact ⟨l, rfl, by simp [ByteArray.size], rfl⟩
    case h_4 => cases h; simp only [vr]
    case h_5 => cases h; simp only [vr]
    case h_6 => cases h; simp only [vr]
    case h_7 => cases h; simp only [vr]
    case h_8 => cases h; simp only [vr]
    case h_9 t w =>
      split at h
      · rename_i a' ha; cases h; simp only [vr]; exact ⟨w, rfl, cv_vr n w a' ha⟩
      · cases h
    case h_10 cs =>
      split at h
      · rename_i l hl; cases h; simp only [vr]; obtain ⟨xs⟩ := cs; exact ⟨xs, rfl, cvl_vr (cv_vr n) _ l hl⟩
      · cases h
    case h_11 cs =>
      split at h
      · rename_i l hl; cases h; simp only [vr]; obtain ⟨xs⟩ := cs; exact ⟨xs, rfl, cvl_vr (cv_vr n) _ l hl⟩
      · cases h
    case h_12 => cases h; simp only [vr]
    case h_13 => cases h

/-! ## strings -/
theorem rev_ind {α : Type} {p : List α → Prop} (h0 : p []) (h1 : ∀ l a, p l → p (l ++ [a])) (l : List α) : p l := by
  rw [← List.reverse_reverse l]
  induction l.reverse with
  | nil => exact h0
  | cons a r ih => rw [List.reverse_cons]; exact h1 _ _ ih
theorem enc_nil : enc [] = 0 := rfl
theorem enc_snoc (l : List UInt8) (b : UInt8) : enc (l ++ [b]) = enc l * 256 + b.toNat := by simp [enc, List.foldl_append]
theorem enc_lt : ∀ (l : List UInt8), enc l < 256 ^ l.length := by
  intro l
  induction l using rev_ind with
  | h0 => simp [enc]
  | h1 l b ih =>
    rw [enc_snoc, List.length_append, List.length_singleton, Nat.pow_succ]
    have := b.toNat_lt
    omega
theorem enc_append (l l' : List UInt8) : enc (l ++ l') = enc l * 256 ^ l'.length + enc l' := by
  induction l' using rev_ind with
  | h0 => simp [enc]
  | h1 r b ih =>
    rw [← List.append_assoc, enc_snoc, ih, enc_snoc, List.length_append, List.length_singleton, Nat.pow_succ]
    rw [Nat.add_mul, Nat.mul_assoc]; omega
theorem enc_inj : ∀ (l l' : List UInt8), l.length = l'.length → enc l = enc l' → l = l' := by
  intro l
  induction l using rev_ind with
  | h0 => intro l' h _; exact (List.eq_nil_of_length_eq_zero (by simpa using h.symm)).symm
  | h1 l b ih =>
    intro l' h he
    rcases List.eq_nil_or_concat l' with rfl | ⟨r, c, rfl⟩
    · simp at h
    · rw [List.concat_eq_append] at *
      rw [enc_snoc, enc_snoc] at he
      have h1 := b.toNat_lt
      have h2 := c.toNat_lt
      have e1 : b.toNat = c.toNat := by omega
      have e2 : enc l = enc r := by omega
      rw [ih r (by simpa using h) e2, UInt8.toNat_inj.1 e1]
theorem dec_enc : ∀ (l acc : List UInt8), dec l.length (enc l) acc = l ++ acc := by
  intro l
  induction l using rev_ind with
  | h0 => intro acc; simp [dec]
  | h1 l b ih =>
    intro acc
    rw [List.length_append, List.length_singleton]
    show dec l.length (Nat.div (enc (l ++ [b])) 256) (UInt8.ofNat (Nat.mod (enc (l ++ [b])) 256) :: acc) = _
    rw [enc_snoc]
    have h1 := b.toNat_lt
    have e1 : Nat.div (enc l * 256 + b.toNat) 256 = enc l := by show (enc l * 256 + b.toNat) / 256 = _; omega
    have e2 : Nat.mod (enc l * 256 + b.toNat) 256 = b.toNat := by show (enc l * 256 + b.toNat) % 256 = _; omega
    rw [e1, e2, ih]
    simp
theorem vr_s {μ : Mu} {len code : Nat} {v : Value} : vr μ (.s len code) v ↔ ∃ l : List UInt8, v = .string ⟨⟨l⟩⟩ ∧ l.length = len ∧ enc l = code := by simp only [vr]
theorem strV_vr {μ : Mu} {len code : Nat} {v : Value} (h : vr μ (.s len code) v) : strV len code = v := by
  obtain ⟨l, rfl, rfl, rfl⟩ := vr_s.1 h
  simp [strV, dec_enc]

/-- what names no object is what it reads as -/
theorem toV_vr {μ : Mu} : ∀ (n : Nat) (a : AV) (x v : Value), toV n a = some x → vr μ a v → v = x := by
  intro n
  induction n with
  | zero => intro a x v h; simp [toV] at h
  | succ n ih =>
    have ihl : ∀ (l : List AV) (xs vs : List Value), l.mapM (toV n) = some xs → vrL μ l vs → vs = xs := by
      intro l
      induction l with
      | nil => intro xs vs h hv; simp at h; simp only [vrL] at hv; rw [hv, h]
      | cons a l ihl =>
        intro xs vs h hv
        rw [List.mapM_cons] at h
        simp only [vrL] at hv
        obtain ⟨v, r, rfl, h2, h3⟩ := hv
        cases ha : toV n a with
        | none => rw [ha] at h; cases h
        | some y =>
          rw [ha] at h
          cases hl : l.mapM (toV n) with
          | none => rw [hl] at h; cases h
          | some ys =>
            rw [hl] at h
            cases h
            rw [ih a y v ha h2, ihl ys r hl h3]
    intro a x v h hv
    cases a <;> simp only [toV] at h <;> try (cases h; done)
    case b => cases h; simpa only [vr] using hv
    case i => cases h; simpa only [vr] using hv
    case s => cases h; exact (strV_vr hv).symm
    case nilp => cases h; simpa only [vr] using hv
    case nils => cases h; simpa only [vr] using hv
    case nilm => cases h; simpa only [vr] using hv
    case nilf => cases h; simpa only [vr] using hv
    case nili => cases h; simpa only [vr] using hv
    case fl => cases h; simpa only [vr] using hv
    case ifc t a =>
      split at h
      · rename_i w hw; cases h; simp only [vr] at hv; obtain ⟨u, rfl, hu⟩ := hv; rw [ih a w u hw hu]
      · cases h
    case agg l =>
      split at h
      · rename_i ws hw; cases h; simp only [vr] at hv; obtain ⟨u, rfl, hu⟩ := hv; rw [ihl l ws u hw hu]
      · cases h

theorem pureV_ok {P : Program} {s : Sem Value} {a : AV} (h : pureV P s = some a) (μ : Mu) (w : World) : ∃ v, s.run P w = .ok v w ∧ vr μ a v := by
  unfold pureV at h
  split at h
  · rename_i v hv; exact ⟨v, pureRun_ok hv w, cv_vr 6 v a h⟩
  · cases h

end Go.Proofs.Ytkccnomdfkhfnaa.Ev
