/- What functions of the program compute, written down; read off their code. -/
import Derived.Laws.StructEq
import Derived.Test.YtkccnomdfkhfnaaEvSemP
set_option linter.unusedVariables false
set_option linter.unusedSimpArgs false
namespace Go.Proofs.Ytkccnomdfkhfnaa.Ev
open Go.RowKit

theorem vr_x {μ : Mu} {s : SX} {v : Value} : vr μ (.x s) v ↔ vrX μ s v := by simp only [vr]
def AllP (c : List Prop) : Prop := ∀ p ∈ c, p
theorem AllP.app {a b : List Prop} (h : AllP (a ++ b)) : AllP a ∧ AllP b := ⟨fun p hp => h p (List.mem_append_left _ hp), fun p hp => h p (List.mem_append_right _ hp)⟩
theorem AllP.cons {p : Prop} {a : List Prop} (h : AllP (p :: a)) : p ∧ AllP a := ⟨h p List.mem_cons_self, fun q hq => h q (List.mem_cons_of_mem _ hq)⟩

theorem wrap_wrap (k : IntKind) (n : Int) : InR k (k.wrap n) := by
  unfold InR
  cases k <;> simp only [IntKind.wrap, IntKind.bits, IntKind.signed] <;> simp <;> (repeat' split) <;> omega
theorem okI_ok {k : IntKind} {n : Int} (h : okI k n = true) : InR k n := by
  unfold InR
  unfold okI at h
  rw [wrapI_eq, eqI_eq] at h
  exact (by simpa using h)
theorem tI_ok {μ : Mu} {a : AV} {v : Value} {k : IntKind} {n : Int} (h : tI a = some (k, n)) (hv : vr μ a v) : v = .int k n ∧ InR k n := by
  cases a <;> simp only [tI] at h <;> try (cases h; done)
  case i => obtain ⟨h1, h⟩ := need_some h; cases h; simp only [vr] at hv; exact ⟨hv, okI_ok h1⟩
  case x s =>
    cases s <;> simp only [tI] at h <;> try (cases h; done)
    cases h; simp only [vr, vrX] at hv; exact hv
theorem tB_ok {μ : Mu} {a : AV} {v : Value} {b : Bool} (h : tB a = some b) (hv : vr μ a v) : v = .bool b := by
  cases a <;> simp only [tB] at h <;> try (cases h; done)
  case b => cases h; simpa only [vr] using hv
  case x s =>
    cases s <;> simp only [tB] at h <;> try (cases h; done)
    cases h; simpa only [vr, vrX] using hv
theorem tS_ok {μ : Mu} {a : AV} {v : Value} {l : List UInt8} (h : tS a = some l) (hv : vr μ a v) : v = .string ⟨⟨l⟩⟩ ∧ l.length ≤ Room := by
  cases a <;> simp only [tS] at h <;> try (cases h; done)
  case s =>
    obtain ⟨h1, h⟩ := need_some h
    cases h
    obtain ⟨l, rfl, rfl, rfl⟩ := vr_s.1 hv
    rw [dec_enc, List.append_nil]
    rw [ble_iff] at h1
    exact ⟨rfl, h1⟩
  case x s =>
    cases s <;> simp only [tS] at h <;> try (cases h; done)
    cases h; simpa only [vr, vrX] using hv

theorem sameK_eq {a b : IntKind} (h : sameK a b = true) : a = b := sameK_iff.1 h
theorem baList (z : List UInt8) : (⟨⟨z⟩⟩ : ByteArray).toList = z := by rw [ByteArray.toList_eq]

theorem xBinI_ok {P : Program} {μ : Mu} {op : BinOp} {k : IntKind} {m n : Int} {a : AV} {c : List Prop} (h : xBinI op k m n = some (a, c)) (hc : AllP c) (t : TypeId) (xo yo : Operand) (w : World) :
    ∃ z, (do eqGuard op t xo yo (.int k m) (.int k n); binOp op t (.int k m) (.int k n) : Sem Value).run P w = .ok z w ∧ vr μ a z := by
  have hg : (eqGuard op t xo yo (.int k m) (.int k n)).run P w = .ok () w := by cases op <;> rfl
  rw [run_bind_ok hg]
  have hb : ∀ o : BinOp, o ≠ .shl → o ≠ .shr → binOp o t (.int k m) (.int k n) = (match o with
    | .add | .sub | .mul => Op.intArith o k m n
    | .quo | .rem => Op.intDiv o k m n
    | .and | .or | .xor | .andNot => Op.intBits o k m n
    | _ => Op.intCmp o m n) := by
    intro o h1 h2
    cases o <;> first | (exact absurd rfl h1) | (exact absurd rfl h2) | (simp [binOp])
  cases op <;> simp only [xBinI] at h <;> try (cases h; done)
  all_goals cases h
  case add => exact ⟨_, by rw [hb _ (by simp) (by simp)]; rfl, vr_x.2 ⟨rfl, wrap_wrap _ _⟩⟩
  case sub => exact ⟨_, by rw [hb _ (by simp) (by simp)]; rfl, vr_x.2 ⟨rfl, wrap_wrap _ _⟩⟩
  case mul => exact ⟨_, by rw [hb _ (by simp) (by simp)]; rfl, vr_x.2 ⟨rfl, wrap_wrap _ _⟩⟩
  case and => exact ⟨_, by rw [hb _ (by simp) (by simp)]; rfl, vr_x.2 ⟨rfl, wrap_wrap _ _⟩⟩
  case or => exact ⟨_, by rw [hb _ (by simp) (by simp)]; rfl, vr_x.2 ⟨rfl, wrap_wrap _ _⟩⟩
  case xor => exact ⟨_, by rw [hb _ (by simp) (by simp)]; rfl, vr_x.2 ⟨rfl, wrap_wrap _ _⟩⟩
  case andNot => exact ⟨_, by rw [hb _ (by simp) (by simp)]; rfl, vr_x.2 ⟨rfl, wrap_wrap _ _⟩⟩
  case quo =>
    have h0 : ¬ n = 0 := hc _ (by simp)
    exact ⟨_, by rw [hb _ (by simp) (by simp)]; simp only [Op.intDiv]; rw [if_neg h0]; rfl, vr_x.2 ⟨rfl, wrap_wrap _ _⟩⟩
  case rem =>
    have h0 : ¬ n = 0 := hc _ (by simp)
    have h1 : k.wrap (m.tmod n) = m.tmod n := hc _ (by simp)
    refine ⟨_, by rw [hb _ (by simp) (by simp)]; simp only [Op.intDiv]; rw [if_neg h0]; rfl, ?_⟩
    rw [h1]; exact vr_x.2 ⟨rfl, h1⟩
  all_goals exact ⟨_, by rw [hb _ (by simp) (by simp)]; rfl, by simp only [vr, vrX]⟩

theorem xBinS_ok {P : Program} {μ : Mu} {op : BinOp} {x y : List UInt8} {a : AV} {c : List Prop} (h : xBinS op x y = some (a, c)) (hc : AllP c) (t : TypeId) (xo yo : Operand) (w : World) :
    ∃ z, (do eqGuard op t xo yo (.string ⟨⟨x⟩⟩) (.string ⟨⟨y⟩⟩); binOp op t (.string ⟨⟨x⟩⟩) (.string ⟨⟨y⟩⟩) : Sem Value).run P w = .ok z w ∧ vr μ a z := by
  have hg : (eqGuard op t xo yo (.string ⟨⟨x⟩⟩) (.string ⟨⟨y⟩⟩)).run P w = .ok () w := by cases op <;> rfl
  rw [run_bind_ok hg]
  cases op <;> simp only [xBinS] at h <;> try (cases h; done)
  all_goals cases h
  case add =>
    have h1 : x.length + y.length ≤ Room := hc _ (by simp)
    refine ⟨.string ⟨⟨x ++ y⟩⟩, ?_, vr_x.2 ⟨rfl, by rw [List.length_append]; exact h1⟩⟩
    show (Op.stringOp .add _ _).run P w = _
    unfold Op.stringOp
    dsimp only
    rw [if_neg]
    · show Result.ok _ w = _
      congr 2
    · simp only [ByteArray.size, IntKind.max, IntKind.signed, IntKind.bits]
      unfold Room at h1
      simp
      omega
  case eql => exact ⟨_, by show (Op.stringOp .eql _ _).run P w = _; unfold Op.stringOp; dsimp only; rw [baList, baList]; rfl, by simp only [vr, vrX]⟩
  case neq => exact ⟨_, by show (Op.stringOp .neq _ _).run P w = _; unfold Op.stringOp; dsimp only; rw [baList, baList]; rfl, by simp only [vr, vrX]⟩
  case lss => exact ⟨_, by show (Op.stringOp .lss _ _).run P w = _; unfold Op.stringOp; dsimp only; rw [baList, baList]; rfl, by simp only [vr, vrX]⟩
  case leq => exact ⟨_, by show (Op.stringOp .leq _ _).run P w = _; unfold Op.stringOp; dsimp only; rw [baList, baList]; rfl, by simp only [vr, vrX]⟩
  case gtr => exact ⟨_, by show (Op.stringOp .gtr _ _).run P w = _; unfold Op.stringOp; dsimp only; rw [baList, baList]; rfl, by simp only [vr, vrX]⟩
  case geq => exact ⟨_, by show (Op.stringOp .geq _ _).run P w = _; unfold Op.stringOp; dsimp only; rw [baList, baList]; rfl, by simp only [vr, vrX]⟩

theorem xBinB_ok {P : Program} {μ : Mu} {op : BinOp} {x y : Bool} {a : AV} {c : List Prop} (h : xBinB op x y = some (a, c)) {t : TypeId} (hu : P.underlying t = some .bool) (xo yo : Operand) (w : World) :
    ∃ z, (do eqGuard op t xo yo (.bool x) (.bool y); binOp op t (.bool x) (.bool y) : Sem Value).run P w = .ok z w ∧ vr μ a z := by
  have hg : (eqGuard op t xo yo (.bool x) (.bool y)).run P w = .ok () w := by cases op <;> rfl
  rw [run_bind_ok hg]
  have he : (Op.equal t (.bool x) (.bool y)).run P w = .ok (x == y) w := run_equal fun d => by simp [Op.equalIn, run_underlying hu]
  cases op <;> simp only [xBinB] at h <;> try (cases h; done)
  all_goals cases h
  · refine ⟨.bool (x == y), ?_, by simp only [vr, vrX]⟩
    show (do pure (.bool (← Op.equal t (.bool x) (.bool y))) : Sem Value).run P w = _
    rw [run_bind_ok he]; rfl
  · refine ⟨.bool (!(x == y)), ?_, by simp only [vr, vrX]⟩
    show (do pure (.bool (!(← Op.equal t (.bool x) (.bool y)))) : Sem Value).run P w = _
    rw [run_bind_ok he]; rfl

theorem eqLf_ok {P : Program} {μ : Mu} {u : TypeId} {a b : AV} {p : Bool} {x y : Value} (h : eqLf P u a b = some p) (hx : vr μ a x) (hy : vr μ b y) (d : Nat) (w : World) : (Op.equalIn (d + 1) u x y).run P w = .ok p w := by
  unfold eqLf at h
  obtain ⟨l, h0, h⟩ := obind_elim h
  unfold lfOf at h0
  split at h0
  · rename_i k0 hu
    cases h0
    obtain ⟨k, m, h1, h⟩ := obind2_elim h
    obtain ⟨k', n, h2, h⟩ := obind2_elim h
    obtain ⟨hk, h⟩ := need_some h
    cases h
    have := sameK_eq hk; subst this
    obtain ⟨rfl, _⟩ := tI_ok h1 hx
    obtain ⟨rfl, _⟩ := tI_ok h2 hy
    exact run_equalIn_int w d u _ _ _ _ hu
  · rename_i hu
    cases h0
    obtain ⟨q, h1, h⟩ := obind_elim h
    obtain ⟨r, h2, h⟩ := obind_elim h
    cases h
    have := tB_ok h1 hx; subst this
    have := tB_ok h2 hy; subst this
    exact run_equalIn_bool w d u _ _ hu
  · rename_i hu
    cases h0
    obtain ⟨q, h1, h⟩ := obind_elim h
    obtain ⟨r, h2, h⟩ := obind_elim h
    cases h
    obtain ⟨rfl, _⟩ := tS_ok h1 hx
    obtain ⟨rfl, _⟩ := tS_ok h2 hy
    rw [run_equalIn_string w d u _ _ hu]
    rw [ByteArray.toList_eq, ByteArray.toList_eq]
  · cases h0
theorem eqFs_ok {P : Program} {μ : Mu} {l m : List AV} {xs ys : List Value} (hx : vrL μ l xs) (hy : vrL μ m ys) (d : Nat) (w : World) : ∀ (fs : List Field) (p : Bool), eqFs P l m fs = some p → (Op.eqFields (d + 1) ⟨xs⟩ ⟨ys⟩ fs).run P w = .ok p w
  | [], p, h => by cases h; rfl
  | f :: fs, p, h => by
    obtain ⟨hn, h⟩ := need_some (show need (f.name != "_") 331 _ = some p from h)
    obtain ⟨a, h1, h⟩ := obind_elim h
    obtain ⟨b, h2, h⟩ := obind_elim h
    obtain ⟨q, h3, h⟩ := obind_elim h
    obtain ⟨r, h4, h⟩ := obind_elim h
    cases h
    obtain ⟨v, e1, e2⟩ := run_part h1 hx w
    obtain ⟨u, e3, e4⟩ := run_part h2 hy w
    have hn' : f.name ≠ "_" := by simpa using hn
    simp only [Op.eqFields, if_pos hn']
    rw [run_bind_ok e1, run_bind_ok e3, run_bind_ok (eqLf_ok h3 e2 e4 d w)]
    cases q with
    | true => simp only [Bool.not_true, Bool.false_eq_true, if_false, Bool.true_and]; exact eqFs_ok hx hy d w fs r h4
    | false => simp only [Bool.not_false, if_true, Bool.false_and]; rfl
theorem xEqA_ok {P : Program} {μ : Mu} {op : BinOp} {t : TypeId} {l m : List AV} {a : AV} {c : List Prop} {xs ys : List Value} (h : xEqA P op t l m = some (a, c)) (hx : vrL μ l xs) (hy : vrL μ m ys) (xo yo : Operand) (w : World) :
    ∃ z, (do eqGuard op t xo yo (.agg ⟨xs⟩) (.agg ⟨ys⟩); binOp op t (.agg ⟨xs⟩) (.agg ⟨ys⟩) : Sem Value).run P w = .ok z w ∧ vr μ a z := by
  unfold xEqA at h
  obtain ⟨fs, h1, h⟩ := obind_elim h
  obtain ⟨hc, h⟩ := need_some h
  obtain ⟨b, h2, h⟩ := obind_elim h
  simp only [Bool.and_eq_true, Bool.not_eq_true'] at hc
  rw [run_bind_ok (run_eqGuard_agg w op t xo yo _ _ hc.2)]
  have ht : P.underlying t = some (.struct (P.fieldsOf t)) ∧ (P.fieldsOf t).toList = fs := by
    unfold fieldsL at h1
    unfold Program.fieldsOf
    split at h1
    · rename_i g hg
      cases h1
      rw [hg]
      exact ⟨rfl, rfl⟩
    · cases h1
  have he : (Op.equalIn 10000 t (.agg ⟨xs⟩) (.agg ⟨ys⟩)).run P w = .ok b w := by
    rw [run_equalIn_struct w 9999 t _ _ ht.1 hc.1, ht.2]
    exact eqFs_ok hx hy 9998 w fs b h2
  split at h
  · cases h
    exact ⟨.bool b, by rw [run_eql_struct, he]; rfl, vr_x.2 rfl⟩
  · cases h
    exact ⟨.bool (!b), by rw [run_neq_struct, he]; rfl, vr_x.2 rfl⟩
  · cases h
theorem xBin_ok {P : Program} {μ : Mu} {op : BinOp} {t : TypeId} {x y a : AV} {v u : Value} {c : List Prop} (h : xBin P op t x y = some (a, c)) (hc : AllP c) (hv : vr μ x v) (hu : vr μ y u) (xo yo : Operand) (w : World) :
    ∃ z, (do eqGuard op t xo yo v u; binOp op t v u : Sem Value).run P w = .ok z w ∧ vr μ a z := by
  unfold xBin at h
  split at h
  · rename_i k m k' n h1 h2
    obtain ⟨rfl, _⟩ := tI_ok h1 hv
    obtain ⟨rfl, _⟩ := tI_ok h2 hu
    split at h
    · cases h
      have q1 : 0 ≤ n := hc _ (by simp)
      have q2 : k.wrap (shrI k m n) = shrI k m n := hc _ (by simp)
      rw [run_bind_ok (show (eqGuard .shr t xo yo (.int k m) (.int k' n)).run P w = .ok () w from rfl)]
      refine ⟨.int k (shrI k m n), ?_, vr_x.2 ⟨rfl, q2⟩⟩
      show (Op.shift .shr k m k' n).run P w = _
      unfold Op.shift
      rw [if_neg (by omega)]
      rfl
    · cases h
      have q1 : 0 ≤ n := hc _ (by simp)
      rw [run_bind_ok (show (eqGuard .shl t xo yo (.int k m) (.int k' n)).run P w = .ok () w from rfl)]
      refine ⟨.int k (shlI m n k), ?_, vr_x.2 ⟨rfl, wrap_wrap _ _⟩⟩
      show (Op.shift .shl k m k' n).run P w = _
      unfold Op.shift
      rw [if_neg (by omega)]
      rfl
    · obtain ⟨hk, h3⟩ := need_some h
      have := sameK_eq hk; subst this
      exact xBinI_ok h3 hc t xo yo w
  · split at h
    · rename_i p q h1 h2
      obtain ⟨rfl, _⟩ := tS_ok h1 hv
      obtain ⟨rfl, _⟩ := tS_ok h2 hu
      exact xBinS_ok h hc t xo yo w
    · split at h
      · rename_i p q h1 h2
        have := tB_ok h1 hv; subst this
        have := tB_ok h2 hu; subst this
        obtain ⟨hb, h⟩ := need_some h
        refine xBinB_ok h ?_ xo yo w
        unfold isBoolT at hb
        split at hb
        · assumption
        · cases hb
      · split at h
        · simp only [vr] at hv hu
          obtain ⟨xs, rfl, hx⟩ := hv
          obtain ⟨ys, rfl, hy⟩ := hu
          exact xEqA_ok h hx hy xo yo w
        · cases h
theorem xUn_ok {P : Program} {μ : Mu} {op : UnOp} {x a : AV} {v : Value} {c : List Prop} (h : xUn op x = some (a, c)) (hv : vr μ x v) (w : World) : ∃ z, (Op.unary op v).run P w = .ok z w ∧ vr μ a z := by
  unfold xUn at h
  split at h
  · obtain ⟨b, h1, h⟩ := obind_elim h
    cases h
    have := tB_ok h1 hv; subst this
    exact ⟨.bool (!b), rfl, vr_x.2 rfl⟩
  · obtain ⟨k, n, h1, h⟩ := obind2_elim h
    cases h
    obtain ⟨rfl, _⟩ := tI_ok h1 hv
    exact ⟨.int k (k.wrap (0 - n)), rfl, vr_x.2 ⟨rfl, wrap_wrap _ _⟩⟩
  · cases h
theorem xConv_ok {P : Program} {μ : Mu} {s d : TypeId} {x a : AV} {v : Value} {c : List Prop} (h : xConv P s d x = some (a, c)) (hv : vr μ x v) (w : World) : ∃ z, (convert s d v).run P w = .ok z w ∧ vr μ a z := by
  unfold xConv at h
  cases hs : P.underlying s with
  | none => rw [hs] at h; cases h
  | some ds =>
    rw [hs, obind_some] at h
    split at h
    · rename_i k h1
      obtain ⟨k', n, h2, h⟩ := obind2_elim h
      cases h
      obtain ⟨rfl, _⟩ := tI_ok h2 hv
      refine ⟨.int k (k.wrap n), ?_, vr_x.2 ⟨rfl, wrap_wrap _ _⟩⟩
      unfold convert
      rw [run_bind_ok (run_underlying hs w), run_bind_ok (run_underlying h1 w)]
      cases ds <;> rfl
    · rename_i h1
      obtain ⟨l, h2, h⟩ := obind_elim h
      cases h
      split at h2
      · cases h2
        rw [vr_x] at hv
        obtain ⟨rfl, hl⟩ := hv
        refine ⟨.string ⟨⟨l⟩⟩, ?_, vr_x.2 ⟨rfl, hl⟩⟩
        unfold convert
        rw [run_bind_ok (run_underlying hs w), run_bind_ok (run_underlying h1 w)]
        cases ds <;> rfl
      · cases h2
    · cases h
theorem Room_i64 {n : Nat} (h : n ≤ Room) : InR .i64 (Int.ofNat n) := by
  unfold InR IntKind.wrap
  unfold Room at h
  simp [IntKind.bits, IntKind.signed]
  have : ((n : Int) % 18446744073709551616) = n := by omega
  rw [this]
  split <;> omega
theorem row_len {fz : Fz} {e : ET} {xs : List e.T} {v : Value} (h : decL fz (.row e) xs v) : ∃ a c, v = .slice a xs.length c ∧ xs.length ≤ c ∧ xs.length * e.by ≤ Room := by
  simp only [decL] at h
  obtain ⟨a, c, h1, h2, h3, _⟩ := h
  exact ⟨a, c, h1, h2, h3⟩
theorem len_room {n : Nat} {e : ET} (h : n * e.by ≤ Room) : n ≤ Room := by
  have := Nat.le_mul_of_pos_right n (show 0 < e.by from e.by_pos)
  omega
theorem xLen_ok {P : Program} {μ : Mu} {t : TypeId} {x a : AV} {v : Value} {c : List Prop} (h : xLen P t x = some (a, c)) (hv : vr μ x v) (ty : TypeId) (w : World) :
    ∃ z, (Builtin.len_ #[t] ty #[v]).run P w = .ok z w ∧ vr μ a z := by
  unfold xLen at h
  split at h <;> try (cases h; done)
  all_goals cases h
  all_goals rename_i ht
  all_goals rw [vr_x] at hv
  · obtain ⟨rfl, hl⟩ := hv
    exact ⟨goInt (ByteArray.size ⟨⟨_⟩⟩ : Nat), by show (underlying t >>= fun d => _).run P w = _; rw [run_bind_ok (run_underlying ht w)]; rfl, vr_x.2 ⟨rfl, Room_i64 hl⟩⟩
  · obtain ⟨a, c, rfl, _, h3⟩ := row_len hv
    exact ⟨goInt (_ : Nat), by simp [Builtin.len_, run_underlying ht], vr_x.2 ⟨rfl, Room_i64 (len_room h3)⟩⟩
  · obtain ⟨r, _, _, ⟨a, c, rfl, _⟩, h3, _⟩ := hv
    exact ⟨goInt (_ : Nat), by simp [Builtin.len_, run_underlying ht], vr_x.2 ⟨rfl, Room_i64 (len_room h3)⟩⟩

theorem toNat_eq {n : Int} (h : 0 ≤ n) : (n.toNat : Int) = n := Int.toNat_of_nonneg h
theorem u8_in (b : UInt8) : InR .u8 (Int.ofNat b.toNat) := by
  unfold InR IntKind.wrap
  have := b.toNat_lt
  simp [IntKind.bits, IntKind.signed]
  omega
theorem xIndex_ok {P : Program} {μ : Mu} {t : TypeId} {x i a : AV} {v j : Value} {c : List Prop} (h : xIndex P t x i = some (a, c)) (hc : AllP c) (hv : vr μ x v) (hj : vr μ i j) (w : World) :
    ∃ u, (Instr.index t v j).run P w = .ok u w ∧ vr μ a u := by
  unfold xIndex at h
  split at h
  · rename_i hu
    obtain ⟨l, h1, h⟩ := obind_elim h
    obtain ⟨k, n, h2, h⟩ := obind2_elim h
    obtain ⟨rfl, _⟩ := tS_ok h1 hv
    obtain ⟨rfl, _⟩ := tI_ok h2 hj
    have h := Option.some.inj h
    unfold xIdxS at h
    cases h
    have q1 : 0 ≤ n := hc _ (by simp)
    have q2 : n < Int.ofNat l.length := hc _ (by simp)
    obtain ⟨m, rfl⟩ := Int.eq_ofNat_of_zero_le q1
    have hb : m < l.length := Int.ofNat_lt.1 q2
    refine ⟨.int .u8 (l[m]).toNat, ?_, ?_⟩
    · have hs : (⟨⟨l⟩⟩ : ByteArray)[m]? = some l[m] := by
        rw [getElem?_pos (⟨⟨l⟩⟩ : ByteArray) m (by simpa [ByteArray.size] using hb)]; rfl
      simp [Instr.index, asIntOf, run_underlying hu, hs]
    · have e : l.getD (Int.toNat (m : Int)) 0 = l[m] := by simp [hb]
      rw [e]
      exact vr_x.2 ⟨rfl, u8_in _⟩
  · cases h

/-- an element's pointer -/
theorem run_indexAt {P : Program} {t e : TypeId} {s : Nat} (hu : P.underlying t = some (.slice e)) (hs : sizeT P e = some s) {b off len cap : Nat} {k : IntKind} {m : Nat} (hm : m < len) (w : World) :
    (Instr.indexAt t (.slice (some ⟨b, off, none⟩) len cap) (.int k (m : Int))).run P w = .ok (.pointer (some ⟨b, off + m * s, none⟩)) w := by
  simp [Instr.indexAt, asIntOf, run_underlying hu, run_sizeOf hs]
  rw [if_pos hm, add_off]
theorem xIndexAddr_ok {P : Program} {μ : Mu} {t : TypeId} {x i a : AV} {v j : Value} {c : List Prop} (h : xIndexAddr P t x i = some (a, c)) (hc : AllP c) (hv : vr μ x v) (hj : vr μ i j) (w : World) :
    ∃ u, (Instr.indexAt t v j).run P w = .ok u w ∧ vr μ a u := by
  unfold xIndexAddr at h
  split at h
  · rename_i u e xs hu
    obtain ⟨k, n, h2, h⟩ := obind2_elim h
    obtain ⟨s, hs, h⟩ := obind_elim h
    obtain ⟨hsz, h3⟩ := need_some h
    obtain ⟨rfl, _⟩ := tI_ok h2 hj
    rw [beq_iff'] at hsz; subst hsz
    have h4 := Option.some.inj h3
    unfold xIxR at h4
    cases h4
    have q1 : 0 ≤ n := hc _ (by simp)
    have q2 : n < Int.ofNat xs.length := hc _ (by simp)
    obtain ⟨m, rfl⟩ := Int.eq_ofNat_of_zero_le q1
    have hb : m < xs.length := Int.ofNat_lt.1 q2
    rw [vr_x] at hv
    simp only [vrX, decL] at hv
    obtain ⟨ad, cap, rfl, g2, g3, g4⟩ := hv
    rcases g4 with g4 | ⟨b, off, cs, rfl, g5, g6, g7⟩
    · exact absurd (show xs.length = 0 from g4) (by omega)
    · refine ⟨_, run_indexAt hu hs hb w, vr_x.2 ⟨b, off + m * e.sz, cs, xs[m], rfl, g5, ?_, g7 m _ (List.getElem?_eq_getElem hb)⟩⟩
      simp [hb]
  · rename_i u o ver e fu lo n' hu
    obtain ⟨k, n, h2, h⟩ := obind2_elim h
    obtain ⟨s, hs, h⟩ := obind_elim h
    obtain ⟨hsz, h3⟩ := need_some h
    obtain ⟨rfl, _⟩ := tI_ok h2 hj
    rw [beq_iff'] at hsz; subst hsz
    have h4 := Option.some.inj h3
    unfold xIxO at h4
    cases h4
    have q1 : 0 ≤ n := hc _ (by simp)
    have q2 : n < Int.ofNat n' := hc _ (by simp)
    obtain ⟨m, rfl⟩ := Int.eq_ofNat_of_zero_le q1
    have hb : m < n' := Int.ofNat_lt.1 q2
    rw [vr_x] at hv
    obtain ⟨r, g1, g2, ⟨ad, cap, rfl, g3, g3'⟩, g4, g5⟩ := hv
    rcases g3' with g3' | ⟨b0, o0, rfl⟩
    · omega
    · refine ⟨.pointer (some ⟨b0, o0 + m * e.sz, none⟩), ?_, vr_x.2 ⟨r, g1, g2, ⟨_, _, rfl⟩, fun k => ?_⟩⟩
      · exact run_indexAt hu hs hb w
      · obtain ⟨k1, k2, k3⟩ := g5 k
        have k4 := k1 (.inr (by omega))
        unfold RowAt.val at k4
        cases hat : r.at_ with
        | none => rw [hat] at k4; cases k4
        | some p =>
          obtain ⟨b, off⟩ := p
          rw [hat] at k4
          cases k4
          refine ⟨by show lo + m < r.len; omega, b, off, rfl, ?_⟩
          rw [show Int.toNat (m : Int) = m from rfl, Nat.add_mul, Nat.add_zero, Nat.add_assoc]
  · cases h

theorem run_fieldAt {P : Program} {s : TypeId} {f off : Nat} (hoff : fieldOff P s f = some off) (b j : Nat) (w : World) : (Instr.fieldAt s (.pointer (some ⟨b, j, none⟩)) f).run P w = .ok (.pointer (some ⟨b, j + off, none⟩)) w := by
  obtain ⟨fs, fd, n, h1, h2, h3, h4, h5⟩ := fieldOff_sound hoff
  unfold Instr.fieldAt
  rw [run_bind_ok (run_underlying h1 w)]
  simp only [h2]
  show (Instr.sureAddr _ >>= fun a => fieldPlace a fd >>= fun q => pure (Value.pointer (some q))).run P w = _
  rw [show (Instr.sureAddr (.pointer (some ⟨b, j, none⟩)) : Sem Addr) = pure ⟨b, j, none⟩ from rfl, run_bind_ok (run_pure P _ w)]
  unfold fieldPlace
  rw [run_bind_ok (a := ⟨b, j + off, none⟩) (w' := w)]
  · rfl
  · rw [run_bind_ok (run_sizeOf h4 w), if_neg h5, add_off, h3]; rfl
theorem xFieldAddr_ok {P : Program} {μ : Mu} {s : TypeId} {f : Nat} {x a : AV} {v : Value} {c : List Prop} (h : xFieldAddr P s f x = some (a, c)) (hv : vr μ x v) (w : World) :
    ∃ u, (Instr.fieldAt s v f).run P w = .ok u w ∧ vr μ a u := by
  unfold xFieldAddr at h
  split at h
  · obtain ⟨off, hoff, h⟩ := obind_elim h
    cases h
    obtain ⟨b, o, cs, x, rfl, h2, h3, h4⟩ := vr_x.1 hv
    refine ⟨_, run_fieldAt hoff _ _ w, vr_x.2 ⟨b, o, cs, x, ?_, h2, h3, h4⟩⟩
    rw [add_eq', Nat.add_assoc]
  · obtain ⟨off, hoff, h⟩ := obind_elim h
    cases h
    obtain ⟨r, h1, h2, ⟨b, k, rfl⟩, h3⟩ := vr_x.1 hv
    refine ⟨_, run_fieldAt hoff _ _ w, vr_x.2 ⟨r, h1, h2, ⟨_, _, rfl⟩, fun q => ?_⟩⟩
    obtain ⟨k1, b', off', k2, k3⟩ := h3 q
    cases k3
    exact ⟨k1, b, off', k2, by rw [add_eq', Nat.add_assoc]⟩
  · cases h

theorem xPick_ok {μ : Mu} {c a b r : AV} {vc va vb : Value} {cs : List Prop} (h : xPick c a b = some (r, cs)) (h1 : vr μ c vc) (h2 : vr μ a va) (h3 : vr μ b vb) :
    ∃ t, vc = .bool t ∧ vr μ r (if t then va else vb) := by
  unfold xPick at h
  obtain ⟨t, g1, h⟩ := obind_elim h
  refine ⟨t, tB_ok g1 h1, ?_⟩
  split at h
  · rename_i k n k' m e1 e2
    obtain ⟨hk, h4⟩ := need_some h
    cases h4
    have := sameK_eq hk; subst this
    obtain ⟨rfl, r1⟩ := tI_ok e1 h2
    obtain ⟨rfl, r2⟩ := tI_ok e2 h3
    cases t
    · exact vr_x.2 ⟨rfl, r2⟩
    · exact vr_x.2 ⟨rfl, r1⟩
  · split at h
    · rename_i p q e1 e2
      cases h
      have := tB_ok e1 h2; subst this
      have := tB_ok e2 h3; subst this
      cases t <;> exact vr_x.2 rfl
    · split at h
      · rename_i p q e1 e2
        cases h
        obtain ⟨rfl, r1⟩ := tS_ok e1 h2
        obtain ⟨rfl, r2⟩ := tS_ok e2 h3
        cases t
        · exact vr_x.2 ⟨rfl, r2⟩
        · exact vr_x.2 ⟨rfl, r1⟩
      · cases h

/-! ### slices -/
/-- a bound as one that is known -/
theorem xBd_ok {μ : Mu} {x : Option AV} {vx : Option Value} {d top n : Nat} {c : List Prop} (h : xBd x d top = some (n, c)) (hc : AllP c) (r : optRel μ x vx) :
    ∃ x', optRel μ x' vx ∧ (x'.isNone = x.isNone) ∧ ∀ dd, (x = none → dd = some n) → aBound x' dd top = some n := by
  cases x with
  | none =>
    cases h
    exact ⟨none, by cases vx with | none => exact trivial | some _ => exact r.elim, rfl, fun dd hd => hd rfl⟩
  | some a =>
    simp only [xBd] at h
    obtain ⟨k, m, h1, h⟩ := obind2_elim h
    cases h
    cases vx with
    | none => exact r.elim
    | some v =>
      obtain ⟨rfl, _⟩ := tI_ok h1 (show vr μ a v from r)
      have q1 : 0 ≤ m := hc _ (by simp)
      have q2 : m ≤ Int.ofNat top := hc _ (by simp)
      obtain ⟨j, rfl⟩ := Int.eq_ofNat_of_zero_le q1
      have hb : j ≤ top := Int.ofNat_le.1 q2
      refine ⟨some (.i k (.ofNat j)), by show vr μ _ _; simp only [vr]; rfl, rfl, fun dd _ => ?_⟩
      show (bif Nat.ble j top then some j else bad 15) = _
      rw [ble_iff.2 hb]; rfl
theorem xBd_le {x : Option AV} {d top n : Nat} {c : List Prop} (h : xBd x d top = some (n, c)) (hc : AllP c) (hd : d ≤ top) : n ≤ top := by
  cases x with
  | none => cases h; exact hd
  | some a =>
    simp only [xBd] at h
    obtain ⟨k, m, h1, h⟩ := obind2_elim h
    cases h
    have q1 : 0 ≤ m := hc _ (by simp)
    have q2 : m ≤ Int.ofNat top := hc _ (by simp)
    obtain ⟨j, rfl⟩ := Int.eq_ofNat_of_zero_le q1
    exact Int.ofNat_le.1 q2
theorem xCut_eq {α : Type} {lo hi : Option AV} {l : List α} {a b : Nat} (ha : lo = none → a = 0) (hb : hi = none → b = l.length) : xCut lo hi l a b = (l.take b).drop a := by
  cases lo <;> cases hi <;> simp only [xCut]
  · rw [ha rfl, hb rfl]; simp
  · rw [ha rfl]; simp
  · rw [hb rfl]; simp
theorem xBd_none {d top n : Nat} {c : List Prop} (h : xBd none d top = some (n, c)) : n = d := by cases h; rfl

/-- the two bounds' run -/
theorem xBounds_ok {P : Program} {μ : Mu} {isSlice : Bool} {len C b a : Nat} {lo hi : Option AV} {vlo vhi : Option Value} {c1 c2 : List Prop} (h1 : optRel μ lo vlo) (h2 : optRel μ hi vhi) (hC : len ≤ C)
    (hb : xBd hi len len = some (b, c1)) (ha : xBd lo 0 b = some (a, c2)) (hc1 : AllP c1) (hc2 : AllP c2) (w : World) :
    (Instr.sliceBounds isSlice len C vlo vhi none).run P w = .ok (a, b, C) w ∧ a ≤ b ∧ b ≤ len := by
  obtain ⟨hi', r1, _, r3⟩ := xBd_ok hb hc1 h2
  obtain ⟨lo', s1, _, s3⟩ := xBd_ok ha hc2 h1
  have hbl := xBd_le hb hc1 (Nat.le_refl _)
  have hal := xBd_le ha hc2 (Nat.zero_le _)
  obtain ⟨g1, _⟩ := run_sliceBounds (P := P) (isSlice := isSlice) (lo := lo') (hi := hi') (mx := none) (vmx := none) (len := len) (cap := len) (C := C) (m := len) (h := b) (l := a) s1 r1 trivial hC rfl
    (r3 _ fun e => by subst e; rw [xBd_none hb]; rfl) (s3 _ fun e => by subst e; rw [xBd_none ha]) w
  exact ⟨g1, hal, hbl⟩

theorem run_sliceAt {P : Program} {t u : TypeId} {s : Nat} (hu : P.underlying t = some (.slice u)) (hs : sizeT P u = some s) {ad : Option Addr} {len C a b : Nat} {vlo vhi : Option Value} {w : World}
    (hb : (Instr.sliceBounds true len C vlo vhi none).run P w = .ok (a, b, C) w) :
    (Instr.sliceAt t (.slice ad len C) vlo vhi none).run P w = .ok (.slice (ad.map fun q => if C = a then q else q.add (a * s)) (b - a) (C - a)) w := by
  unfold Instr.sliceAt
  rw [run_bind_ok (run_underlying hu w)]
  show (Instr.slice t _ vlo vhi none).run P w = _
  unfold Instr.slice
  rw [run_bind_ok (run_underlying hu w)]
  simp only [run_bind', hb, run_sizeOf hs]
  cases ad with
  | none => simp [run_pure]
  | some q => by_cases e : C = a <;> simp [e, run_pure]
theorem xSlice_ok {P : Program} {μ : Mu} {t : TypeId} {x a : AV} {v : Value} {lo hi : Option AV} {vlo vhi : Option Value} {c : List Prop} (h : xSlice P t lo hi x = some (a, c)) (hc : AllP c) (hv : vr μ x v)
    (h1 : optRel μ lo vlo) (h2 : optRel μ hi vhi) (w : World) : ∃ u, (Instr.sliceAt t v vlo vhi none).run P w = .ok u w ∧ vr μ a u := by
  unfold xSlice at h
  split at h
  · rename_i x' hu
    obtain ⟨l, g1, h⟩ := obind_elim h
    obtain ⟨rfl, hl⟩ := tS_ok g1 hv
    unfold xSlS at h
    obtain ⟨b, c1, hb, h⟩ := obind2_elim h
    obtain ⟨a', c2, ha, h⟩ := obind2_elim h
    cases h
    obtain ⟨hc1, hc2⟩ := hc.app
    obtain ⟨g2, g3, g4⟩ := xBounds_ok (P := P) (isSlice := false) h1 h2 (Nat.le_refl _) hb ha hc1 hc2 w
    refine ⟨.string ⟨⟨(l.take b).drop a'⟩⟩, ?_, ?_⟩
    · unfold Instr.sliceAt
      rw [run_bind_ok (run_underlying hu w)]
      show (Instr.slice t _ vlo vhi none).run P w = _
      unfold Instr.slice
      rw [run_bind_ok (run_underlying hu w)]
      simp only [Option.isSome_none, Bool.false_eq_true, if_false, show ByteArray.size ⟨⟨l⟩⟩ = l.length from rfl, run_bind', g2]
      show Result.ok _ w = _
      congr 2
      apply ByteArray.ext
      rw [ByteArray.data_extract]
      apply Array.toList_inj.1
      simp [List.extract_eq_take_drop, List.drop_take]
    · rw [xCut_eq (fun e => by subst e; exact xBd_none ha) (fun e => by subst e; exact xBd_none hb)]
      exact vr_x.2 ⟨rfl, by rw [List.length_drop, List.length_take]; unfold Room at *; omega⟩
  · rename_i u e xs hu
    obtain ⟨s, hs, h⟩ := obind_elim h
    obtain ⟨hsz, h3⟩ := need_some h
    rw [beq_iff'] at hsz; subst hsz
    unfold xSlR at h3
    obtain ⟨b, c1, hb, h4⟩ := obind2_elim h3
    obtain ⟨a', c2, ha, h5⟩ := obind2_elim h4
    cases h5
    obtain ⟨hc1, hc2⟩ := hc.app
    have hv := vr_x.1 hv
    simp only [vrX, decL] at hv
    obtain ⟨ad, C, rfl, q2, q3, q4⟩ := hv
    obtain ⟨g2, g3, g4⟩ := xBounds_ok (P := P) (isSlice := true) (C := C) h1 h2 q2 hb ha hc1 hc2 w
    refine ⟨_, run_sliceAt hu hs g2, vr_x.2 ?_⟩
    rw [xCut_eq (fun e => by subst e; exact xBd_none ha) (fun e => by subst e; exact xBd_none hb)]
    have hlen : ((xs.take b).drop a').length = b - a' := by rw [List.length_drop, List.length_take]; have : b ≤ xs.length := g4; omega
    simp only [vrX, decL]
    refine ⟨_, _, by rw [hlen], by rw [hlen]; have : xs.length ≤ C := q2; have : b ≤ xs.length := g4; omega, ?_, ?_⟩
    · rw [hlen]
      exact Nat.le_trans (Nat.mul_le_mul_right _ (show b - a' ≤ xs.length by have : b ≤ xs.length := g4; omega)) q3
    · rw [hlen]
      by_cases h0 : b - a' = 0
      · exact .inl h0
      · have hbx : b ≤ xs.length := g4
        have hCx : xs.length ≤ C := q2
        rcases q4 with q4 | ⟨bk, off, cs, rfl, q5, q6, q7⟩
        · exact absurd (show xs.length = 0 from q4) (by omega)
        · refine .inr ⟨bk, off + a' * e.sz, cs, ?_, q5, ?_, fun i x hx => ?_⟩
          · rw [Option.map_some, if_neg (by omega), add_off]
          · have : a' * e.sz + (C - a') * e.sz = C * e.sz := by rw [← Nat.add_mul]; congr 1; omega
            omega
          · have hx : ((xs.take b).drop a')[i]? = some x := hx
            rw [List.getElem?_drop, List.getElem?_take] at hx
            split at hx
            · have := q7 (a' + i) x hx
              rw [Nat.add_mul, ← Nat.add_assoc] at this
              exact this
            · cases hx
  · rename_i u o ver e fu at_ n hu
    obtain ⟨s, hs, h⟩ := obind_elim h
    obtain ⟨hsz, h3⟩ := need_some h
    rw [beq_iff'] at hsz; subst hsz
    unfold xSlO at h3
    obtain ⟨b, c1, hb, h4⟩ := obind2_elim h3
    obtain ⟨a', c2, ha, h5⟩ := obind2_elim h4
    cases h5
    obtain ⟨hc1, hc2⟩ := hc.app
    obtain ⟨r, k1, k2, ⟨ad, C, rfl, k3, k3'⟩, k4, k5⟩ := vr_x.1 hv
    obtain ⟨g2, g3, g4⟩ := xBounds_ok (P := P) (isSlice := true) (C := C) h1 h2 k3 hb ha hc1 hc2 w
    refine ⟨_, run_sliceAt hu hs g2, ?_⟩
    have hroom : (b - a') * e.by ≤ Room := Nat.le_trans (Nat.mul_le_mul_right _ (show b - a' ≤ n by omega)) k4
    have hgen : ∃ a c, Value.slice (ad.map fun q => if C = a' then q else q.add (a' * e.sz)) (b - a') (C - a') = .slice a (b - a') c ∧ (b - a') ≤ c ∧ (b - a' = 0 ∨ ∃ b off, a = some ⟨b, off, none⟩) :=
      ⟨_, _, rfl, by omega, by
        rcases k3' with k3' | ⟨b0, o0, rfl⟩
        · exact .inl (by omega)
        · refine .inr ?_
          rw [Option.map_some, add_off]
          split <;> exact ⟨_, _, rfl⟩⟩
    -- the address, where it counts
    have hval : ver = r.ver → (at_ = 0 ∨ 0 < n → Value.slice ad n C = r.val e.sz at_ n) → (at_ + a' = 0 ∨ 0 < b - a') → Value.slice (ad.map fun q => if C = a' then q else q.add (a' * e.sz)) (b - a') (C - a') = r.val e.sz (at_ + a') (b - a') := by
      intro hver hq hz
      have hq := hq (by rcases hz with z | z
                        · exact .inl (by omega)
                        · exact .inr (by omega))
      unfold RowAt.val at hq ⊢
      injection hq with e1 e2 e3
      subst e3
      rw [show r.cap - at_ - a' = r.cap - (at_ + a') from by omega]
      congr 1
      rw [e1]
      cases r.at_ with
      | none => rfl
      | some p =>
        simp only [Option.map_some]
        congr 1
        by_cases hz0 : at_ + a' = 0
        · have e4 : at_ = 0 := by omega
          have e5 : a' = 0 := by omega
          subst e4; subst e5
          split
          · simp
          · rw [add_off]; simp
        · rw [if_neg (by omega), add_off, Nat.add_mul, Nat.add_assoc]
    cases lo with
    | none =>
      have e0 := xBd_none ha
      subst e0
      rw [show b - 0 = b from rfl] at *
      refine vr_x.2 ⟨r, k1, k2, hgen, hroom, fun hver => ?_⟩
      obtain ⟨m1, m2, m3⟩ := k5 hver
      refine ⟨fun hz => hval hver m1 hz, by omega, fun hf => ?_⟩
      rw [Bool.and_eq_true] at hf
      obtain ⟨f1, f2⟩ := hf
      have hn : hi = none := by cases hi <;> simp_all
      subst hn
      have := xBd_none hb
      have := m3 f1
      exact ⟨this.1, by omega⟩
    | some lo =>
      refine vr_x.2 ⟨r, k1, k2, hgen, hroom, fun hver => ?_⟩
      obtain ⟨m1, m2, m3⟩ := k5 hver
      exact ⟨fun hz => hval hver m1 hz, by omega, fun hf => by cases hf⟩
  · cases h

theorem args1 {μ : Mu} {x : AV} {vs : List Value} (h : vrL μ [x] vs) : ∃ v, vs = [v] ∧ vr μ x v := by
  simp only [vrL] at h
  obtain ⟨v, r, h1, h2, rfl⟩ := h
  exact ⟨v, h1, h2⟩
theorem args2 {μ : Mu} {x y : AV} {vs : List Value} (h : vrL μ [x, y] vs) : ∃ v u, vs = [v, u] ∧ vr μ x v ∧ vr μ y u := by
  simp only [vrL] at h
  obtain ⟨v, r, h1, h2, u, r2, h3, h4, rfl⟩ := h
  subst h3
  exact ⟨v, u, h1, h2, h4⟩
theorem args3 {μ : Mu} {x y z : AV} {vs : List Value} (h : vrL μ [x, y, z] vs) : ∃ v u t, vs = [v, u, t] ∧ vr μ x v ∧ vr μ y u ∧ vr μ z t := by
  simp only [vrL] at h
  obtain ⟨v, r, h1, h2, u, r2, h3, h4, t, r3, h5, h6, rfl⟩ := h
  subst h5; subst h3
  exact ⟨v, u, t, h1, h2, h4, h6⟩

theorem xMinMax_ok {P : Program} {μ : Mu} {mn : Bool} {args : List AV} {a : AV} {c : List Prop} (h : xMinMax mn args = some (a, c)) {vs : List Value} (hv : vrL μ args vs) (ts : Array TypeId) (ty : TypeId) (w : World) :
    ∃ z, (if mn then Builtin.min_ ts ty ⟨vs⟩ else Builtin.max_ ts ty ⟨vs⟩).run P w = .ok z w ∧ vr μ a z := by
  unfold xMinMax at h
  split at h
  · obtain ⟨k, m, h1, h⟩ := obind2_elim h
    obtain ⟨k', n, h2, h⟩ := obind2_elim h
    obtain ⟨hk, h3⟩ := need_some h
    have := sameK_eq hk; subst this
    obtain ⟨v, u, rfl, g1, g2⟩ := args2 hv
    obtain ⟨rfl, r1⟩ := tI_ok h1 g1
    obtain ⟨rfl, r2⟩ := tI_ok h2 g2
    cases h3
    cases mn
    · refine ⟨.int k (mxI m n), ?_, vr_x.2 ⟨rfl, ?_⟩⟩
      · show (Builtin.max2 (.int k m) (.int k n) >>= fun b => pure b).run P w = _
        rfl
      · unfold mxI; split <;> assumption
    · refine ⟨.int k (mnI m n), ?_, vr_x.2 ⟨rfl, ?_⟩⟩
      · show (Builtin.min2 (.int k m) (.int k n) >>= fun b => pure b).run P w = _
        rfl
      · unfold mnI; split <;> assumption
  · cases h

theorem xCallP_ok {P : Program} {μ : Mu} {c : Call} {ty : TypeId} {args : List AV} {a : AV} {cs : List Prop} {ρ : Operand → Value} {o : Oper} (ho : o.op = .call c) (hty : o.type = ty)
    (h : xCallP P c args = some (a, cs)) (hv : ∀ b, c.callee = .builtin b → vrL μ args (c.args.map ρ).toList) (w : World) : ∃ v, (execOp ρ o).run P w = .ok (.value v) w ∧ vr μ a v := by
  obtain ⟨dst, op, ty', pos, after, guard⟩ := o
  simp only at ho hty
  subst ho; subst hty
  obtain ⟨callee, cargs, argTypes⟩ := c
  unfold xCallP at h
  simp only at h hv
  have hx : ∀ b (v : Value), (builtin b argTypes ty' (cargs.map fun | .const _ => true | _ => false) (cargs.map ρ)).run P w = .ok (.value v) w → callee = .builtin b →
      (execOp ρ ⟨dst, .call ⟨callee, cargs, argTypes⟩, ty', pos, after, guard⟩).run P w = .ok (.value v) w := fun b v hb hc => by
    subst hc; exact hb
  split at h
  · rename_i t x hts
    obtain rfl : argTypes = #[t] := Array.toList_inj.1 hts
    obtain ⟨v, e1, h1⟩ := args1 (hv .len rfl)
    obtain ⟨z, g1, g2⟩ := xLen_ok h h1 ty' w
    refine ⟨z, hx .len z ?_ rfl, g2⟩
    rw [show cargs.map ρ = #[v] from Array.toList_inj.1 e1]
    exact run_value g1
  · rename_i ts l hc1
    obtain ⟨z, g1, g2⟩ := xMinMax_ok (P := P) h (hv .min rfl) argTypes ty' w
    refine ⟨z, hx .min z ?_ rfl, g2⟩
    exact run_value g1
  · rename_i ts l hc1
    obtain ⟨z, g1, g2⟩ := xMinMax_ok (P := P) h (hv .max rfl) argTypes ty' w
    refine ⟨z, hx .max z ?_ rfl, g2⟩
    exact run_value g1
  · cases h

/-- an operation that looks at no memory, on what is not known -/
theorem pX_ok {P : Program} {μ : Mu} {ρ : Operand → Value} {o : Oper} {args : List AV} {a : AV} {c : List Prop} (h : pX P o.op args = some (a, c)) (hc : AllP c) (hv : vrL μ args (o.op.operands.toList.map ρ)) (w : World) :
    ∃ v, (execOp ρ o).run P w = .ok (.value v) w ∧ vr μ a v := by
  obtain ⟨dst, op, ty, pos, after, guard⟩ := o
  cases op <;> simp only [pX] at h <;> try (cases h; done)
  case pick co x y =>
    split at h
    · obtain ⟨v1, v2, v3, e, h1, h2, h3⟩ := args3 hv
      cases e
      obtain ⟨t, g1, g2⟩ := xPick_ok h h1 h2 h3
      refine ⟨if t then ρ x else ρ y, ?_, g2⟩
      simp only [execOp, g1]; cases t <;> rfl
    · cases h
  case nilCheck x =>
    split at h
    · obtain ⟨v1, e, h1⟩ := args1 hv
      cases e
      unfold xNil at h
      split at h
      · cases h
        obtain ⟨b, off, cs, y, g1, g2⟩ := vr_x.1 h1
        refine ⟨ρ x, ?_, h1⟩
        simp only [execOp, g1]; rfl
      · cases h
        obtain ⟨r, g1, g2, ⟨b, k, g3⟩, g4⟩ := vr_x.1 h1
        refine ⟨ρ x, ?_, h1⟩
        simp only [execOp, g3]; rfl
      · cases h
    · cases h
  case binOp op t x y yt =>
    split at h
    · obtain ⟨v1, v2, e, h1, h2⟩ := args2 hv
      cases e
      obtain ⟨z, g1, g2⟩ := xBin_ok h hc h1 h2 x y w
      exact ⟨z, run_value g1, g2⟩
    · cases h
  case unOp op t x =>
    split at h
    · obtain ⟨v1, e, h1⟩ := args1 hv
      cases e
      obtain ⟨z, g1, g2⟩ := xUn_ok (P := P) h h1 w
      exact ⟨z, run_value g1, g2⟩
    · cases h
  case convert s d x =>
    split at h
    · obtain ⟨v1, e, h1⟩ := args1 hv
      cases e
      obtain ⟨z, g1, g2⟩ := xConv_ok h h1 w
      exact ⟨z, run_value g1, g2⟩
    · cases h
  case slice t x lo hi mx =>
    unfold xSliceL at h
    cases args with
    | nil => cases h
    | cons x' l =>
      dsimp only at h
      obtain ⟨hm, h0⟩ := need_some h
      have hmx : mx = none := by cases mx <;> simp_all
      subst hmx
      have e : (Op.slice t x lo hi none).operands.toList.map ρ = ρ x :: (lo.toList.map ρ ++ (hi.toList.map ρ ++ [])) := by
        cases lo <;> cases hi <;> rfl
      rw [e, vrL_cons] at hv
      obtain ⟨hx, hl⟩ := hv
      obtain ⟨alo, l1, t1, h3⟩ := obind2_elim h0
      obtain ⟨r1, q1⟩ := takeOpt_elim t1 hl
      obtain ⟨ahi, l2, t2, h4⟩ := obind2_elim h3
      obtain ⟨r2, q2⟩ := takeOpt_elim t2 q1
      obtain ⟨u, g1, g2⟩ := xSlice_ok h4 hc hx r1 r2 w
      exact ⟨u, run_value g1, g2⟩
  case fieldAddr s x f =>
    split at h
    · obtain ⟨v1, e, h1⟩ := args1 hv
      cases e
      obtain ⟨z, g1, g2⟩ := xFieldAddr_ok h h1 w
      exact ⟨z, run_value g1, g2⟩
    · cases h
  case indexAddr t x i =>
    split at h
    · obtain ⟨v1, v2, e, h1, h2⟩ := args2 hv
      cases e
      obtain ⟨z, g1, g2⟩ := xIndexAddr_ok h hc h1 h2 w
      exact ⟨z, run_value g1, g2⟩
    · cases h
  case index t x i =>
    split at h
    · obtain ⟨v1, v2, e, h1, h2⟩ := args2 hv
      cases e
      obtain ⟨z, g1, g2⟩ := xIndex_ok h hc h1 h2 w
      exact ⟨z, run_value g1, g2⟩
    · cases h
  case call c =>
    refine xCallP_ok (o := ⟨dst, .call c, ty, pos, after, guard⟩) rfl rfl h (fun b hb => ?_) w
    obtain ⟨callee, cargs, argTypes⟩ := c
    simp only at hb
    subst hb
    simpa [Op.operands, Call.operands] using hv
end Go.Proofs.Ytkccnomdfkhfnaa.Ev
