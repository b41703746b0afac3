/- What functions of the program compute, written down; read off their code. -/
import Derived.Test.YtkccnomdfkhfnaaEvMem
import Derived.Laws.Strings
set_option linter.unusedSimpArgs false
set_option linter.unusedVariables false
namespace Go.Proofs.Ytkccnomdfkhfnaa.Ev
open Go.RowKit

/-! ## what does not look at the memory -/
theorem run_underlying {P : Program} {t : TypeId} {d : TypeDesc} (h : P.underlying t = some d) (w : World) : (underlying t).run P w = .ok d w := by
  show (Sem.bind (.program .pure) _).run P w = _
  simp only [Sem.bind, Sem.run, h]; rfl
theorem run_typeInfo {P : Program} {t : TypeId} {i : TypeInfo} (h : P.info? t = some i) (w : World) : (typeInfo t).run P w = .ok i w := by
  show (Sem.bind (.program .pure) _).run P w = _
  simp only [Sem.bind, Sem.run, h]; rfl
theorem run_sizeOf {P : Program} {t : TypeId} {n : Nat} (h : sizeT P t = some n) (w : World) : (sizeOf t).run P w = .ok n w := by
  unfold sizeT at h
  split at h
  · rename_i i hi; cases h
    show (typeInfo t >>= fun i => pure i.size).run P w = _
    rw [run_bind_ok (run_typeInfo hi w)]; rfl
  · cases h
theorem run_zeroValue {P : Program} {t : TypeId} {a : AV} (h : zeroT P t = some a) (μ : Mu) (w : World) : ∃ z, (zeroValue t).run P w = .ok z w ∧ vr μ a z := by
  unfold zeroT at h
  split at h
  · rename_i i hi
    split at h
    · rename_i z hz
      refine ⟨z, ?_, cv_vr 6 z a h⟩
      show (typeInfo t >>= fun i => match i.zero with | some v => pure v | none => unsupported (.resourceLimit "a value of more than 2^22 cells")).run P w = _
      rw [run_bind_ok (run_typeInfo hi w), hz]; rfl
    · cases h
  · cases h
theorem run_isAgg {P : Program} {t : TypeId} {b : Bool} (h : isAggT P t = some b) (w : World) : (isAgg t).run P w = .ok b w := by
  unfold isAggT at h
  unfold isAgg
  split at h
  · rename_i fs hu; cases h; rw [run_bind_ok (run_underlying hu w)]; rfl
  · rename_i n e hu; cases h; rw [run_bind_ok (run_underlying hu w)]; rfl
  · rename_i d h1 h2 hu
    cases h
    rw [run_bind_ok (run_underlying hu w)]
    cases d <;> first | rfl | exact absurd rfl (h1 _) | exact absurd rfl (h2 _ _)
  · cases h

/-- a value of a computation, as an operation's -/
theorem run_value {P : Program} {s : Sem Value} {w w' : World} {v : Value} (h : s.run P w = .ok v w') : (do pure (.value (← s)) : Sem Next).run P w = .ok (.value v) w' := by
  rw [run_bind_ok h]; rfl

theorem run_part {P : Program} {μ : Mu} {t : TypeId} {cs : List AV} {xs : List Value} {off : Nat} {a : AV} (h : aPart P t cs off = some a) (hv : vrL μ cs xs) (w : World) :
    ∃ v, (part t ⟨xs⟩ off).run P w = .ok v w ∧ vr μ a v := by
  unfold aPart at h
  unfold part
  split at h
  · rename_i hg
    split at h
    · rename_i n hn
      rw [run_bind_ok (run_isAgg hg w)]
      cases hc : Nat.ble (Nat.add off n) (lenA cs) with
      | false => rw [hc] at h; cases h
      | true =>
        rw [hc] at h; cases h
        refine ⟨_, by simp only [if_true]; rw [run_bind_ok (run_sizeOf hn w)]; rfl, ?_⟩
        simp only [vr]
        refine ⟨(xs.drop off).take n, ?_, vrL_take n _ _ (vrL_drop off _ _ hv)⟩
        congr 1
        apply Array.toList_inj.1
        simp [List.extract_eq_take_drop]
    · cases h
  · rename_i hg
    rw [run_bind_ok (run_isAgg hg w)]
    obtain ⟨v, h1, h2⟩ := vrL_get _ _ hv off a h
    refine ⟨v, ?_, h2⟩
    simp [h1]
  · cases h

theorem aField_sound {P : Program} {s : TypeId} {f off : Nat} {ft : TypeId} (h : aField P s f = some (off, ft)) :
    ∃ fs fd, P.underlying s = some (.struct fs) ∧ fs[f]? = some fd ∧ fd.offset = off ∧ fd.type = ft := by
  unfold aField at h
  split at h
  · rename_i fs hs
    split at h
    · rename_i fd hf; cases h; exact ⟨fs, fd, hs, by simpa using hf, rfl, rfl⟩
    · cases h
  · cases h

theorem fieldOff_sound {P : Program} {s : TypeId} {f off : Nat} (h : fieldOff P s f = some off) :
    ∃ fs fd n, P.underlying s = some (.struct fs) ∧ fs[f]? = some fd ∧ fd.offset = off ∧ sizeT P fd.type = some n ∧ n ≠ 0 := by
  unfold fieldOff at h
  split at h
  · rename_i off' ft hf
    obtain ⟨fs, fd, h1, h2, h3, h4⟩ := aField_sound hf
    split at h
    · cases h
    · rename_i n hn hz; cases h
      exact ⟨fs, fd, n, h1, h2, h3, by rw [h4]; exact hz, fun e => hn e⟩
    · cases h
  · cases h

theorem aFieldAddr_sound {P : Program} {μ : Mu} {s : TypeId} {f : Nat} {x a : AV} {v : Value} (h : aFieldAddr P s f x = some a) (hv : vr μ x v) (w : World) :
    ∃ u, (Instr.fieldAt s v f).run P w = .ok u w ∧ vr μ a u := by
  unfold aFieldAddr at h
  split at h
  · rename_i o k
    obtain ⟨off, hoff, h⟩ := obind_elim h
    cases h
    obtain ⟨fs, fd, n, h1, h2, h3, h4, h5⟩ := fieldOff_sound hoff
    simp only [vr] at hv ⊢
    obtain ⟨p, g1, g2, rfl⟩ := hv
    refine ⟨.pointer (some ⟨p.blk, p.at_ (Nat.add k off), none⟩), ?_, p, g1, by rw [add_eq']; omega, rfl⟩
    unfold Instr.fieldAt
    rw [run_bind_ok (run_underlying h1 w)]
    simp only [h2]
    show (Instr.sureAddr _ >>= fun a => fieldPlace a fd >>= fun q => pure (Value.pointer (some q))).run P w = _
    rw [show (Instr.sureAddr (.pointer (some ⟨p.blk, p.at_ k, none⟩)) : Sem Addr) = pure ⟨p.blk, p.at_ k, none⟩ from rfl, run_bind_ok (run_pure P _ w)]
    unfold fieldPlace
    rw [run_bind_ok (a := ⟨p.blk, p.at_ (k + off), none⟩) (w' := w)]
    · rfl
    · rw [run_bind_ok (run_sizeOf h4 w), if_neg h5, add_off, h3, p.at_add g2]; rfl
  · cases h

theorem aIndexAddr_sound {P : Program} {μ : Mu} {t : TypeId} {x i a : AV} {v j : Value} (h : aIndexAddr P t x i = some a) (hv : vr μ x v) (hj : vr μ i j) (w : World) :
    ∃ u, (Instr.indexAt t v j).run P w = .ok u w ∧ vr μ a u := by
  unfold aIndexAddr at h
  split at h
  · rename_i kd n
    simp only [vr] at hj; subst hj
    split at h
    · rename_i e o k len cap kn es hu
      rcases bsel_some h with ⟨hb, h⟩ | ⟨_, h⟩
      · obtain ⟨s, hs, h⟩ := obind_elim h
        cases h
        rw [blt_iff] at hb
        simp only [vr] at hv ⊢
        obtain ⟨p, c, g1, g2, rfl, g3⟩ := hv
        refine ⟨.pointer (some ⟨p.blk, p.at_ (Nat.add k (Nat.mul n s)), none⟩), ?_, p, g1, by rw [add_eq']; omega, rfl⟩
        simp [Instr.indexAt, asIntOf, run_underlying hu, run_sizeOf hs]
        rw [if_pos hb, add_off, p.at_add g2]
      · cases h
    · rename_i len e o k hu
      rcases bsel_some h with ⟨hb, h⟩ | ⟨_, h⟩
      · obtain ⟨s, hs, h⟩ := obind_elim h
        cases h
        rw [blt_iff] at hb
        simp only [vr] at hv ⊢
        obtain ⟨p, g1, g2, rfl⟩ := hv
        refine ⟨.pointer (some ⟨p.blk, p.at_ (Nat.add k (Nat.mul n s)), none⟩), ?_, p, g1, by rw [add_eq']; omega, rfl⟩
        simp [Instr.indexAt, asIntOf, run_underlying hu, run_sizeOf hs, Instr.sureAddr]
        rw [if_pos hb, add_off, p.at_add g2]
      · cases h
    · cases h
  · cases h

/-! ### integers and strings -/
theorem sameK_iff {a b : IntKind} : sameK a b = true ↔ a = b := by cases a <;> cases b <;> simp [sameK, kNo]
theorem ltI_eq (a b : Int) : ltI a b = decide (a < b) := by
  cases a <;> cases b <;> simp only [ltI]
  · rename_i m n
    rw [Bool.eq_iff_iff, blt_iff, decide_eq_true_iff]; exact Int.ofNat_lt.symm
  · rename_i m n; exact (decide_eq_false (by have h1 := Int.negSucc_lt_zero n; have h2 := Int.natCast_nonneg m; show ¬ ((m : Int) < Int.negSucc n); omega)).symm
  · rename_i m n; exact (decide_eq_true (by have h1 := Int.negSucc_lt_zero m; have h2 := Int.natCast_nonneg n; show (Int.negSucc m) < (n : Int); omega)).symm
  · rename_i m n
    rw [Bool.eq_iff_iff, blt_iff, decide_eq_true_iff]; omega
theorem eqI_eq (a b : Int) : eqI a b = (a == b) := by
  cases a <;> cases b <;> simp only [eqI]
  · rename_i m n
    rw [Bool.eq_iff_iff, beq_iff', beq_iff_eq]; exact Int.ofNat_inj.symm
  · exact (beq_eq_false_iff_ne.2 (by simp)).symm
  · exact (beq_eq_false_iff_ne.2 (by simp)).symm
  · rename_i m n
    rw [Bool.eq_iff_iff, beq_iff', beq_iff_eq]; omega
theorem wrapI_eq (k : IntKind) (n : Int) : wrapI k n = k.wrap n := by
  unfold wrapI
  split
  · rename_i m
    split
    · cases hb : Nat.blt m 9223372036854775808 with
      | false => rfl
      | true =>
        rw [blt_iff] at hb
        show Int.ofNat m = IntKind.wrap .i64 (Int.ofNat m)
        simp [IntKind.wrap, IntKind.bits, IntKind.signed]
        omega
    · rfl
  · rfl

theorem enc_cons (a : UInt8) (l : List UInt8) : enc (a :: l) = a.toNat * 256 ^ l.length + enc l := by
  have := enc_append [a] l
  simpa [enc] using this
theorem less_le : ∀ (x y : List UInt8), x.length ≤ y.length → Op.bytesLess x y = decide (enc x * 256 ^ (y.length - x.length) < enc y ∨ (enc x * 256 ^ (y.length - x.length) = enc y ∧ x.length < y.length))
  | [], [], _ => by simp [Op.bytesLess, enc]
  | [], b :: y, _ => by
    simp only [Op.bytesLess]
    symm
    rw [decide_eq_true_iff]
    simp only [enc_nil, Nat.zero_mul, List.length_nil, List.length_cons]
    omega
  | a :: x, [], h => by simp at h
  | a :: x, b :: y, h => by
    simp only [List.length_cons] at h
    have ih := less_le x y (by omega)
    simp only [Op.bytesLess, ih, enc_cons, List.length_cons]
    rw [show y.length + 1 - (x.length + 1) = y.length - x.length from by omega]
    have hx := enc_lt x
    have hy := enc_lt y
    have e1 : 256 ^ x.length * 256 ^ (y.length - x.length) = 256 ^ y.length := by rw [← Nat.pow_add]; congr 1; omega
    have e2 : (a.toNat * 256 ^ x.length + enc x) * 256 ^ (y.length - x.length) = a.toNat * 256 ^ y.length + enc x * 256 ^ (y.length - x.length) := by
      rw [Nat.add_mul, Nat.mul_assoc, e1]
    have hx2 : enc x * 256 ^ (y.length - x.length) < 256 ^ y.length := by
      rw [← e1]; exact Nat.mul_lt_mul_of_pos_right hx (Nat.pow_pos (by decide))
    rw [e2]
    generalize enc x * 256 ^ (y.length - x.length) = X at *
    generalize 256 ^ y.length = T at *
    rw [Bool.eq_iff_iff]
    simp only [Bool.or_eq_true, Bool.and_eq_true, decide_eq_true_iff, beq_iff_eq, UInt8.lt_iff_toNat_lt, ← UInt8.toNat_inj]
    rcases Nat.lt_trichotomy a.toNat b.toNat with c | c | c
    · have : a.toNat * T + T ≤ b.toNat * T := by rw [← Nat.succ_mul]; exact Nat.mul_le_mul_right _ c
      constructor
      · intro _; left; omega
      · intro _; exact .inl c
    · rw [c]
      constructor
      · rintro (q | ⟨_, q⟩)
        · omega
        · rcases q with q | q <;> omega
      · intro q; right; refine ⟨rfl, ?_⟩; omega
    · have : b.toNat * T + T ≤ a.toNat * T := by rw [← Nat.succ_mul]; exact Nat.mul_le_mul_right _ c
      constructor
      · rintro (q | ⟨q, _⟩) <;> omega
      · intro q; omega
theorem less_gt : ∀ (x y : List UInt8), y.length < x.length → Op.bytesLess x y = decide (enc x < enc y * 256 ^ (x.length - y.length))
  | x, [], h => by simp [Op.bytesLess, enc_nil]
  | [], b :: y, h => by simp at h
  | a :: x, b :: y, h => by
    simp only [List.length_cons] at h
    have ih := less_gt x y (by omega)
    simp only [Op.bytesLess, ih, enc_cons, List.length_cons]
    rw [show x.length + 1 - (y.length + 1) = x.length - y.length from by omega]
    have hx := enc_lt x
    have hy := enc_lt y
    have e1 : 256 ^ y.length * 256 ^ (x.length - y.length) = 256 ^ x.length := by rw [← Nat.pow_add]; congr 1; omega
    have e2 : (b.toNat * 256 ^ y.length + enc y) * 256 ^ (x.length - y.length) = b.toNat * 256 ^ x.length + enc y * 256 ^ (x.length - y.length) := by
      rw [Nat.add_mul, Nat.mul_assoc, e1]
    have hy2 : enc y * 256 ^ (x.length - y.length) < 256 ^ x.length := by
      rw [← e1]; exact Nat.mul_lt_mul_of_pos_right hy (Nat.pow_pos (by decide))
    rw [e2]
    generalize enc y * 256 ^ (x.length - y.length) = Y at *
    generalize 256 ^ x.length = T at *
    rw [Bool.eq_iff_iff]
    simp only [Bool.or_eq_true, Bool.and_eq_true, decide_eq_true_iff, beq_iff_eq, UInt8.lt_iff_toNat_lt, ← UInt8.toNat_inj]
    rcases Nat.lt_trichotomy a.toNat b.toNat with c | c | c
    · have : a.toNat * T + T ≤ b.toNat * T := by rw [← Nat.succ_mul]; exact Nat.mul_le_mul_right _ c
      constructor
      · intro _; omega
      · intro _; exact .inl c
    · rw [c]
      constructor
      · rintro (q | ⟨_, q⟩) <;> omega
      · intro q; right; refine ⟨rfl, ?_⟩; omega
    · have : b.toNat * T + T ≤ a.toNat * T := by rw [← Nat.succ_mul]; exact Nat.mul_le_mul_right _ c
      constructor
      · rintro (q | ⟨q, _⟩) <;> omega
      · intro q; omega
theorem strLt_eq (x y : List UInt8) : strLt x.length (enc x) y.length (enc y) = Op.bytesLess x y := by
  unfold strLt
  cases hb : Nat.ble x.length y.length with
  | true =>
    rw [ble_iff] at hb
    rw [less_le x y hb]
    simp only [cond_true]
    rw [Bool.eq_iff_iff]
    simp only [Bool.or_eq_true, Bool.and_eq_true, blt_iff, beq_iff', decide_eq_true_iff]
    exact Iff.rfl
  | false =>
    have hb' : ¬ x.length ≤ y.length := fun e => by rw [← ble_iff, hb] at e; cases e
    rw [less_gt x y (by omega)]
    simp only [cond_false]
    rw [Bool.eq_iff_iff, blt_iff, decide_eq_true_iff]
    exact Iff.rfl

theorem aBinS_sound {P : Program} {μ : Mu} {op : BinOp} {l c l' c' : Nat} {a : AV} {v u : Value} (h : aBinS op l c l' c' = some a) (hv : vr μ (.s l c) v) (hu : vr μ (.s l' c') u) (t : TypeId) (xo yo : Operand) (w : World) :
    ∃ z, (do eqGuard op t xo yo v u; binOp op t v u : Sem Value).run P w = .ok z w ∧ vr μ a z := by
  obtain ⟨x, rfl, rfl, rfl⟩ := vr_s.1 hv
  obtain ⟨y, rfl, rfl, rfl⟩ := vr_s.1 hu
  have hg : (eqGuard op t xo yo (.string ⟨⟨x⟩⟩) (.string ⟨⟨y⟩⟩)).run P w = .ok () w := by cases op <;> rfl
  rw [run_bind_ok hg]
  have e1 : ∀ z : List UInt8, (⟨⟨z⟩⟩ : ByteArray).toList = z := fun z => by rw [ByteArray.toList_eq]
  have heq : (x == y) = (Nat.beq x.length y.length && Nat.beq (enc x) (enc y)) := by
    rw [Bool.eq_iff_iff, Bool.and_eq_true, beq_iff', beq_iff', beq_iff_eq]
    exact ⟨fun e => by subst e; exact ⟨rfl, rfl⟩, fun ⟨e1, e2⟩ => enc_inj _ _ e1 e2⟩
  have hle : ∀ p q : List UInt8, (Op.bytesLess p q || (p == q)) = !(Op.bytesLess q p) := by
    intro p q
    induction p generalizing q with
    | nil => cases q <;> simp [Op.bytesLess]
    | cons a p ih =>
      cases q with
      | nil => simp [Op.bytesLess]
      | cons b q =>
        simp only [Op.bytesLess]
        rw [show ((a :: p) == (b :: q)) = ((a == b) && (p == q)) from rfl]
        rcases Nat.lt_trichotomy a.toNat b.toNat with c | c | c
        · have h1 : decide (a < b) = true := by rw [decide_eq_true_iff, UInt8.lt_iff_toNat_lt]; exact c
          have h2 : decide (b < a) = false := by rw [decide_eq_false_iff_not, UInt8.lt_iff_toNat_lt]; omega
          have h3 : (b == a) = false := by rw [beq_eq_false_iff_ne]; intro e; subst e; omega
          simp [h1, h2, h3]
        · have e := UInt8.toNat_inj.1 c
          subst e
          have h1 : decide (a < a) = false := by rw [decide_eq_false_iff_not, UInt8.lt_iff_toNat_lt]; omega
          simp only [h1, Bool.false_or, beq_self_eq_true, Bool.true_and]
          exact ih q
        · have h1 : decide (a < b) = false := by rw [decide_eq_false_iff_not, UInt8.lt_iff_toNat_lt]; omega
          have h2 : decide (b < a) = true := by rw [decide_eq_true_iff, UInt8.lt_iff_toNat_lt]; exact c
          have h3 : (a == b) = false := by rw [beq_eq_false_iff_ne]; intro e; subst e; omega
          simp [h1, h2, h3]
  cases op <;> simp only [aBinS] at h <;> try (cases h; done)
  case add =>
    cases hb : Nat.ble (Nat.add x.length y.length) 1099511627776 with
    | false => rw [hb] at h; cases h
    | true =>
      rw [hb] at h; cases h
      rw [ble_iff, add_eq'] at hb
      refine ⟨.string ⟨⟨x ++ y⟩⟩, ?_, vr_s.2 ⟨x ++ y, rfl, by simp, enc_append x y⟩⟩
      show (Op.stringOp .add _ _).run P w = _
      unfold Op.stringOp
      dsimp only
      rw [if_neg]
      · show Result.ok _ w = _
        congr 2
      · simp only [ByteArray.size, IntKind.max, IntKind.signed, IntKind.bits]
        simp
        omega
  case eql => cases h; exact ⟨_, by show (Op.stringOp .eql _ _).run P w = _; unfold Op.stringOp; dsimp only; rw [e1, e1]; rfl, by simp only [vr]; rw [heq]⟩
  case neq => cases h; exact ⟨_, by show (Op.stringOp .neq _ _).run P w = _; unfold Op.stringOp; dsimp only; rw [e1, e1]; rfl, by simp only [vr]; rw [heq]⟩
  case lss => cases h; exact ⟨_, by show (Op.stringOp .lss _ _).run P w = _; unfold Op.stringOp; dsimp only; rw [e1, e1]; rfl, by simp only [vr]; rw [strLt_eq]⟩
  case leq => cases h; exact ⟨_, by show (Op.stringOp .leq _ _).run P w = _; unfold Op.stringOp; dsimp only; rw [e1, e1]; rfl, by simp only [vr]; rw [strLt_eq, hle]⟩
  case gtr => cases h; exact ⟨_, by show (Op.stringOp .gtr _ _).run P w = _; unfold Op.stringOp; dsimp only; rw [e1, e1]; rfl, by simp only [vr]; rw [strLt_eq, hle, Bool.not_not]⟩
  case geq => cases h; exact ⟨_, by show (Op.stringOp .geq _ _).run P w = _; unfold Op.stringOp; dsimp only; rw [e1, e1]; rfl, by simp only [vr]; rw [strLt_eq]⟩

theorem strs_ne {l : List (Nat × Nat)} {n c : Nat} {s s' : List UInt8} (hd : hasSN l n c = true) (hs : ∀ p ∈ l, ¬ (s.length = p.1 ∧ enc s = p.2)) (hn : s'.length = n) (hc : enc s' = c) : (s == s') = false := by
  rw [beq_eq_false_iff_ne]
  rintro rfl
  induction l with
  | nil => cases hd
  | cons p l ih =>
    simp only [hasSN, Bool.or_eq_true, Bool.and_eq_true, Nat.beq_eq] at hd
    rcases hd with ⟨h1, h2⟩ | hd
    · exact hs p (by simp) ⟨hn.trans h1.symm, hc.trans h2.symm⟩
    · exact ih hd fun q hq => hs q (by simp [hq])
theorem sn_bin {P : Program} {s s' : List UInt8} (h : (s == s') = false) (t : TypeId) (xo yo : Operand) (w : World) :
    (do eqGuard .eql t xo yo (.string ⟨⟨s⟩⟩) (.string ⟨⟨s'⟩⟩); binOp .eql t (.string ⟨⟨s⟩⟩) (.string ⟨⟨s'⟩⟩) : Sem Value).run P w = .ok (.bool false) w ∧
    (do eqGuard .neq t xo yo (.string ⟨⟨s⟩⟩) (.string ⟨⟨s'⟩⟩); binOp .neq t (.string ⟨⟨s⟩⟩) (.string ⟨⟨s'⟩⟩) : Sem Value).run P w = .ok (.bool true) w := by
  have e1 : ∀ z : List UInt8, (⟨⟨z⟩⟩ : ByteArray).toList = z := fun z => by rw [ByteArray.toList_eq]
  constructor
  · rw [run_bind_ok (show (eqGuard .eql t xo yo (.string ⟨⟨s⟩⟩) (.string ⟨⟨s'⟩⟩)).run P w = .ok () w from rfl)]
    show (Op.stringOp .eql _ _).run P w = _
    unfold Op.stringOp; dsimp only; rw [e1, e1, h]; rfl
  · rw [run_bind_ok (show (eqGuard .neq t xo yo (.string ⟨⟨s⟩⟩) (.string ⟨⟨s'⟩⟩)).run P w = .ok () w from rfl)]
    show (Op.stringOp .neq _ _).run P w = _
    unfold Op.stringOp; dsimp only; rw [e1, e1, h]; rfl

theorem aBinI_sound {P : Program} {μ : Mu} {op : BinOp} {k k' : IntKind} {m n : Int} {a : AV} (h : aBinI P op k m k' n = some a) (t : TypeId) (xo yo : Operand) (w : World) :
    ∃ z, (do eqGuard op t xo yo (.int k m) (.int k' n); binOp op t (.int k m) (.int k' n) : Sem Value).run P w = .ok z w ∧ vr μ a z := by
  have hg : (eqGuard op t xo yo (.int k m) (.int k' n)).run P w = .ok () w := by cases op <;> rfl
  rw [run_bind_ok hg]
  have h0 : binOp op t (.int k m) (.int k' n) = binOp op 0 (.int k m) (.int k' n) := by cases op <;> rfl
  unfold aBinI at h
  rcases bsel_some h with ⟨hk, h1⟩ | ⟨_, h1⟩ <;> clear h <;> (rename _ = some a => h)
  · rw [sameK_iff] at hk; subst hk
    have hb : ∀ o : BinOp, o ≠ .shl → o ≠ .shr → binOp o t (.int k m) (.int k n) = (match o with
      | .add | .sub | .mul => Op.intArith o k m n
      | .quo | .rem => Op.intDiv o k m n
      | .and | .or | .xor | .andNot => Op.intBits o k m n
      | _ => Op.intCmp o m n) := by
      intro o h1 h2
      cases o <;> first | (exact absurd rfl h1) | (exact absurd rfl h2) | (simp [binOp])
    cases op <;> dsimp only at h
    case add => cases h; exact ⟨_, by rw [hb _ (by simp) (by simp)]; rfl, by simp only [vr]; rw [wrapI_eq]; rfl⟩
    case sub => cases h; exact ⟨_, by rw [hb _ (by simp) (by simp)]; rfl, by simp only [vr]; rw [wrapI_eq]; rfl⟩
    case lss => cases h; exact ⟨_, by rw [hb _ (by simp) (by simp)]; rfl, by simp only [vr]; rw [ltI_eq]⟩
    case leq => cases h; exact ⟨_, by rw [hb _ (by simp) (by simp)]; rfl, by simp only [vr]; rw [ltI_eq]; congr 1; simp [← decide_not]⟩
    case gtr => cases h; exact ⟨_, by rw [hb _ (by simp) (by simp)]; rfl, by simp only [vr]; rw [ltI_eq]⟩
    case geq => cases h; exact ⟨_, by rw [hb _ (by simp) (by simp)]; rfl, by simp only [vr]; rw [ltI_eq]; congr 1; simp [← decide_not]⟩
    case eql => cases h; exact ⟨_, by rw [hb _ (by simp) (by simp)]; rfl, by simp only [vr]; rw [eqI_eq]⟩
    case neq => cases h; exact ⟨_, by rw [hb _ (by simp) (by simp)]; rfl, by simp only [vr]; rw [eqI_eq]; rfl⟩
    all_goals (rw [h0]; exact pureV_ok h μ w)
  · rw [h0]; exact pureV_ok h μ w

theorem run_equal {P : Program} {t : TypeId} {x y : Value} {b : Bool} {w : World} (h : ∀ d, (Op.equalIn (d + 1) t x y).run P w = .ok b w) : (Op.equal t x y).run P w = .ok b w := h 9999

theorem aEqNil_sound {P : Program} {μ : Mu} {t : TypeId} {x y : AV} {v u : Value} {b : Bool} (h : aEqNil P t x y = some b) (hv : vr μ x v) (hu : vr μ y u) (w : World) :
    (Op.equal t v u).run P w = .ok b w ∧ ∀ op xo yo, (eqGuard op t xo yo v u).run P w = .ok () w := by
  unfold aEqNil at h
  split at h
  case h_1 e ht =>
    split at h <;> try (cases h; done)
    all_goals cases h
    all_goals simp only [vr] at hv hu
    · subst hv; subst hu
      exact ⟨run_equal (fun d => by simp [Op.equalIn, run_underlying ht]), fun op _ _ => by cases op <;> rfl⟩
    · subst hv; obtain ⟨p, _, _, rfl⟩ := hu
      exact ⟨run_equal (fun d => by simp [Op.equalIn, run_underlying ht]), fun op _ _ => by cases op <;> rfl⟩
    · subst hu; obtain ⟨p, _, _, rfl⟩ := hv
      exact ⟨run_equal (fun d => by simp [Op.equalIn, run_underlying ht]), fun op _ _ => by cases op <;> rfl⟩
  case h_2 e ht =>
    split at h <;> try (cases h; done)
    all_goals cases h
    all_goals simp only [vr] at hv hu
    · subst hv; subst hu
      exact ⟨run_equal (fun d => by simp [Op.equalIn, run_underlying ht]), fun op _ _ => by cases op <;> rfl⟩
    · subst hv; obtain ⟨p, c, _, _, rfl, _⟩ := hu
      exact ⟨run_equal (fun d => by simp [Op.equalIn, run_underlying ht]), fun op _ _ => by cases op <;> rfl⟩
    · subst hv; obtain ⟨p, c, off, _, rfl⟩ := hu
      exact ⟨run_equal (fun d => by simp [Op.equalIn, run_underlying ht]), fun op _ _ => by cases op <;> rfl⟩
    · subst hu; obtain ⟨p, c, _, _, rfl, _⟩ := hv
      exact ⟨run_equal (fun d => by simp [Op.equalIn, run_underlying ht]), fun op _ _ => by cases op <;> rfl⟩
    · subst hu; obtain ⟨p, c, off, _, rfl⟩ := hv
      exact ⟨run_equal (fun d => by simp [Op.equalIn, run_underlying ht]), fun op _ _ => by cases op <;> rfl⟩
  case h_3 e1 e2 ht =>
    split at h <;> try (cases h; done)
    all_goals cases h
    all_goals simp only [vr] at hv hu
    · subst hv; subst hu
      exact ⟨run_equal (fun d => by simp [Op.equalIn, run_underlying ht]), fun op _ _ => by cases op <;> rfl⟩
    · subst hv; obtain ⟨p, _, rfl⟩ := hu
      exact ⟨run_equal (fun d => by simp [Op.equalIn, run_underlying ht]), fun op _ _ => by cases op <;> rfl⟩
    · subst hu; obtain ⟨p, _, rfl⟩ := hv
      exact ⟨run_equal (fun d => by simp [Op.equalIn, run_underlying ht]), fun op _ _ => by cases op <;> rfl⟩
  case h_4 e1 e2 e3 ht =>
    split at h <;> try (cases h; done)
    all_goals cases h
    all_goals simp only [vr] at hv hu
    · subst hv; subst hu
      exact ⟨run_equal (fun d => by simp [Op.equalIn, run_underlying ht]), fun op _ _ => by cases op <;> rfl⟩
    · subst hv; obtain ⟨xs, ys, rfl, _⟩ := hu
      exact ⟨run_equal (fun d => by simp [Op.equalIn, run_underlying ht]), fun op _ _ => by cases op <;> rfl⟩
    · subst hu; obtain ⟨xs, ys, rfl, _⟩ := hv
      exact ⟨run_equal (fun d => by simp [Op.equalIn, run_underlying ht]), fun op _ _ => by cases op <;> rfl⟩
  case h_5 ms ht =>
    split at h <;> try (cases h; done)
    all_goals cases h
    all_goals simp only [vr] at hv hu
    · subst hv; obtain ⟨z, rfl, _⟩ := hu
      exact ⟨run_equal (fun d => by simp [Op.equalIn, run_underlying ht]), fun op _ _ => by cases op <;> rfl⟩
    · subst hu; obtain ⟨z, rfl, _⟩ := hv
      exact ⟨run_equal (fun d => by simp [Op.equalIn, run_underlying ht]), fun op _ _ => by cases op <;> rfl⟩
  case h_6 => cases h

/-- two integers, or two strings: the operator looks at the values alone -/
theorem binOp_eql {P : Program} {t : TypeId} {v u : Value} {b : Bool} {w : World} (h : (Op.equal t v u).run P w = .ok b w) (hi : ∀ k n, v ≠ .int k n) (hs : ∀ s, v ≠ .string s)
    (hf : ∀ k n, v ≠ .float k n) (hc : ∀ k m n, v ≠ .complex k m n) :
    (binOp .eql t v u).run P w = .ok (.bool b) w ∧ (binOp .neq t v u).run P w = .ok (.bool (!b)) w := by
  have e1 : binOp .eql t v u = (do pure (.bool (← Op.equal t v u))) := by
    cases v <;> first | (exact absurd rfl (hi _ _)) | (exact absurd rfl (hs _)) | (exact absurd rfl (hf _ _)) | (exact absurd rfl (hc _ _ _)) | (cases u <;> rfl)
  have e2 : binOp .neq t v u = (do pure (.bool (!(← Op.equal t v u)))) := by
    cases v <;> first | (exact absurd rfl (hi _ _)) | (exact absurd rfl (hs _)) | (exact absurd rfl (hf _ _)) | (exact absurd rfl (hc _ _ _)) | (cases u <;> rfl)
  rw [e1, e2, run_bind_ok h, run_bind_ok h]
  exact ⟨rfl, rfl⟩

theorem aEqNil_kind {P : Program} {μ : Mu} {t : TypeId} {x y : AV} {v : Value} {b : Bool} (h : aEqNil P t x y = some b) (hv : vr μ x v) :
    (∀ k n, v ≠ .int k n) ∧ (∀ s, v ≠ .string s) ∧ (∀ k n, v ≠ .float k n) ∧ (∀ k m n, v ≠ .complex k m n) := by
  have hx : x = .nilp ∨ (∃ o k, x = .ptr o k) ∨ x = .nils ∨ (∃ o k l c kn e, x = .sl o k l c kn e) ∨ (∃ o, x = .loose o) ∨ x = .nilm ∨ (∃ o, x = .mp o) ∨ x = .nilf ∨ (∃ f a b, x = .fn f a b) ∨ x = .nili ∨ (∃ t a, x = .ifc t a) := by
    unfold aEqNil at h
    split at h <;> first | (cases h; done) | (split at h <;> first | (cases h; done) | simp)
  rcases hx with rfl | ⟨o, k, rfl⟩ | rfl | ⟨o, k, l, c, kn, e, rfl⟩ | ⟨o, rfl⟩ | rfl | ⟨o, rfl⟩ | rfl | ⟨f, a, b, rfl⟩ | rfl | ⟨t, a, rfl⟩ <;> simp only [vr] at hv
  case inr.inl => obtain ⟨p, _, _, rfl⟩ := hv; simp
  case inr.inr.inr.inl => obtain ⟨p, c, _, _, rfl, _⟩ := hv; simp
  case inr.inr.inr.inr.inl => obtain ⟨p, c, off, _, rfl⟩ := hv; simp
  case inr.inr.inr.inr.inr.inr.inl => obtain ⟨p, _, rfl⟩ := hv; simp
  case inr.inr.inr.inr.inr.inr.inr.inr.inl => obtain ⟨xs, ys, rfl, _⟩ := hv; simp
  case inr.inr.inr.inr.inr.inr.inr.inr.inr.inr => obtain ⟨z, rfl, _⟩ := hv; simp
  all_goals (subst hv; simp)

theorem bsel_some' {α : Type} {b : Bool} {x y : Option α} {a : α} (h : bsel b x y = some a) : (b = true ∧ x = some a) ∨ (b = false ∧ y = some a) := by
  cases b with
  | true => exact .inl ⟨rfl, h⟩
  | false => exact .inr ⟨rfl, h⟩
theorem aBin_sound {P : Program} {μ : Mu} {op : BinOp} {t : TypeId} {xo yo : Operand} {x y a : AV} {v u : Value} (h : aBin P op t xo yo x y = some a) (hv : vr μ x v) (hu : vr μ y u) (w : World) :
    ∃ z, (do eqGuard op t xo yo v u; binOp op t v u : Sem Value).run P w = .ok z w ∧ vr μ a z := by
  unfold aBin at h
  split at h
  · simp only [vr] at hv hu; subst hv; subst hu; exact aBinI_sound h t xo yo w
  · exact aBinS_sound h hv hu t xo yo w
  · rename_i k m n
    split at h
    · cases hc : (sameK k .i64 && ltI m (.ofNat (Nat.succ n))) with
      | false => rw [hc] at h; cases h
      | true =>
        rw [hc] at h; cases h
        rw [Bool.and_eq_true, sameK_iff, ltI_eq, decide_eq_true_iff] at hc
        obtain ⟨rfl, hlt⟩ := hc
        simp only [vr] at hv hu ⊢
        subst hv
        obtain ⟨c, hle, rfl⟩ := hu
        refine ⟨_, rfl, ?_⟩
        show Value.bool (decide (m > Int.ofNat c)) = _
        rw [decide_eq_false]
        have h1 : Int.ofNat (Nat.succ n) = (n : Int) + 1 := rfl
        have h2 : (n : Int) ≤ (c : Int) := Int.ofNat_le.2 hle
        rw [h1] at hlt
        show ¬ ((c : Int) < m)
        omega
    · cases h
  · rename_i n k m
    rcases bsel_some' h with ⟨hc, h'⟩ | ⟨_, h'⟩
    · rw [Bool.and_eq_true, sameK_iff, ltI_eq, decide_eq_true_iff] at hc
      obtain ⟨rfl, hlt⟩ := hc
      simp only [vr] at hv hu
      subst hu
      obtain ⟨c, hle, rfl⟩ := hv
      have h1 : Int.ofNat (Nat.succ n) = (n : Int) + 1 := rfl
      have h2 : (n : Int) ≤ (c : Int) := Int.ofNat_le.2 hle
      rw [h1] at hlt
      split at h'
      · cases h'
        refine ⟨_, rfl, ?_⟩
        simp only [vr]
        show Value.bool (decide (Int.ofNat c < m)) = _
        rw [decide_eq_false]
        show ¬ ((c : Int) < m)
        omega
      · cases h'
        refine ⟨_, rfl, ?_⟩
        simp only [vr]
        show Value.bool (decide (Int.ofNat c ≥ m)) = _
        rw [decide_eq_true]
        show m ≤ (c : Int)
        omega
      · rcases bsel_some' h' with ⟨hd, h'⟩ | ⟨_, h'⟩
        · cases h'
          rw [ltI_eq, decide_eq_true_iff] at hd
          have hd : m < (n : Int) := hd
          refine ⟨_, rfl, ?_⟩
          simp only [vr]
          show Value.bool (decide (Int.ofNat c > m)) = _
          rw [decide_eq_true]
          show m < (c : Int)
          omega
        · cases h'
      · rcases bsel_some' h' with ⟨hd, h'⟩ | ⟨_, h'⟩
        · cases h'
          rw [ltI_eq, decide_eq_true_iff] at hd
          have hd : m < (n : Int) := hd
          refine ⟨_, rfl, ?_⟩
          simp only [vr]
          show Value.bool (decide (Int.ofNat c ≤ m)) = _
          rw [decide_eq_false]
          show ¬ ((c : Int) ≤ m)
          omega
        · cases h'
      · rcases bsel_some' h' with ⟨hd, h'⟩ | ⟨_, h'⟩
        · cases h'
          rw [ltI_eq, decide_eq_true_iff] at hd
          have hd : m < (n : Int) := hd
          refine ⟨_, rfl, ?_⟩
          simp only [vr]
          show Value.bool (Int.ofNat c == m) = _
          rw [show (Int.ofNat c == m) = false from by rw [beq_eq_false_iff_ne]; intro e; have e : (c : Int) = m := e; omega]
        · cases h'
      · cases h'
    · cases h'
  · rename_i k m
    rcases bsel_some' h with ⟨hc, h'⟩ | ⟨_, h'⟩
    · rw [Bool.and_eq_true, sameK_iff, ltI_eq, decide_eq_true_iff] at hc
      obtain ⟨rfl, hlt⟩ := hc
      simp only [vr] at hv hu
      subst hu
      obtain ⟨c, rfl⟩ := hv
      have h1 : Int.negSucc c < 0 := Int.negSucc_lt_zero c
      have h2 : Int.negSucc 0 = -1 := rfl
      rw [h2] at hlt
      split at h'
      · cases h'
        refine ⟨_, rfl, ?_⟩
        simp only [vr]
        show Value.bool (decide (Int.negSucc c < m)) = _
        rw [decide_eq_true]
        omega
      · cases h'
        refine ⟨_, rfl, ?_⟩
        simp only [vr]
        show Value.bool (decide (Int.negSucc c ≥ m)) = _
        rw [decide_eq_false]
        omega
      · cases h'
        refine ⟨_, rfl, ?_⟩
        simp only [vr]
        show Value.bool (decide (Int.negSucc c > m)) = _
        rw [decide_eq_false]
        omega
      · cases h'
        refine ⟨_, rfl, ?_⟩
        simp only [vr]
        show Value.bool (decide (Int.negSucc c ≤ m)) = _
        rw [decide_eq_true]
        omega
      · cases h'
        refine ⟨_, rfl, ?_⟩
        simp only [vr]
        show Value.bool (Int.negSucc c == m) = _
        rw [show (Int.negSucc c == m) = false from by rw [beq_eq_false_iff_ne]; intro e; omega]
      · cases h'
    · cases h'
  · rename_i l n c
    simp only [vr] at hv hu
    obtain ⟨s, rfl, hs⟩ := hv
    obtain ⟨s', rfl, hn, hc⟩ := hu
    split at h
    · rcases bsel_some' h with ⟨hd, h'⟩ | ⟨_, h'⟩
      · cases h'
        exact ⟨.bool false, (sn_bin (strs_ne hd hs hn hc) t xo yo w).1, by simp only [vr]⟩
      · cases h'
    · rcases bsel_some' h with ⟨hd, h'⟩ | ⟨_, h'⟩
      · cases h'
        exact ⟨.bool true, (sn_bin (strs_ne hd hs hn hc) t xo yo w).2, by simp only [vr]⟩
      · cases h'
    · cases h
  · split at h
    · rename_i v' u' h1 h2
      rw [toV_vr 6 _ _ _ h1 hv, toV_vr 6 _ _ _ h2 hu]
      exact pureV_ok h μ w
    · split at h
      · split at h
        · rename_i b hb; cases h
          obtain ⟨h1, h2⟩ := aEqNil_sound hb hv hu w
          obtain ⟨k1, k2, k3, k4⟩ := aEqNil_kind hb hv
          exact ⟨.bool b, by rw [run_bind_ok (h2 _ _ _)]; exact (binOp_eql h1 k1 k2 k3 k4).1, by simp only [vr]⟩
        · cases h
      · split at h
        · rename_i b hb; cases h
          obtain ⟨h1, h2⟩ := aEqNil_sound hb hv hu w
          obtain ⟨k1, k2, k3, k4⟩ := aEqNil_kind hb hv
          exact ⟨.bool (!b), by rw [run_bind_ok (h2 _ _ _)]; exact (binOp_eql h1 k1 k2 k3 k4).2, by simp only [vr]⟩
        · cases h
      · cases h

end Go.Proofs.Ytkccnomdfkhfnaa.Ev
