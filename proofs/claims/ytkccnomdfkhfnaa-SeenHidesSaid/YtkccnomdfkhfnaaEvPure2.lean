/- What functions of the program compute, written down; read off their code. -/
import Derived.Test.YtkccnomdfkhfnaaEvPure
set_option linter.unusedSimpArgs false
set_option linter.unusedVariables false
namespace Go.Proofs.Ytkccnomdfkhfnaa.Ev
open Go.RowKit

theorem aUn_sound {P : Program} {μ : Mu} {op : UnOp} {x a : AV} {v : Value} (h : aUn P op x = some a) (hv : vr μ x v) (w : World) : ∃ z, (Op.unary op v).run P w = .ok z w ∧ vr μ a z := by
  unfold aUn at h
  split at h
  · rename_i b; cases h; simp only [vr] at hv; subst hv; exact ⟨.bool (!b), rfl, by simp only [vr]⟩
  · split at h
    · rename_i v' h1; rw [toV_vr 2 _ _ _ h1 hv]; exact pureV_ok h μ w
    · cases h

theorem aConvP_sound {P : Program} {μ : Mu} {s d : TypeId} {x a : AV} {v : Value} (h : aConvP P s d x = some a) (hv : vr μ x v) (w : World) : ∃ z, (convert s d v).run P w = .ok z w ∧ vr μ a z := by
  unfold aConvP at h
  split at h
  · rename_i ds k k' n h1 h2
    cases h; simp only [vr] at hv; subst hv
    refine ⟨.int k (k.wrap n), ?_, by simp only [vr]; rw [wrapI_eq]⟩
    unfold convert
    rw [run_bind_ok (run_underlying h1 w), run_bind_ok (run_underlying h2 w)]
    cases ds <;> rfl
  · rename_i ds l c h1 h2
    cases h
    obtain ⟨bs, rfl, e1, e2⟩ := vr_s.1 hv
    refine ⟨.string ⟨⟨bs⟩⟩, ?_, vr_s.2 ⟨bs, rfl, e1, e2⟩⟩
    unfold convert
    rw [run_bind_ok (run_underlying h1 w), run_bind_ok (run_underlying h2 w)]
    cases ds <;> rfl
  · split at h
    · rename_i v' h1; rw [toV_vr 2 _ _ _ h1 hv]; exact pureV_ok h μ w
    · cases h

theorem aLen_sound {P : Program} {μ : Mu} {t : TypeId} {x a : AV} {v : Value} (h : aLen P t x = some a) (hv : vr μ x v) (ty : TypeId) (w : World) :
    ∃ z, (Builtin.len_ #[t] ty #[v]).run P w = .ok z w ∧ vr μ a z := by
  unfold aLen at h
  split at h <;> try (cases h; done)
  all_goals cases h
  all_goals rename_i ht
  · obtain ⟨bs, rfl, e1, e2⟩ := vr_s.1 hv
    exact ⟨goInt (ByteArray.size ⟨⟨bs⟩⟩ : Nat), by show (underlying t >>= fun d => _).run P w = _; rw [run_bind_ok (run_underlying ht w)]; rfl, by simp only [vr]; rw [← e1]; rfl⟩
  · simp only [vr] at hv ⊢; subst hv; exact ⟨goInt 0, by simp [Builtin.len_, run_underlying ht], rfl⟩
  · simp only [vr] at hv ⊢; rename_i n _ _ _; obtain ⟨p, c, _, _, rfl, _⟩ := hv; exact ⟨goInt (n : Nat), by simp [Builtin.len_, run_underlying ht], rfl⟩
  · simp only [vr] at hv ⊢; obtain ⟨p, c, off, _, rfl⟩ := hv; exact ⟨goInt 0, by simp [Builtin.len_, run_underlying ht], rfl⟩
  · rename_i n _; simp only [vr]; exact ⟨goInt (n : Nat), by simp [Builtin.len_, run_underlying ht], rfl⟩
  · simp only [vr] at hv ⊢; subst hv; exact ⟨goInt 0, by simp [Builtin.len_, run_underlying ht], rfl⟩

theorem aCap_sound {P : Program} {μ : Mu} {t : TypeId} {x a : AV} {v : Value} (h : aCap P t x = some a) (hv : vr μ x v) (ty : TypeId) (w : World) :
    ∃ z, (Builtin.cap_ #[t] ty #[v]).run P w = .ok z w ∧ vr μ a z := by
  unfold aCap at h
  split at h <;> try (cases h; done)
  all_goals cases h
  all_goals rename_i ht
  · simp only [vr] at hv ⊢; subst hv; exact ⟨goInt 0, by simp [Builtin.cap_, run_underlying ht], rfl⟩
  · simp only [vr] at hv ⊢; obtain ⟨p, c, _, _, rfl, _, _, hc, _⟩ := hv; rw [hc trivial]; exact ⟨_, by simp [Builtin.cap_, run_underlying ht]; rfl, rfl⟩
  · simp only [vr] at hv ⊢; obtain ⟨p, c, _, _, rfl, _, hc, _⟩ := hv; exact ⟨goInt (c : Nat), by simp [Builtin.cap_, run_underlying ht], c, hc, rfl⟩
  · simp only [vr] at hv ⊢; obtain ⟨p, c, off, _, rfl⟩ := hv; exact ⟨goInt (c : Nat), by simp [Builtin.cap_, run_underlying ht], c, Nat.zero_le _, rfl⟩

theorem toVs_vr {μ : Mu} : ∀ (l : List AV) (xs vs : List Value), toVs l = some xs → vrL μ l vs → vs = xs
  | [], xs, vs, h, hv => by simp [toVs] at h; simp only [vrL] at hv; rw [hv, h]
  | a :: l, xs, vs, h, hv => by
    simp only [toVs] at h
    simp only [vrL] at hv
    obtain ⟨v, r, rfl, h2, h3⟩ := hv
    split at h
    · rename_i y hy
      split at h
      · rename_i ys hys; cases h; rw [toV_vr 2 _ _ _ hy h2, toVs_vr l ys r hys h3]
      · cases h
    · cases h

theorem okTup_vr {μ : Mu} {ok b : Bool} {a : AV} {v : Value} (h : vr μ a v) : vr μ (okTup ok a b) (if ok then .tuple #[v, .bool b] else v) := by
  unfold okTup
  cases ok
  · exact h
  · simp only [cond_true, if_true, vr]
    exact ⟨[v, .bool b], rfl, vrL_cons.2 ⟨h, vrL_cons.2 ⟨by simp only [vr], by simp only [vrL]⟩⟩⟩

theorem aTypeAssert_sound {P : Program} {μ : Mu} {xt at_ : TypeId} {ok : Bool} {x a : AV} {v : Value} (h : aTypeAssert P at_ ok x = some a) (hv : vr μ x v) (w : World) :
    ∃ z, (Instr.typeAssert v xt at_ ok).run P w = .ok z w ∧ vr μ a z := by
  have hfail : ∀ {a' : AV}, aFails P at_ ok = some a' → ok = true ∧ ∃ z, (zeroValue at_).run P w = .ok z w ∧ vr μ a' (.tuple #[z, .bool false]) := by
    intro a' h
    unfold aFails at h
    cases ok
    · cases h
    · simp only [cond_true] at h
      split at h
      · rename_i z hz; cases h
        obtain ⟨z', h1, h2⟩ := run_zeroValue hz μ w
        exact ⟨rfl, z', h1, by simp only [vr]; exact ⟨[z', .bool false], rfl, vrL_cons.2 ⟨h2, vrL_cons.2 ⟨by simp only [vr], by simp only [vrL]⟩⟩⟩⟩
      · cases h
  unfold aTypeAssert at h
  split at h
  · rename_i want hu
    split at h
    · rename_i t a'
      simp only [vr] at hv
      obtain ⟨u, rfl, hu'⟩ := hv
      split at h
      · rename_i i hi
        split at h
        · rename_i hm; cases h
          refine ⟨if ok then .tuple #[.iface t u, .bool true] else .iface t u, ?_, okTup_vr (by simp only [vr]; exact ⟨u, rfl, hu'⟩)⟩
          simp [Instr.typeAssert, run_underlying hu, run_typeInfo hi, hm]
        · rename_i m hm
          obtain ⟨rfl, z, h1, h2⟩ := hfail h
          exact ⟨_, by simp [Instr.typeAssert, run_underlying hu, run_typeInfo hi, hm, h1], h2⟩
      · cases h
    · simp only [vr] at hv; subst hv
      obtain ⟨rfl, z, h1, h2⟩ := hfail h
      exact ⟨_, by simp [Instr.typeAssert, run_underlying hu, h1], h2⟩
    · cases h
  · rename_i d hnd hu
    split at h
    · rename_i t a'
      simp only [vr] at hv
      obtain ⟨u, rfl, hu'⟩ := hv
      cases hb : Nat.beq t at_ with
      | true =>
        rw [hb] at h; cases h
        rw [beq_iff'] at hb; subst hb
        refine ⟨if ok then .tuple #[u, .bool true] else u, ?_, okTup_vr hu'⟩
        unfold Instr.typeAssert
        simp [run_underlying hu]
      | false =>
        rw [hb] at h
        obtain ⟨rfl, z, h1, h2⟩ := hfail h
        have hne : ¬ t = at_ := fun e => by rw [← beq_iff', hb] at e; cases e
        exact ⟨_, by unfold Instr.typeAssert; simp [run_underlying hu, hne, h1], h2⟩
    · simp only [vr] at hv; subst hv
      obtain ⟨rfl, z, h1, h2⟩ := hfail h
      exact ⟨_, by unfold Instr.typeAssert; simp [run_underlying hu, h1], h2⟩
    · cases h
  · cases h

theorem enc_index (l : List UInt8) (n : Nat) (h : n < l.length) : (enc l / 256 ^ (l.length - 1 - n)) % 256 = (l[n]).toNat := by
  have e : l = l.take n ++ l[n] :: l.drop (n + 1) := by rw [← List.drop_eq_getElem_cons h, List.take_append_drop]
  have hd : (l.drop (n + 1)).length = l.length - 1 - n := by rw [List.length_drop]; omega
  have h1 := enc_lt (l.drop (n + 1))
  rw [hd] at h1
  have he : enc l = (enc (l.take n) * 256 + (l[n]).toNat) * 256 ^ (l.length - 1 - n) + enc (l.drop (n + 1)) := by
    conv => lhs; rw [e]
    rw [enc_append, enc_cons, List.length_cons, hd, Nat.pow_succ, Nat.add_mul]
    rw [Nat.mul_assoc, Nat.mul_comm 256]
    omega
  have h2 := (l[n]).toNat_lt
  rw [he, Nat.mul_comm, Nat.mul_add_div (Nat.pow_pos (by decide)), Nat.div_eq_of_lt h1]
  omega

theorem enc_slice (l : List UInt8) (a b : Nat) (hab : a ≤ b) (hb : b ≤ l.length) : (enc l / 256 ^ (l.length - b)) % 256 ^ (b - a) = enc ((l.drop a).take (b - a)) := by
  have e : l = l.take a ++ ((l.drop a).take (b - a) ++ l.drop b) := by
    have h1 : (l.drop a).drop (b - a) = l.drop b := by rw [List.drop_drop]; congr 1; omega
    rw [← h1, List.take_append_drop, List.take_append_drop]
  have h1 : ((l.drop a).take (b - a)).length = b - a := by rw [List.length_take, List.length_drop]; omega
  have h2 : (l.drop b).length = l.length - b := by rw [List.length_drop]
  have h3 := enc_lt (l.drop b)
  have h4 := enc_lt ((l.drop a).take (b - a))
  rw [h2] at h3
  rw [h1] at h4
  have he : enc l = (enc (l.take a) * 256 ^ (b - a) + enc ((l.drop a).take (b - a))) * 256 ^ (l.length - b) + enc (l.drop b) := by
    conv => lhs; rw [e]
    rw [enc_append, enc_append, List.length_append, h1, h2, Nat.pow_add, Nat.add_mul, Nat.mul_assoc, Nat.add_assoc]
  rw [he, Nat.mul_comm, Nat.mul_add_div (Nat.pow_pos (by decide)), Nat.div_eq_of_lt h3, Nat.add_zero, Nat.mul_comm, Nat.mul_add_mod, Nat.mod_eq_of_lt h4]

theorem aIndex_sound {P : Program} {μ : Mu} {t : TypeId} {x i a : AV} {v j : Value} (h : aIndex P t x i = some a) (hv : vr μ x v) (hj : vr μ i j) (w : World) :
    ∃ u, (Instr.index t v j).run P w = .ok u w ∧ vr μ a u := by
  unfold aIndex at h
  split at h
  · rename_i len code k n hu
    cases hb : Nat.blt n len with
    | false => rw [hb] at h; cases h
    | true =>
      rw [hb] at h; cases h
      rw [blt_iff] at hb
      obtain ⟨l, rfl, rfl, rfl⟩ := vr_s.1 hv
      simp only [vr] at hj ⊢; subst hj
      refine ⟨.int .u8 (l[n]).toNat, ?_, ?_⟩
      · have hs : (⟨⟨l⟩⟩ : ByteArray)[n]? = some l[n] := by
          rw [getElem?_pos (⟨⟨l⟩⟩ : ByteArray) n (by simpa [ByteArray.size] using hb)]; rfl
        simp [Instr.index, asIntOf, run_underlying hu, hs]
      · congr 1
        exact congrArg Int.ofNat (enc_index l n hb).symm
  · rename_i len e l k n hu
    cases hb : Nat.blt n len with
    | false => rw [hb] at h; cases h
    | true =>
      rw [hb] at h
      rw [blt_iff] at hb
      simp only [cond_true] at h
      split at h
      · rename_i s hs
        simp only [vr] at hv hj; subst hj
        obtain ⟨xs, rfl, hx⟩ := hv
        obtain ⟨u, h1, h2⟩ := run_part h hx w
        refine ⟨u, ?_, h2⟩
        have hlt : (0 : Int) ≤ Int.ofNat n ∧ Int.ofNat n < (len : Int) := ⟨Int.natCast_nonneg n, Int.ofNat_lt.2 hb⟩
        unfold Instr.index
        rw [show (asIntOf (.int k (.ofNat n)) : Sem (IntKind × Int)) = pure (k, .ofNat n) from rfl, run_bind_ok (run_pure P _ w)]
        simp only []
        rw [run_bind_ok (run_underlying hu w)]
        simp only []
        rw [if_pos hlt, run_bind_ok (run_sizeOf hs w)]
        exact h1
      · cases h
  · cases h

def optRel (μ : Mu) : Option AV → Option Value → Prop
  | none, none => True
  | some a, some v => vr μ a v
  | _, _ => False

theorem aBound_none {d : Option Nat} {top n : Nat} (h : aBound none d top = some n) : d = some n := h
theorem aBound_some {μ : Mu} {a : AV} {v : Value} {d : Option Nat} {top n : Nat} (h : aBound (some a) d top = some n) (hv : vr μ a v) : n ≤ top ∧ ∃ k, v = .int k (Int.ofNat n) := by
  unfold aBound at h
  split at h
  · rename_i e; cases e
  · rename_i k m e
    cases e
    cases hb : Nat.ble m top with
    | false => rw [hb] at h; cases h
    | true => rw [hb] at h; cases h; rw [ble_iff] at hb; simp only [vr] at hv; exact ⟨hb, k, hv⟩
  · cases h

theorem run_sliceBound {P : Program} {k : IntKind} {n y y' : Nat} {code : BoundsCode} (h : n ≤ y) (hy : y ≤ y') (w : World) : (Instr.sliceBound (.int k (Int.ofNat n)) y' code).run P w = .ok n w := by
  unfold Instr.sliceBound
  rw [show (asIntOf (.int k (.ofNat n)) : Sem (IntKind × Int)) = pure (k, .ofNat n) from rfl, run_bind_ok (run_pure P _ w)]
  have : (0 : Int) ≤ Int.ofNat n ∧ Int.ofNat n ≤ (y' : Int) := ⟨Int.natCast_nonneg n, Int.ofNat_le.2 (by omega)⟩
  simp only []
  rw [if_pos this]; rfl

theorem aBound_cases {μ : Mu} {x : Option AV} {vx : Option Value} {d : Option Nat} {top n : Nat} (h : aBound x d top = some n) (r : optRel μ x vx) :
    (x = none ∧ vx = none ∧ d = some n) ∨ (∃ a k, x = some a ∧ vx = some (.int k (Int.ofNat n)) ∧ n ≤ top) := by
  cases x with
  | none => cases vx with
    | none => exact .inl ⟨rfl, rfl, h⟩
    | some _ => exact r.elim
  | some a => cases vx with
    | none => exact r.elim
    | some v => obtain ⟨h1, k, rfl⟩ := aBound_some h r; exact .inr ⟨a, k, rfl, rfl, h1⟩

theorem run_sliceBounds {P : Program} {μ : Mu} {isSlice : Bool} {len cap C m h l : Nat} {lo hi mx : Option AV} {vlo vhi vmx : Option Value}
    (h1 : optRel μ lo vlo) (h2 : optRel μ hi vhi) (h3 : optRel μ mx vmx) (hC : cap ≤ C)
    (hm : aBound mx (some cap) cap = some m) (hh : aBound hi (bsel mx.isNone (some len) none) m = some h) (hl : aBound lo (some 0) h = some l) (w : World) :
    (Instr.sliceBounds isSlice len C vlo vhi vmx).run P w = .ok (l, h, if mx.isSome then m else C) w ∧ l ≤ h ∧ m ≤ cap ∧ (hi.isSome ∨ mx.isSome → h ≤ m) ∧ (hi = none → mx = none → h = len) ∧ (mx = none → m = cap) := by
  have S : ∀ (k : IntKind) (n y y' : Nat), n ≤ y → y ≤ y' → ∀ (code : BoundsCode), (Instr.sliceBound (.int k (Int.ofNat n)) y' code).run P w = .ok n w := fun k n y y' a b code => run_sliceBound a b w
  rcases aBound_cases hm h3 with ⟨rfl, rfl, em⟩ | ⟨am, km, rfl, rfl, em⟩ <;> rcases aBound_cases hh h2 with ⟨rfl, rfl, eh⟩ | ⟨ah, kh, rfl, rfl, eh⟩ <;>
    rcases aBound_cases hl h1 with ⟨rfl, rfl, el⟩ | ⟨al, kl, rfl, rfl, el⟩
  · cases em; cases eh; cases el
    exact ⟨rfl, Nat.zero_le _, Nat.le_refl _, by simp, fun _ _ => rfl, fun _ => rfl⟩
  · cases em; cases eh
    refine ⟨?_, el, Nat.le_refl _, by simp, fun _ _ => rfl, fun _ => rfl⟩
    unfold Instr.sliceBounds
    simp only [run_bind', run_pure, S kl l _ _ el (Nat.le_refl _)]; rfl
  · cases em; cases el
    refine ⟨?_, Nat.zero_le _, Nat.le_refl _, fun _ => eh, by simp, fun _ => rfl⟩
    unfold Instr.sliceBounds
    simp only [run_bind', run_pure, S kh h _ _ eh hC]; rfl
  · cases em
    refine ⟨?_, el, Nat.le_refl _, fun _ => eh, by simp, fun _ => rfl⟩
    unfold Instr.sliceBounds
    simp only [run_bind', run_pure, S kh h _ _ eh hC, S kl l _ _ el (Nat.le_refl _)]; rfl
  · cases eh
  · cases eh
  · cases el
    refine ⟨?_, Nat.zero_le _, em, fun _ => eh, by simp, by simp⟩
    unfold Instr.sliceBounds
    simp only [run_bind', run_pure, S km m _ _ em hC, S kh h _ _ eh (Nat.le_refl _)]; rfl
  · refine ⟨?_, el, em, fun _ => eh, by simp, by simp⟩
    unfold Instr.sliceBounds
    simp only [run_bind', run_pure, S km m _ _ em hC, S kh h _ _ eh (Nat.le_refl _), S kl l _ _ el (Nat.le_refl _)]; rfl

theorem aSlice_sound {P : Program} {μ : Mu} {t : TypeId} {x a : AV} {v : Value} {lo hi mx : Option AV} {vlo vhi vmx : Option Value} (h : aSlice P t x lo hi mx = some a) (hv : vr μ x v)
    (h1 : optRel μ lo vlo) (h2 : optRel μ hi vhi) (h3 : optRel μ mx vmx) (w : World) : ∃ u, (Instr.sliceAt t v vlo vhi vmx).run P w = .ok u w ∧ vr μ a u := by
  unfold aSlice at h
  split at h
  · -- a string
    rename_i len code hu
    unfold aSliceS at h
    rcases bsel_some h with ⟨_, h⟩ | ⟨hn, h⟩
    · cases h
    obtain ⟨b, hb, h⟩ := obind_elim h
    obtain ⟨l, hl, h⟩ := obind_elim h
    cases h
    obtain ⟨bs, rfl, rfl, rfl⟩ := vr_s.1 hv
    have hmx : mx = none := by cases mx <;> simp_all
    subst hmx
    have hvmx : vmx = none := by cases vmx with | none => rfl | some _ => exact h3.elim
    subst hvmx
    obtain ⟨g1, g2, g3, g4, g5, g6⟩ := run_sliceBounds (P := P) (isSlice := false) (C := bs.length) h1 h2 h3 (Nat.le_refl _) (show aBound none (some bs.length) bs.length = some bs.length from rfl) (show aBound hi (bsel true (some bs.length) none) bs.length = some b from hb) hl w
    have hble : b ≤ bs.length := by
      cases hi with
      | none => have := g5 rfl rfl; omega
      | some _ => exact g4 (by simp)
    refine ⟨.string ⟨⟨(bs.drop l).take (b - l)⟩⟩, ?_, vr_s.2 ⟨_, rfl, by rw [List.length_take, List.length_drop, sub_eq']; omega, (enc_slice bs l b g2 hble).symm⟩⟩
    unfold Instr.sliceAt
    rw [run_bind_ok (run_underlying hu w)]
    show (Instr.slice t _ vlo vhi none).run P w = _
    unfold Instr.slice
    rw [run_bind_ok (run_underlying hu w)]
    simp only [Option.isSome_none, Bool.false_eq_true, if_false, show ByteArray.size ⟨⟨bs⟩⟩ = bs.length from rfl, run_bind', g1]
    show Result.ok _ w = _
    congr 2
    apply ByteArray.ext
    rw [ByteArray.data_extract]
    apply Array.toList_inj.1
    simp [List.extract_eq_take_drop]
  · -- nil
    rename_i e hu
    obtain ⟨size, hs, h⟩ := obind_elim h
    unfold aSlice0 at h
    obtain ⟨m, hm, h⟩ := obind_elim h
    obtain ⟨b, hb, h⟩ := obind_elim h
    obtain ⟨l, hl, h⟩ := obind_elim h
    cases h
    simp only [vr] at hv ⊢; subst hv
    obtain ⟨g1, g2, g3, g4, g5, g6⟩ := run_sliceBounds (P := P) (isSlice := true) (C := 0) h1 h2 h3 (Nat.le_refl _) hm
      (show aBound hi (bsel mx.isNone (some 0) none) m = some b by
        rcases aBound_cases hb h2 with ⟨rfl, rfl, eh⟩ | ⟨ah, kh, rfl, rfl, eh⟩
        · exact eh
        · obtain ⟨e1, k, e2⟩ := aBound_some hb h2
          have em : m = 0 := by
            rcases aBound_cases hm h3 with ⟨_, _, em⟩ | ⟨_, _, _, _, em⟩
            · cases em; rfl
            · omega
          subst em; exact hb) (show aBound lo (some 0) b = some l by
        have eb : b = 0 := by
          rcases aBound_cases hb h2 with ⟨rfl, rfl, eh⟩ | ⟨ah, kh, rfl, rfl, eh⟩
          · cases mx with
            | none => cases eh; rfl
            | some _ => cases eh
          · omega
        subst eb; exact hl) w
    have eb : b = 0 ∧ l = 0 ∧ m = 0 := by
      have em : m = 0 := by omega
      rcases aBound_cases hb h2 with ⟨rfl, rfl, eh⟩ | ⟨ah, kh, rfl, rfl, eh⟩
      · cases mx with
        | none => cases eh; exact ⟨rfl, by omega, em⟩
        | some _ => cases eh
      · exact ⟨by omega, by omega, em⟩
    obtain ⟨rfl, rfl, rfl⟩ := eb
    refine ⟨.slice none 0 0, ?_, rfl⟩
    unfold Instr.sliceAt
    rw [run_bind_ok (run_underlying hu w)]
    show (Instr.slice t _ vlo vhi vmx).run P w = _
    unfold Instr.slice
    rw [run_bind_ok (run_underlying hu w)]
    simp only [run_bind', g1, run_sizeOf hs]
    cases mx <;> rfl
  · -- a row
    rename_i e o k len cap kn size hu
    obtain ⟨n, hs, h'⟩ := obind_elim h
    clear h
    rename _ = some a => h
    rcases (bsel_some h).symm with ⟨_, h0⟩ | ⟨hn, h0⟩
    · cases h0
    clear h
    rename _ = some a => h
    rw [beq_iff'] at hn; subst hn
    unfold aSliceOf at h
    obtain ⟨m, hm, hA⟩ := obind_elim h
    obtain ⟨b, hb, hB⟩ := obind_elim hA
    obtain ⟨l, hl, hC⟩ := obind_elim hB
    clear h hA hB
    simp only [vr] at hv
    obtain ⟨p, c, q1, q2, rfl, q3, q4, q5, q6, q7⟩ := hv
    obtain ⟨g1, g2, g3, g4, g5, g6⟩ := run_sliceBounds (P := P) (isSlice := true) (C := c) h1 h2 h3 q4 hm hb hl w
    -- the call's result
    have hrun : ∀ M, (if mx.isSome then m else c) = M → (Instr.sliceAt t (.slice (some ⟨p.blk, p.at_ k, none⟩) len c) vlo vhi vmx).run P w =
        .ok (.slice (some (if M = l then ⟨p.blk, p.at_ k, none⟩ else ⟨p.blk, p.at_ k + l * n, none⟩)) (b - l) (M - l)) w := by
      intro M hM
      rw [hM] at g1
      unfold Instr.sliceAt
      rw [run_bind_ok (run_underlying hu w)]
      show (Instr.slice t _ vlo vhi vmx).run P w = _
      unfold Instr.slice
      rw [run_bind_ok (run_underlying hu w)]
      simp only [run_bind', g1, run_sizeOf hs, Option.map_some, add_off]
      by_cases e : M = l
      · rw [if_pos e, if_pos e]; rfl
      · rw [if_neg e, if_neg e]; rfl
    have hbc : b ≤ c := by
      by_cases hx : hi.isSome = true ∨ mx.isSome = true
      · have := g4 hx; omega
      · have e1 : hi = none := by cases hi <;> simp_all
        have e2 : mx = none := by cases mx <;> simp_all
        have := g5 e1 e2; omega
    rcases bsel_some hC with ⟨hx, hD⟩ | ⟨hx, hD⟩ <;> clear hC
    · -- the new capacity is known
      have hM : (if mx.isSome then m else c) = m := by
        cases mx with
        | some _ => rfl
        | none =>
          have hk : kn = true := by simpa [bsel_eq] using hx
          have := q5 hk
          have := g6 rfl
          show c = m
          omega
      have hbm : b ≤ m := by
        by_cases hx : hi.isSome = true ∨ mx.isSome = true
        · exact g4 hx
        · have e1 : hi = none := by cases hi <;> simp_all
          have e2 : mx = none := by cases mx <;> simp_all
          subst e2
          have := g5 e1 rfl
          have hM' : c = m := hM
          omega
      rcases bsel_some hD with ⟨hy, hE⟩ | ⟨hy, hE⟩ <;> clear hD
      · cases hE
        rw [beq_iff'] at hy; subst hy
        refine ⟨_, hrun _ hM, ?_⟩
        simp only [vr]
        refine ⟨p, 0, q1, q2, ?_, q3, Nat.le_refl _, fun _ => rfl, Nat.le_refl _, by omega⟩
        rw [Nat.sub_self, show b - m = 0 from by omega]; simp
      · cases hE
        have hne : ¬ m = l := fun e => by rw [← beq_iff', hy] at e; cases e
        refine ⟨_, hrun _ hM, ?_⟩
        simp only [vr]
        refine ⟨p, m - l, q1, by rw [add_eq']; omega, ?_, q3, Nat.le_refl _, fun _ => rfl, by rw [sub_eq']; omega, ?_⟩
        · rw [if_neg hne, add_eq', mul_eq', p.at_add q2, sub_eq']
        · rw [add_eq', mul_eq', p.at_add q2]
          have : l * n + (m - l) * n = m * n := by rw [← Nat.add_mul]; congr 1; omega
          have : m * n ≤ c * n := Nat.mul_le_mul_right _ (by omega)
          omega
    · -- it is not
      have hxx : mx = none ∧ kn = false := by
        cases mx with
        | some _ => simp [bsel_eq] at hx
        | none => exact ⟨rfl, by simpa [bsel_eq] using hx⟩
      obtain ⟨rfl, rfl⟩ := hxx
      have em := g6 rfl
      subst em
      have hM : (if (none : Option AV).isSome then m else c) = c := rfl
      rcases bsel_some hD with ⟨hy, hE⟩ | ⟨hy, hE⟩ <;> clear hD
      · cases hE
        rw [blt_iff] at hy
        refine ⟨_, hrun _ hM, ?_⟩
        simp only [vr]
        refine ⟨p, c - l, q1, by rw [add_eq']; omega, ?_, q3, by rw [sub_eq']; omega, (fun e => by cases e), by rw [sub_eq']; omega, ?_⟩
        · rw [if_neg (by omega), add_eq', mul_eq', p.at_add q2, sub_eq']
        · rw [add_eq', mul_eq', p.at_add q2]
          have : l * n + (c - l) * n = c * n := by rw [← Nat.add_mul]; congr 1; omega
          omega
      · rcases bsel_some hE with ⟨hz, hF⟩ | ⟨hz, hF⟩ <;> clear hE
        · cases hF
          rw [beq_iff'] at hz; subst hz
          refine ⟨_, hrun _ hM, ?_⟩
          simp only [vr]
          refine ⟨p, c, q1, q2, ?_, q3, Nat.zero_le _, (fun e => by cases e), hbc, q7⟩
          rw [Nat.zero_mul, Nat.add_zero, Nat.sub_zero, Nat.sub_zero, ite_self]
        · obtain ⟨hz', hG⟩ := need_some hF
          cases hG
          rw [beq_iff'] at hz'; subst hz'
          refine ⟨_, hrun _ hM, ?_⟩
          simp only [vr]
          refine ⟨p, c - b, if c = b then p.at_ k else p.at_ k + b * n, q1, ?_⟩
          rw [Nat.sub_self]
          congr 2
          split <;> rfl
  · -- an empty row somewhere
    rename_i e o hu
    obtain ⟨size, hs, h⟩ := obind_elim h
    obtain ⟨hmx, h⟩ := need_some h
    unfold aSlice0 at h
    obtain ⟨m, hm, h⟩ := obind_elim h
    obtain ⟨b, hb, h⟩ := obind_elim h
    obtain ⟨l, hl, h⟩ := obind_elim h
    cases h
    have hmx' : mx = none := by cases mx <;> simp_all
    subst hmx'
    have em : m = 0 := by have := aBound_none hm; cases this; rfl
    subst em
    simp only [vr] at hv ⊢
    obtain ⟨p, c, off, q1, rfl⟩ := hv
    have eb : b = 0 := by
      rcases aBound_cases hb h2 with ⟨rfl, rfl, eh⟩ | ⟨ah, kh, rfl, rfl, eh⟩
      · cases eh; rfl
      · omega
    subst eb
    obtain ⟨g1, g2, g3, g4, g5, g6⟩ := run_sliceBounds (P := P) (isSlice := true) (C := c) h1 h2 h3 (Nat.zero_le _) hm hb hl w
    have el : l = 0 := by omega
    subst el
    refine ⟨.slice (some ⟨p.blk, off, none⟩) 0 c, ?_, p, c, off, q1, rfl⟩
    unfold Instr.sliceAt
    rw [run_bind_ok (run_underlying hu w)]
    show (Instr.slice t _ vlo vhi vmx).run P w = _
    unfold Instr.slice
    rw [run_bind_ok (run_underlying hu w)]
    simp only [run_bind', g1, run_sizeOf hs]
    show Result.ok _ w = _
    congr 2
    simp [add_off]
  · cases h

end Go.Proofs.Ytkccnomdfkhfnaa.Ev
