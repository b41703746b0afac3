/- What SeenCut makes and sees, written down; over data it holds. -/
import Derived.Test.YtkccnomdfkhfnaaGreatSEG
import Derived.Test.YtkccnomdfkhfnaaGreatSEP7
set_option linter.unusedVariables false
set_option linter.unusedSimpArgs false
set_option maxRecDepth 100000
namespace Go.Proofs.YtkccnomdfkhfnaaGreat
open Go.RowKit Go.Proofs.YtkccnomdfkhfnaaGreat.Ev
/-! # 1 -/
theorem F11_ok : F11.pre () ∧ F11.fn () = (true, ()) := ⟨trivial, rfl⟩
theorem scan_spots {w : Wdt} {name : Str} : ∀ (r l : List Spt), (∀ d ∈ r, SpotOk w d) → (∀ d ∈ l, SpotOk w d) → ∀ d ∈ (scanS w name r l).1, SpotOk w d
  | [], l, _, hl => hl
  | d :: r, l, hr, hl => by
    have hd := hr d List.mem_cons_self
    have hadd : ∀ ino, ∀ x ∈ l ++ [(d.1, ino)], SpotOk w x := fun ino x hx => by
      rcases List.mem_append.1 hx with hx | hx
      · exact hl x hx
      · rw [List.mem_singleton] at hx; subst hx; exact hd
    have key : match scanB w name l d with | .inl l' => ∀ x ∈ l', SpotOk w x | .inr y => ∀ x ∈ y.1, SpotOk w x := by
      unfold scanB
      cases nameOf (nodeZ w d) name with
      | none => cases sign w d (white name) <;> exact hl
      | some ino =>
        dsimp only
        cases (nodeZ w (d.1, ino)).2.1 == 2
        · cases h : (Int.ofNat l.length == 0)
          · simp only [h, cond_false]; exact hl
          · simp only [h, cond_true, cond_false]; exact hadd ino
        · cases sign w (d.1, ino) sOpq <;> cases sign w d (white name) <;> exact hadd ino
    simp only [scanS]
    cases q : scanB w name l d with
    | inl l' => rw [q] at key; exact scan_spots r l' (fun x hx => hr x (List.mem_cons_of_mem _ hx)) key
    | inr y => rw [q] at key; exact key

/-! ## one more, behind all that are so -/
def insBy {α : Type} (p : α → Bool) (n : α) : List α → List α
  | [] => [n]
  | x :: r => bif p x then x :: insBy p n r else n :: x :: r
theorem insBy_at {α : Type} (p : α → Bool) (n : α) : ∀ (l : List α) (i : Nat), i ≤ l.length → (∀ j (h : j < l.length), j < i → p l[j] = true) → (∀ h : i < l.length, p l[i] = false) →
    l.take i ++ n :: l.drop i = insBy p n l
  | [], i, _, _, _ => by simp [insBy]
  | x :: r, 0, _, _, h => by
    have := h (by simp)
    simp only [List.getElem_cons_zero] at this
    simp [insBy, this]
  | x :: r, i + 1, hi, h1, h2 => by
    have h0 := h1 0 (by simp) (by omega)
    simp only [List.getElem_cons_zero] at h0
    simp only [insBy, h0, cond_true, List.take_succ_cons, List.drop_succ_cons, List.cons_append]
    rw [insBy_at p n r i (by simpa using hi) (fun j h hj => h1 (j + 1) (Nat.succ_lt_succ h) (by omega)) (fun h => h2 (Nat.succ_lt_succ h))]
theorem insBy_len {α : Type} (p : α → Bool) (n : α) : ∀ l : List α, (insBy p n l).length = l.length + 1
  | [] => rfl
  | x :: r => by unfold insBy; cases p x <;> simp [insBy_len p n r]

/-! ## a node out of a disk -/
def dropS (d : Dkt) (u : Int) : Dkt := (d.1, d.2.1, d.2.2.1, (dkNodes d).filter fun n => n.1 != u)
abbrev st60 (d : Dkt) (u : Int) (l : List Ndt) (i : Nat) : Int × Unit × Unit × List Ndt × Int × Int × Int × Int × List Ndt × Int × Int × Int × Unit × Unit :=
  (u, (), (), l, (i : Int), d.1, d.2.1, d.2.2.1, d.2.2.2, 0, 0, 0, (), ())
theorem F60_ok {d : Dkt} (hn : (dkNodes d).length ≤ 1048576) (u : Int) : F60.pre (d, u, ()) ∧ F60.fn (d, u, ()) = (dropS d u, ()) := by
  obtain ⟨h1, y, h2, h3⟩ := loopP (tr := F60L0)
    (fun x => ∃ i : Nat, x = st60 d u (((dkNodes d).take i).filter fun n => n.1 != u) i ∧ i ≤ (dkNodes d).length)
    (fun x => ((dkNodes d).length - x.2.2.2.2.1).toNat)
    (fun y => y = .inl ((), (), (dkNodes d).filter (fun n => n.1 != u), d.1, d.2.1, d.2.2.1, d.2.2.2, 0, 0, 0, (), ())) (by
      rintro _ ⟨i, rfl, hi⟩
      rcases Nat.lt_or_ge i (dkNodes d).length with g | g
      · have hxi : @id Ndt (xsAt Nd d.2.2.2 i) = (dkNodes d)[i] := xsAt_lt g
        have hi3 : (i : Int) < Int.ofNat (List.length d.2.2.2) := by rw [Int.ofNat_eq_natCast]; exact Int.ofNat_lt.2 g
        have hlen : (((dkNodes d).take i).filter fun n => n.1 != u).length ≤ i := Nat.le_trans (List.length_filter_le _ _) (by rw [List.length_take]; omega)
        have htk : (dkNodes d).take (i + 1) = (dkNodes d).take i ++ [(dkNodes d)[i]] := by rw [List.take_add_one, List.getElem?_eq_getElem g]; rfl
        unfold F60L0
        simp only [Int.toNat_natCast, hxi, ok_node, ok_leaf, allA_cons, allA_one, allA_nil, true_and, wrp_succ (show i < 4611686018427387904 by omega), hi3, decide_true, Int.natCast_nonneg, forall_const, Bool.true_eq_false, false_implies, and_true]
        refine ⟨fun q => ⟨?_, ⟨i + 1, ?_, g⟩, ?_⟩, fun q => ⟨⟨i + 1, ?_, g⟩, ?_⟩⟩
        · rw [List.length_append]; simp only [List.length_cons, List.length_nil]; unfold Room; omega
        · rw [htk, List.filter_append, List.filter_cons_of_pos (by simpa using q), List.filter_nil]
        · omega
        · rw [htk, List.filter_append, List.filter_cons_of_neg (by simpa using q), List.filter_nil, List.append_nil]
        · omega
      · have : i = (dkNodes d).length := by omega
        subst this
        have hi3 : ¬ (((dkNodes d).length : Int) < Int.ofNat (List.length d.2.2.2)) := Int.lt_irrefl _
        unfold F60L0
        simp only [ok_node, ok_leaf, allA_nil, true_and, decide_eq_false hi3, Bool.false_eq_true, false_implies, forall_const]
        rw [List.take_length])
    (st60 d u [] 0) ⟨0, rfl, Nat.zero_le _⟩
  subst h3
  have h1 : loopInv F60L0 (u, (), (), [], (0 : Int), d.1, d.2.1, d.2.2.1, d.2.2.2, (0 : Int), (0 : Int), (0 : Int), (), ()) := h1
  have h2 : loopOut F60L0 (u, (), (), [], (0 : Int), d.1, d.2.1, d.2.2.1, d.2.2.2, (0 : Int), (0 : Int), (0 : Int), (), ()) = some _ := h2
  have hok : (F60 (d, u, ())).Ok (· = (dropS d u, ())) := by
    unfold F60
    simp only [h1, h2, ok_leaf, allA_one, true_and]
    simp [getL, dropS]
  exact hok
theorem dropS_len (d : Dkt) (u : Int) : (dkNodes (dropS d u)).length ≤ (dkNodes d).length := List.length_filter_le _ _

theorem put_len {α : Type} {l : List α} {n : α} {k : Nat} (h : l.length ≤ 1048576) : (l.take k ++ [n] ++ l.drop k).length * 104 ≤ Room ∧ (l.take k ++ [n]).length * 104 ≤ Room ∧ (l.take k).length * 104 ≤ Room := by
  simp only [List.length_append, List.length_cons, List.length_nil, List.length_take, List.length_drop]
  unfold Room
  omega
/-! ## a node into a disk -/
def putS (d : Dkt) (n : Ndt) : Dkt := (d.1, d.2.1, d.2.2.1, insBy (fun x => decide (x.1 < n.1)) n (dkNodes (dropS d n.1)))
abbrev st32 (d : Dkt) (n : Ndt) (i : Nat) : Unit × Unit × Unit × Int × Int × Int × Int × List Ndt × Int × Int × Int × Int × Int × List Bkt × List UInt8 × List Nmt × Int × Int × Int × Unit × Unit :=
  ((), (), (), (i : Int), d.1, d.2.1, d.2.2.1, d.2.2.2, n.1, n.2.1, n.2.2.1, n.2.2.2.1, n.2.2.2.2.1, n.2.2.2.2.2.1, n.2.2.2.2.2.2.1, n.2.2.2.2.2.2.2, 0, 0, 0, (), ())
theorem F32L_ok {d : Dkt} (hn : (dkNodes d).length ≤ 1048576) (n : Ndt) : loopInv F32L0 (st32 d n 0) ∧ ∃ k : Nat, loopOut F32L0 (st32 d n 0) = some (.inl (st32 d n k)) ∧ k ≤ (dkNodes d).length ∧
    (∀ j (h : j < (dkNodes d).length), j < k → decide ((dkNodes d)[j].1 < n.1) = true) ∧ ∀ h : k < (dkNodes d).length, decide ((dkNodes d)[k].1 < n.1) = false := by
  obtain ⟨h1, y, h2, k, rfl, h3, h4, h5⟩ := loopP (tr := F32L0)
    (fun x => ∃ i : Nat, x = st32 d n i ∧ i ≤ (dkNodes d).length ∧ ∀ j (h : j < (dkNodes d).length), j < i → decide ((dkNodes d)[j].1 < n.1) = true)
    (fun x => ((dkNodes d).length - x.2.2.2.1).toNat)
    (fun y => ∃ k : Nat, y = .inl (st32 d n k) ∧ k ≤ (dkNodes d).length ∧
    (∀ j (h : j < (dkNodes d).length), j < k → decide ((dkNodes d)[j].1 < n.1) = true) ∧ ∀ h : k < (dkNodes d).length, decide ((dkNodes d)[k].1 < n.1) = false) (by
      rintro _ ⟨i, rfl, hi, hR⟩
      rcases Nat.lt_or_ge i (dkNodes d).length with g | g
      · have hxi : @id Ndt (xsAt Nd d.2.2.2 i) = (dkNodes d)[i] := xsAt_lt g
        have hi3 : (i : Int) < Int.ofNat (List.length d.2.2.2) := by rw [Int.ofNat_eq_natCast]; exact Int.ofNat_lt.2 g
        unfold F32L0
        simp only [Int.toNat_natCast, hxi, ok_node, ok_leaf, allA_cons, allA_one, allA_nil, true_and, wrp_succ (show i < 4611686018427387904 by omega), hi3, decide_true, Int.natCast_nonneg, forall_const, Bool.true_eq_false, false_implies, and_true]
        refine ⟨fun q => ⟨⟨i + 1, rfl, g, fun j hj hji => ?_⟩, by omega⟩, fun q => ⟨i, rfl, hi, hR, fun _ => q⟩⟩
        rcases Nat.lt_or_ge j i with z | z
        · exact hR j hj z
        · have : j = i := by omega
          subst this; exact q
      · have : i = (dkNodes d).length := by omega
        subst this
        have hi3 : ¬ (((dkNodes d).length : Int) < Int.ofNat (List.length d.2.2.2)) := Int.lt_irrefl _
        unfold F32L0
        simp only [ok_node, ok_leaf, allA_nil, true_and, decide_eq_false hi3, Bool.false_eq_true, false_implies, forall_const]
        exact ⟨_, rfl, hi, hR, fun h => absurd h (Nat.lt_irrefl _)⟩)
    (st32 d n 0) ⟨0, rfl, Nat.zero_le _, fun j _ h => absurd h (Nat.not_lt_zero _)⟩
  exact ⟨h1, k, h2, h3, h4, h5⟩
theorem F32_ok {d : Dkt} (hn : (dkNodes d).length ≤ 1048576) {n : Ndt} (hw : WfE Nd n) : F32.pre (d, n, ()) ∧ F32.fn (d, n, ()) = (putS d n, ()) := by
  obtain ⟨p0, e0⟩ := F60_ok hn n.1
  have hl : (dkNodes (dropS d n.1)).length ≤ 1048576 := Nat.le_trans (dropS_len _ _) hn
  obtain ⟨h1, k, h2, h3, h4, h5⟩ := F32L_ok hl n
  have h1 : loopInv F32L0 ((), (), (), (0 : Int), (dropS d n.1).1, (dropS d n.1).2.1, (dropS d n.1).2.2.1, (dropS d n.1).2.2.2, n.1, n.2.1, n.2.2.1, n.2.2.2.1, n.2.2.2.2.1, n.2.2.2.2.2.1, n.2.2.2.2.2.2.1, n.2.2.2.2.2.2.2, (0 : Int), (0 : Int), (0 : Int), (), ()) := h1
  have h2 : loopOut F32L0 ((), (), (), (0 : Int), (dropS d n.1).1, (dropS d n.1).2.1, (dropS d n.1).2.2.1, (dropS d n.1).2.2.2, n.1, n.2.1, n.2.2.1, n.2.2.2.1, n.2.2.2.2.1, n.2.2.2.2.2.1, n.2.2.2.2.2.2.1, n.2.2.2.2.2.2.2, (0 : Int), (0 : Int), (0 : Int), (), ()) = some (.inl (st32 (dropS d n.1) n k)) := h2
  obtain ⟨p1, e1⟩ := F28_ok hw
  have hk : (k : Int) ≤ Int.ofNat (List.length (dropS d n.1).2.2.2) := by rw [Int.ofNat_eq_natCast]; exact Int.ofNat_le.2 h3
  have ht : ((dkNodes (dropS d n.1)).take k).length ≤ 1048576 := by rw [List.length_take]; omega
  have hok : (F32 (d, n, ())).Ok (· = (putS d n, ())) := by
    unfold F32
    simp only [e0, h1, h2, p0, p1, e1, getL, Int.toNat_natCast, ok_leaf, allA_cons, allA_one, true_and, List.nil_append, hk, Int.natCast_nonneg]
    refine ⟨⟨(put_len hl).1, (put_len hl).2.1, (put_len (n := n) hl).2.2, trivial⟩, ?_⟩
    unfold putS
    rw [List.append_assoc, List.singleton_append]
    exact congrArg (fun (z : List Ndt) => (((dropS d n.1).1, (dropS d n.1).2.1, (dropS d n.1).2.2.1, z), ())) (insBy_at _ _ _ k h3 h4 h5)
  exact hok
/-! # 2 -/

/-! ## a name out of a directory, a name into one -/
abbrev setNames (n : Ndt) (l : List Nmt) : Ndt := (n.1, n.2.1, n.2.2.1, n.2.2.2.1, n.2.2.2.2.1, n.2.2.2.2.2.1, n.2.2.2.2.2.2.1, l)
def outS (n : Ndt) (s : Str) : Ndt := setNames n ((ndNames n).filter fun x => !(x.1 == s))
abbrev st90 (n : Ndt) (s : Str) (l : List Nmt) (i : Nat) : List UInt8 × Unit × Unit × List Nmt × Int × Int × Int × Int × Int × Int × List Bkt × List UInt8 × List Nmt × Int × Int × Int × Int × Int × Unit × List UInt8 × Unit × Unit :=
  (s, (), (), l, (i : Int), n.1, n.2.1, n.2.2.1, n.2.2.2.1, n.2.2.2.2.1, n.2.2.2.2.2.1, n.2.2.2.2.2.2.1, n.2.2.2.2.2.2.2, 0, 0, 0, 0, 0, (), dec 0 0 [], (), ())
theorem F90_ok {n : Ndt} (hn : (ndNames n).length ≤ 1048576) (s : Str) : F90.pre (n, s, ()) ∧ F90.fn (n, s, ()) = (outS n s, ()) := by
  obtain ⟨h1, y, h2, h3⟩ := loopP (tr := F90L0)
    (fun x => ∃ i : Nat, x = st90 n s (((ndNames n).take i).filter fun x => !(x.1 == s)) i ∧ i ≤ (ndNames n).length)
    (fun x => ((ndNames n).length - x.2.2.2.2.1).toNat)
    (fun y => y = .inl ((), (), (ndNames n).filter (fun x => !(x.1 == s)), n.1, n.2.1, n.2.2.1, n.2.2.2.1, n.2.2.2.2.1, n.2.2.2.2.2.1, n.2.2.2.2.2.2.1, n.2.2.2.2.2.2.2, 0, 0, 0, 0, 0, (), dec 0 0 [], (), ())) (by
      rintro _ ⟨i, rfl, hi⟩
      rcases Nat.lt_or_ge i (ndNames n).length with g | g
      · have hxi : @id Nmt (xsAt Nm n.2.2.2.2.2.2.2 i) = (ndNames n)[i] := xsAt_lt g
        have hi3 : (i : Int) < Int.ofNat (List.length n.2.2.2.2.2.2.2) := by rw [Int.ofNat_eq_natCast]; exact Int.ofNat_lt.2 g
        have hlen : (((ndNames n).take i).filter fun x => !(x.1 == s)).length ≤ i := Nat.le_trans (List.length_filter_le _ _) (by rw [List.length_take]; omega)
        have htk : (ndNames n).take (i + 1) = (ndNames n).take i ++ [(ndNames n)[i]] := by rw [List.take_add_one, List.getElem?_eq_getElem g]; rfl
        unfold F90L0
        simp only [Int.toNat_natCast, hxi, ok_node, ok_leaf, allA_cons, allA_one, allA_nil, true_and, wrp_succ (show i < 4611686018427387904 by omega), hi3, decide_true, Int.natCast_nonneg, forall_const, Bool.true_eq_false, false_implies, and_true]
        refine ⟨fun q => ⟨?_, ⟨i + 1, ?_, g⟩, ?_⟩, fun q => ⟨⟨i + 1, ?_, g⟩, ?_⟩⟩
        · rw [List.length_append]; simp only [List.length_cons, List.length_nil]; unfold Room; omega
        · rw [htk, List.filter_append, List.filter_cons_of_pos (by rw [q]), List.filter_nil]
        · omega
        · rw [htk, List.filter_append, List.filter_cons_of_neg (by rw [q]; exact Bool.false_ne_true), List.filter_nil, List.append_nil]
        · omega
      · have : i = (ndNames n).length := by omega
        subst this
        have hi3 : ¬ (((ndNames n).length : Int) < Int.ofNat (List.length n.2.2.2.2.2.2.2)) := Int.lt_irrefl _
        unfold F90L0
        simp only [ok_node, ok_leaf, allA_nil, true_and, decide_eq_false hi3, Bool.false_eq_true, false_implies, forall_const]
        rw [List.take_length])
    (st90 n s [] 0) ⟨0, rfl, Nat.zero_le _⟩
  subst h3
  have h1 : loopInv F90L0 (s, (), (), [], (0 : Int), n.1, n.2.1, n.2.2.1, n.2.2.2.1, n.2.2.2.2.1, n.2.2.2.2.2.1, n.2.2.2.2.2.2.1, n.2.2.2.2.2.2.2, (0 : Int), (0 : Int), (0 : Int), (0 : Int), (0 : Int), (), (dec 0 0 []), (), ()) := h1
  have h2 : loopOut F90L0 (s, (), (), [], (0 : Int), n.1, n.2.1, n.2.2.1, n.2.2.2.1, n.2.2.2.2.1, n.2.2.2.2.2.1, n.2.2.2.2.2.2.1, n.2.2.2.2.2.2.2, (0 : Int), (0 : Int), (0 : Int), (0 : Int), (0 : Int), (), (dec 0 0 []), (), ()) = some _ := h2
  have hok : (F90 (n, s, ())).Ok (· = (outS n s, ())) := by
    unfold F90
    simp only [h1, h2, ok_leaf, allA_one, true_and]
    simp [getL, outS]
  exact hok
def inS (n : Ndt) (s : Str) (u : Int) : Ndt := setNames n (insBy (fun x => Op.bytesLess x.1 s) (s, u) (ndNames (outS n s)))
abbrev st61 (n : Ndt) (s : Str) (u : Int) (i : Nat) : List UInt8 × Int × Unit × Unit × Int × Int × Int × Int × Int × Int × List Bkt × List UInt8 × List Nmt × Int × Int × Int × Int × Int × Unit × List UInt8 × Unit × Unit :=
  (s, u, (), (), (i : Int), n.1, n.2.1, n.2.2.1, n.2.2.2.1, n.2.2.2.2.1, n.2.2.2.2.2.1, n.2.2.2.2.2.2.1, n.2.2.2.2.2.2.2, 0, 0, 0, 0, 0, (), dec 0 0 [], (), ())
theorem F61L_ok {n : Ndt} (hn : (ndNames n).length ≤ 1048576) (s : Str) (u : Int) : loopInv F61L0 (st61 n s u 0) ∧ ∃ k : Nat, loopOut F61L0 (st61 n s u 0) = some (.inl (st61 n s u k)) ∧ k ≤ (ndNames n).length ∧
    (∀ j (h : j < (ndNames n).length), j < k → Op.bytesLess (ndNames n)[j].1 s = true) ∧ ∀ h : k < (ndNames n).length, Op.bytesLess (ndNames n)[k].1 s = false := by
  obtain ⟨h1, y, h2, k, rfl, h3, h4, h5⟩ := loopP (tr := F61L0)
    (fun x => ∃ i : Nat, x = st61 n s u i ∧ i ≤ (ndNames n).length ∧ ∀ j (h : j < (ndNames n).length), j < i → Op.bytesLess (ndNames n)[j].1 s = true)
    (fun x => ((ndNames n).length - x.2.2.2.2.1).toNat)
    (fun y => ∃ k : Nat, y = .inl (st61 n s u k) ∧ k ≤ (ndNames n).length ∧
    (∀ j (h : j < (ndNames n).length), j < k → Op.bytesLess (ndNames n)[j].1 s = true) ∧ ∀ h : k < (ndNames n).length, Op.bytesLess (ndNames n)[k].1 s = false) (by
      rintro _ ⟨i, rfl, hi, hR⟩
      rcases Nat.lt_or_ge i (ndNames n).length with g | g
      · have hxi : @id Nmt (xsAt Nm n.2.2.2.2.2.2.2 i) = (ndNames n)[i] := xsAt_lt g
        have hi3 : (i : Int) < Int.ofNat (List.length n.2.2.2.2.2.2.2) := by rw [Int.ofNat_eq_natCast]; exact Int.ofNat_lt.2 g
        unfold F61L0
        simp only [Int.toNat_natCast, hxi, ok_node, ok_leaf, allA_cons, allA_one, allA_nil, true_and, wrp_succ (show i < 4611686018427387904 by omega), hi3, decide_true, Int.natCast_nonneg, forall_const, Bool.true_eq_false, false_implies, and_true]
        refine ⟨fun q => ⟨⟨i + 1, rfl, g, fun j hj hji => ?_⟩, by omega⟩, fun q => ⟨i, rfl, hi, hR, fun _ => q⟩⟩
        rcases Nat.lt_or_ge j i with z | z
        · exact hR j hj z
        · have : j = i := by omega
          subst this; exact q
      · have : i = (ndNames n).length := by omega
        subst this
        have hi3 : ¬ (((ndNames n).length : Int) < Int.ofNat (List.length n.2.2.2.2.2.2.2)) := Int.lt_irrefl _
        unfold F61L0
        simp only [ok_node, ok_leaf, allA_nil, true_and, decide_eq_false hi3, Bool.false_eq_true, false_implies, forall_const]
        exact ⟨_, rfl, hi, hR, fun h => absurd h (Nat.lt_irrefl _)⟩)
    (st61 n s u 0) ⟨0, rfl, Nat.zero_le _, fun j _ h => absurd h (Nat.not_lt_zero _)⟩
  exact ⟨h1, k, h2, h3, h4, h5⟩
theorem put_len24 {α : Type} {l : List α} {n : α} {k : Nat} (h : l.length ≤ 1048576) : (l.take k ++ [n] ++ l.drop k).length * 24 ≤ Room ∧ (l.take k ++ [n]).length * 24 ≤ Room ∧ (l.take k).length * 24 ≤ Room := by
  simp only [List.length_append, List.length_cons, List.length_nil, List.length_take, List.length_drop]
  unfold Room
  omega
theorem F61_ok {n : Ndt} (hn : (ndNames n).length ≤ 1048576) (s : Str) (u : Int) : F61.pre (n, s, u, ()) ∧ F61.fn (n, s, u, ()) = (inS n s u, ()) := by
  obtain ⟨p0, e0⟩ := F90_ok hn s
  have hl : (ndNames (outS n s)).length ≤ 1048576 := Nat.le_trans (List.length_filter_le _ _) hn
  obtain ⟨h1, k, h2, h3, h4, h5⟩ := F61L_ok hl s u
  have h1 : loopInv F61L0 (s, u, (), (), (0 : Int), (outS n s).1, (outS n s).2.1, (outS n s).2.2.1, (outS n s).2.2.2.1, (outS n s).2.2.2.2.1, (outS n s).2.2.2.2.2.1, (outS n s).2.2.2.2.2.2.1, (outS n s).2.2.2.2.2.2.2, (0 : Int), (0 : Int), (0 : Int), (0 : Int), (0 : Int), (), (dec 0 0 []), (), ()) := h1
  have h2 : loopOut F61L0 (s, u, (), (), (0 : Int), (outS n s).1, (outS n s).2.1, (outS n s).2.2.1, (outS n s).2.2.2.1, (outS n s).2.2.2.2.1, (outS n s).2.2.2.2.2.1, (outS n s).2.2.2.2.2.2.1, (outS n s).2.2.2.2.2.2.2, (0 : Int), (0 : Int), (0 : Int), (0 : Int), (0 : Int), (), (dec 0 0 []), (), ()) = some (.inl (st61 (outS n s) s u k)) := h2
  have hk : (k : Int) ≤ Int.ofNat (List.length (outS n s).2.2.2.2.2.2.2) := by rw [Int.ofNat_eq_natCast]; exact Int.ofNat_le.2 h3
  have hok : (F61 (n, s, u, ())).Ok (· = (inS n s u, ())) := by
    unfold F61
    simp only [e0, h1, h2, p0, getL, Int.toNat_natCast, ok_leaf, allA_cons, allA_one, true_and, List.nil_append, hk, Int.natCast_nonneg]
    refine ⟨⟨(put_len24 hl).1, (put_len24 hl).2.1, (put_len24 (n := (s, u)) hl).2.2, trivial⟩, ?_⟩
    unfold inS
    rw [List.append_assoc, List.singleton_append]
    exact congrArg (fun (z : List Nmt) => (setNames n z, ())) (insBy_at _ _ _ k h3 h4 h5)
  exact hok

/-! ## a name made -/
abbrev getZ (d : Dkt) (u : Int) : Ndt := (nodeOf d u).getD ndZ
theorem F30_ok {d : Dkt} (hd : SmD d) (u : Int) (s : Str) : F30.pre (d, u, s, ()) ∧ F30.fn (d, u, s, ()) = ((nameOf (getZ d u) s).getD 0, (nameOf (getZ d u) s).isSome, ()) := by
  obtain ⟨p0, e0⟩ := F12_ok hd u
  obtain ⟨p1, e1⟩ := F49_ok (nodeOf_sm hd u) s
  have hok : (F30 (d, u, s, ())).Ok (· = ((nameOf (getZ d u) s).getD 0, (nameOf (getZ d u) s).isSome, ())) := by
    unfold F30
    simp only [e0, p0, e1, p1, ok_leaf, allA_cons, allA_one, true_and]
  exact hok
/-- no blocks anywhere -/
theorem F31_none {d : Dkt} (hd : SmD d) (hb : ∀ n ∈ dkNodes d, ndBlocks n = []) : F31.pre (d, ()) ∧ F31.fn (d, ()) = (0, Int.ofNat (dkNodes d).length, ()) := by
  have hsm : d.2.2.2.length < 2305843009213693952 := hd.nodes
  obtain ⟨h1, y, h2, h3⟩ := loopP (tr := F31L0) (fun x => ∃ (i : Nat), x = ((), 0, (i : Int), d.1, d.2.1, d.2.2.1, d.2.2.2, ()) ∧ i ≤ d.2.2.2.length) (fun x => (x.2.2.2.2.2.2.1.length - x.2.2.1).toNat) (fun y => y = .inl ((), 0, d.1, d.2.1, d.2.2.1, d.2.2.2, ())) (by
    rintro _ ⟨i, rfl, hi⟩
    rcases Nat.lt_or_ge i d.2.2.2.length with g | g
    · have hi3 : (i : Int) < Int.ofNat d.2.2.2.length := by rw [Int.ofNat_eq_natCast]; omega
      have hxi : @id Ndt (xsAt Nd d.2.2.2 i) = d.2.2.2[i] := xsAt_lt g
      have hbi : (d.2.2.2[i]).2.2.2.2.2.1 = [] := hb _ (List.getElem_mem g)
      have h0 : wrp .i64 ((0 : Int) + Int.ofNat (List.length ([] : List Bkt))) = 0 := by decide
      unfold F31L0
      simp only [Int.toNat_natCast, hxi, hbi, h0, hi3, decide_true, ok_node, ok_leaf, allA_cons, allA_one, allA_nil, true_and, and_true, Int.natCast_nonneg, forall_const, Bool.true_eq_false, false_implies, wrp_succ (show i < 4611686018427387904 by omega)]
      exact ⟨⟨i + 1, rfl, g⟩, by simp; omega⟩
    · have : i = d.2.2.2.length := by omega
      subst this
      unfold F31L0
      simp only [ok_node, ok_leaf, allA_nil, true_and, Int.ofNat_eq_natCast, Int.lt_irrefl, decide_false, Bool.false_eq_true, false_implies, forall_const])
    _ ⟨0, rfl, Nat.zero_le _⟩
  subst h3
  have hok : (F31 (d, ())).Ok (· = (0, Int.ofNat (dkNodes d).length, ())) := by
    unfold F31
    have h1 : loopInv F31L0 ((), (0 : Int), (0 : Int), d.1, d.2.1, d.2.2.1, d.2.2.2, ()) := h1
    have h2 : loopOut F31L0 ((), (0 : Int), (0 : Int), d.1, d.2.1, d.2.2.1, d.2.2.2, ()) = _ := h2
    simp only [h1, h2, getL, ok_leaf, allA_one, true_and]
  exact hok
def linkS (d : Dkt) (u : Int) (s : Str) (v : Int) : Dkt := putS d (inS (getZ d u) s v)
theorem F33_ok {d : Dkt} (hd : SmD d) (hl : (dkNodes d).length ≤ 1048576) {u : Int} (hn : (ndNames (getZ d u)).length ≤ 1048576) {s : Str} {v : Int} (hw : WfE Nd (inS (getZ d u) s v)) :
    F33.pre (d, u, s, v, ()) ∧ F33.fn (d, u, s, v, ()) = (linkS d u s v, ()) := by
  obtain ⟨p0, e0⟩ := F12_ok hd u
  obtain ⟨p1, e1⟩ := F61_ok hn s v
  obtain ⟨p2, e2⟩ := F32_ok hl hw
  have hok : (F33 (d, u, s, v, ())).Ok (· = (linkS d u s v, ())) := by
    unfold F33
    simp only [e0, p0, e1, p1, e2, p2, ok_leaf, allA_cons, allA_one, true_and]
    rfl
  exact hok
abbrev moreS (d : Dkt) : Dkt := (d.1, d.2.1, d.2.2.1 + 1, d.2.2.2)
abbrev newN (d : Dkt) (kind : Int) : Ndt := (d.2.2.1, kind, 0, 1, 0, [], [], [])
/-- a name made, which is not there -/
theorem F15_ok {d : Dkt} (hd : SmD d) {u : Int} {s : Str} {kind : Int} (hno : nameOf (getZ d u) s = none) (hb : ∀ n ∈ dkNodes d, ndBlocks n = []) (hl : (dkNodes d).length < 9) (h1 : d.1 = 9) (h2 : d.2.1 = 9) (h3 : 0 ≤ d.2.2.1 ∧ d.2.2.1 < 100)
    (hw : WfE Nd (newN d kind)) (hd2 : SmD (putS (moreS d) (newN d kind))) (hl2 : (dkNodes (putS (moreS d) (newN d kind))).length ≤ 1048576)
    (hn2 : (ndNames (getZ (putS (moreS d) (newN d kind)) u)).length ≤ 1048576) (hw2 : WfE Nd (inS (getZ (putS (moreS d) (newN d kind)) u) s d.2.2.1)) :
    F15.pre (d, u, s, (0, kind, 0, 0, 0, [], [], []), ()) ∧ F15.fn (d, u, s, (0, kind, 0, 0, 0, [], [], []), ()) = (linkS (putS (moreS d) (newN d kind)) u s d.2.2.1, d.2.2.1, 0, ()) := by
  obtain ⟨p0, e0⟩ := F30_ok hd u s
  obtain ⟨p1, e1⟩ := F31_none hd hb
  obtain ⟨p2, e2⟩ := F32_ok (d := moreS d) (by show (dkNodes d).length ≤ _; omega) hw
  obtain ⟨p3, e3⟩ := F33_ok hd2 hl2 hn2 hw2
  have c1 : decide (Int.ofNat (dkNodes d).length ≥ d.2.1) = false := by rw [h2, Int.ofNat_eq_natCast]; exact decide_eq_false (by omega)
  have c2 : decide (wrp .i64 ((0 : Int) + Int.ofNat (List.length ([] : List Bkt))) > d.1) = false := by rw [h1]; decide
  have c3 : wrp .i64 (d.2.2.1 + 1) = d.2.2.1 + 1 := wrp_id (by omega) (by omega)
  have hok : (F15 (d, u, s, (0, kind, 0, 0, 0, [], [], []), ())).Ok (· = (linkS (putS (moreS d) (newN d kind)) u s d.2.2.1, d.2.2.1, 0, ())) := by
    unfold F15
    simp only [e0, p0, hno, e1, p1, Option.isSome_none, c1, c2, c3, e2, p2, e3, p3, ok_node, ok_leaf, allA_cons, allA_one, allA_nil, true_and, Bool.false_eq_true, false_implies, forall_const]
  exact hok
/-! # 3 -/

def walkS (d : Dkt) : List Str → Ndt → Ndt × Int
  | [], n => (n, 0)
  | s :: r, n => bif n.2.1 != 2 then (ndZ, 4) else match nameOf n s with
    | none => (ndZ, 2)
    | some u => walkS d r (getZ d u)
abbrev st78 (d : Dkt) (l : List Str) (i : Nat) (n : Ndt) : List (List UInt8) × Unit × Unit × Unit × Int × Int × Int × Int × List Ndt × Int × Int × Int × Int × Int × Unit × List UInt8 × Unit × Int × Int × Int × Int × Int × List Bkt × List UInt8 × List Nmt × Unit :=
  (l, (), (), (), (i : Int), d.1, d.2.1, d.2.2.1, d.2.2.2, 0, 0, 0, 0, 0, (), dec 0 0 [], (), n.1, n.2.1, n.2.2.1, n.2.2.2.1, n.2.2.2.2.1, n.2.2.2.2.2.1, n.2.2.2.2.2.2.1, n.2.2.2.2.2.2.2, ())
theorem F78_ok {d : Dkt} (hd : SmD d) {l : List Str} (hl : l.length ≤ 1048576) : F78.pre (d, l, ()) ∧ F78.fn (d, l, ()) = ((walkS d l (getZ d 1)).1, (walkS d l (getZ d 1)).2, ()) := by
  obtain ⟨p0, e0⟩ := F12_ok hd 1
  obtain ⟨h1, y, h2, h3⟩ := loopP (tr := F78L0)
    (fun x => ∃ (i : Nat) (n : Ndt), x = st78 d l i n ∧ i ≤ l.length ∧ SmN n ∧ walkS d (l.drop i) n = walkS d l (getZ d 1))
    (fun x => (l.length - x.2.2.2.2.1).toNat)
    (fun y => (∃ e : Int, walkS d l (getZ d 1) = (ndZ, e) ∧ y = .inl ((), e, 0, 0, 0, 0, 0, (), dec 0 0 [], (), ())) ∨
      ∃ n : Ndt, walkS d l (getZ d 1) = (n, 0) ∧ y = .inr (.inl ((), (), 0, 0, 0, 0, 0, (), dec 0 0 [], (), n.1, n.2.1, n.2.2.1, n.2.2.2.1, n.2.2.2.2.1, n.2.2.2.2.2.1, n.2.2.2.2.2.2.1, n.2.2.2.2.2.2.2, ()))) (by
      rintro _ ⟨i, n, rfl, hi, hsm, hR⟩
      rcases Nat.lt_or_ge i l.length with g | g
      · have hxi : @id (List UInt8) (xsAt (.one .str) l i) = l[i] := xsAt_lt g
        have hi3 : (i : Int) < Int.ofNat (List.length l) := by rw [Int.ofNat_eq_natCast]; exact Int.ofNat_lt.2 g
        rw [List.drop_eq_getElem_cons g] at hR
        simp only [walkS] at hR
        obtain ⟨p1, e1⟩ := F49_ok hsm l[i]
        unfold F78L0
        simp only [Int.toNat_natCast, hxi, e1, p1, ok_node, ok_leaf, allA_cons, allA_one, allA_nil, true_and, wrp_succ (show i < 4611686018427387904 by omega), hi3, decide_true, Int.natCast_nonneg, forall_const, Bool.true_eq_false, false_implies, and_true]
        refine ⟨fun q => ?_, fun q => ?_⟩
        · rw [q] at hR
          exact .inl ⟨4, hR.symm, rfl⟩
        · rw [q] at hR
          simp only [cond_false] at hR
          refine ⟨fun q2 => ?_, fun q2 => ?_⟩
          · cases hno : nameOf n l[i] with
            | none => rw [hno] at hR; exact .inl ⟨2, hR.symm, rfl⟩
            | some u => rw [hno] at q2; cases q2
          · cases hno : nameOf n l[i] with
            | none => rw [hno] at q2; cases q2
            | some u =>
              rw [hno] at hR
              obtain ⟨p2, e2⟩ := F12_ok hd u
              have e3 : (some u).getD (0 : Int) = u := rfl
              simp only [hno, e3]
              rw [e2]
              exact ⟨p2, ⟨i + 1, getZ d u, rfl, g, nodeOf_sm hd u, hR⟩, by omega⟩
      · have : i = l.length := by omega
        subst this
        have hi3 : ¬ ((l.length : Int) < Int.ofNat (List.length l)) := Int.lt_irrefl _
        rw [List.drop_length] at hR
        unfold F78L0
        simp only [ok_node, ok_leaf, allA_nil, true_and, decide_eq_false hi3, Bool.false_eq_true, false_implies, forall_const]
        exact .inr ⟨n, hR.symm, rfl⟩)
    (st78 d l 0 (getZ d 1)) ⟨0, _, rfl, Nat.zero_le _, nodeOf_sm hd 1, rfl⟩
  have h1 : loopInv F78L0 (l, (), (), (), (0 : Int), d.1, d.2.1, d.2.2.1, d.2.2.2, (0 : Int), (0 : Int), (0 : Int), (0 : Int), (0 : Int), (), (dec 0 0 []), (), (getZ d 1).1, (getZ d 1).2.1, (getZ d 1).2.2.1, (getZ d 1).2.2.2.1, (getZ d 1).2.2.2.2.1, (getZ d 1).2.2.2.2.2.1, (getZ d 1).2.2.2.2.2.2.1, (getZ d 1).2.2.2.2.2.2.2, ()) := h1
  have h2 : loopOut F78L0 (l, (), (), (), (0 : Int), d.1, d.2.1, d.2.2.1, d.2.2.2, (0 : Int), (0 : Int), (0 : Int), (0 : Int), (0 : Int), (), (dec 0 0 []), (), (getZ d 1).1, (getZ d 1).2.1, (getZ d 1).2.2.1, (getZ d 1).2.2.2.1, (getZ d 1).2.2.2.2.1, (getZ d 1).2.2.2.2.2.1, (getZ d 1).2.2.2.2.2.2.1, (getZ d 1).2.2.2.2.2.2.2, ()) = some y := h2
  have hok : (F78 (d, l, ())).Ok (· = ((walkS d l (getZ d 1)).1, (walkS d l (getZ d 1)).2, ())) := by
    unfold F78
    rcases h3 with ⟨e, h3, rfl⟩ | ⟨n, h3, rfl⟩
    · simp only [e0, p0, h1, h2, h3, ok_node, ok_leaf, allA_cons, allA_one, allA_nil, true_and]
      simp [isL, getL, ndZ, dec]
    · simp only [e0, p0, h1, h2, h3, ok_node, ok_leaf, allA_cons, allA_one, allA_nil, true_and]
      simp [isL, getL, restR]
  exact hok
/-- the directory above, and the last name -/
theorem F77_ok {d : Dkt} (hd : SmD d) {l : List Str} {s : Str} (hl : l.length ≤ 1000) {n : Ndt} (hw : walkS d l (getZ d 1) = (n, 0)) (hk : n.2.1 = 2) : F77.pre (d, l ++ [s], ()) ∧ F77.fn (d, l ++ [s], ()) = (n, s, 0, ()) := by
  have c1 : wrp .i64 (Int.ofNat (List.length (l ++ [s])) - 1) = (l.length : Int) := by
    rw [List.length_append, Int.ofNat_eq_natCast]; simp only [List.length_cons, List.length_nil]
    rw [wrp_id (by omega) (by omega)]; omega
  have c2 : (l ++ [s]).take l.length = l := by rw [List.take_append_of_le_length (Nat.le_refl _), List.take_length]
  have c3 : @id (List UInt8) (xsAt (.one .str) (l ++ [s]) l.length) = s := by
    have h : l.length < (l ++ [s]).length := by simp
    have h2 : (l ++ [s])[l.length]'h = s := by simp
    exact (xsAt_lt (e := .one .str) (xs := l ++ [s]) h).trans h2
  obtain ⟨p0, e0⟩ := F78_ok hd (l := l) (by omega)
  rw [hw] at e0
  have hle : (l.length : Int) ≤ Int.ofNat (List.length (l ++ [s])) := by rw [List.length_append, Int.ofNat_eq_natCast]; simp only [List.length_cons, List.length_nil]; omega
  have hlt : (l.length : Int) < Int.ofNat (List.length (l ++ [s])) := by rw [List.length_append, Int.ofNat_eq_natCast]; simp only [List.length_cons, List.length_nil]; omega
  have hok : (F77 (d, l ++ [s], ())).Ok (· = (n, s, 0, ())) := by
    unfold F77
    simp only [c1, Int.toNat_natCast, c2, c3, e0, p0, ok_node, ok_leaf, allA_cons, allA_one, allA_nil, true_and, hk, hle, hlt, Int.natCast_nonneg]
    exact ⟨fun h => absurd h (by decide), fun _ => ⟨fun h => absurd h (by decide), fun _ => trivial⟩⟩
  exact hok
/-! # 4 -/

/-! ## round by round -/
theorem go_on {A B : Type} {tr : A → DT (A ⊕ B)} {x x' : A} {y : B} (h : (tr x).Ok (· = .inl x')) (r : loopInv tr x' ∧ loopOut tr x' = some y) : loopInv tr x ∧ loopOut tr x = some y := by
  obtain ⟨h1, h2⟩ := h
  exact ⟨.again h1 h2 r.1, by rw [loopOut_again h2]; exact r.2⟩
theorem go_out {A B : Type} {tr : A → DT (A ⊕ B)} {x : A} {y : B} (h : (tr x).Ok (· = .inr y)) : loopInv tr x ∧ loopOut tr x = some y :=
  ⟨.exit h.1 h.2, loopOut_exit h.2⟩

theorem w2 : wrp .i64 2 = 2 := by decide
theorem w3 : wrp .i64 3 = 3 := by decide
theorem w4 : wrp .i64 4 = 4 := by decide
theorem w5 : wrp .i64 5 = 5 := by decide
theorem w1 : wrp .i64 1 = 1 := by decide
theorem d0 : (dec 0 0 [] : Str) = [] := rfl
theorem d1 : (dec 1 46 [] : Str) = [46] := by decide
theorem d2 : (dec 2 11822 [] : Str) = [46, 46] := by decide
/-! ## a path read -/
abbrev bs8 : List UInt8 := [97, 98, 99, 100, 101, 102, 103, 104]
abbrev sA : Str := [97]
abbrev path1 : Str := [47, 97]
abbrev path2 (b : UInt8) : Str := [47, 97, 47, b]
theorem parse_of {s : Str} {l : List Str} (hs : (47 :: s).length ≤ 120) (h0 : loopInv F52L0 (47 :: s, (0 : Int), ()) ∧ loopOut F52L0 (47 :: s, (0 : Int), ()) = some (.inr (.inl (47 :: s, ()))))
    (h1 : loopInv F52L1 (47 :: s, [], (1 : Int), (1 : Int), ()) ∧ loopOut F52L1 (47 :: s, [], (1 : Int), (1 : Int), ()) = some (.inr (.inl (l, ())))) : F52.pre (47 :: s, ()) ∧ F52.fn (47 :: s, ()) = (l, 0, ()) := by
  have c1 : (Int.ofNat (List.length (47 :: s)) == (0 : Int)) = false := by
    rw [Int.ofNat_eq_natCast]; simp only [List.length_cons]
    exact beq_eq_false_iff_ne.2 (by omega)
  have c2 : ((Int.ofNat (List.getD (47 :: s) (Int.toNat (0 : Int)) 0).toNat) != (47 : Int)) = false := rfl
  have c3 : decide ((Int.ofNat (List.length (47 :: s))) > (120 : Int)) = false := by rw [Int.ofNat_eq_natCast]; exact decide_eq_false (by omega)
  have c4 : (0 : Int) < Int.ofNat (List.length (47 :: s)) := by rw [Int.ofNat_eq_natCast]; simp only [List.length_cons]; omega
  have hok : (F52 (47 :: s, ())).Ok (· = (l, 0, ())) := by
    unfold F52
    simp only [c1, c2, c4, h0, h1, isL, restR, getL, c3, ok_node, ok_leaf, allA_cons, allA_one, allA_nil, true_and, Bool.false_eq_true, false_implies, forall_const, Int.le_refl]
  exact hok
theorem p1L0 : loopInv F52L0 (path1, (0 : Int), ()) ∧ loopOut F52L0 (path1, (0 : Int), ()) = some (.inr (.inl (path1, ()))) := by
  refine go_on (x' := (path1, 1, ())) ?_ (go_on (x' := (path1, 2, ())) ?_ (go_out ?_)) <;>
    (unfold F52L0; simp [w1, w2, w3, w4, w5, d0, d1, d2, Room])
theorem p1L1 : loopInv F52L1 (path1, [], (1 : Int), (1 : Int), ()) ∧ loopOut F52L1 (path1, [], (1 : Int), (1 : Int), ()) = some (.inr (.inl ([sA], ()))) := by
  refine go_on (x' := (path1, [], 1, 2, ())) ?_ (go_on (x' := (path1, [sA], 3, 3, ())) ?_ (go_out ?_)) <;>
    (unfold F52L1; simp [w1, w2, w3, w4, w5, d0, d1, d2, Room])
theorem bs8_ok {b : UInt8} (hb : b ∈ bs8) : b ≠ 46 ∧ ((b.toNat : Int) = 47) = False ∧ (b.toNat = 0) = False := by
  have h : ∀ b ∈ bs8, b ≠ 46 ∧ ¬ ((b.toNat : Int) = 47) ∧ ¬ b.toNat = 0 := by decide
  obtain ⟨h1, h2, h3⟩ := h b hb
  exact ⟨h1, eq_false h2, eq_false h3⟩
theorem p2L0 {b : UInt8} (hb : b ∈ bs8) : loopInv F52L0 (path2 b, (0 : Int), ()) ∧ loopOut F52L0 (path2 b, (0 : Int), ()) = some (.inr (.inl (path2 b, ()))) := by
  obtain ⟨h46, h47, h00⟩ := bs8_ok hb
  refine go_on (x' := (path2 b, 1, ())) ?_ (go_on (x' := (path2 b, 2, ())) ?_ (go_on (x' := (path2 b, 3, ())) ?_ (go_on (x' := (path2 b, 4, ())) ?_ (go_out ?_)))) <;>
    (unfold F52L0; simp [w1, w2, w3, w4, w5, d0, d1, d2, Room, h46, h47, h00])
theorem p2L1 {b : UInt8} (hb : b ∈ bs8) : loopInv F52L1 (path2 b, [], (1 : Int), (1 : Int), ()) ∧ loopOut F52L1 (path2 b, [], (1 : Int), (1 : Int), ()) = some (.inr (.inl ([sA, [b]], ()))) := by
  obtain ⟨h46, h47, h00⟩ := bs8_ok hb
  refine go_on (x' := (path2 b, [], 1, 2, ())) ?_ (go_on (x' := (path2 b, [sA], 3, 3, ())) ?_ (go_on (x' := (path2 b, [sA], 3, 4, ())) ?_ (go_on (x' := (path2 b, [sA, [b]], 5, 5, ())) ?_ (go_out ?_)))) <;>
    (unfold F52L1; simp [w1, w2, w3, w4, w5, d0, d1, d2, Room, h46, h47, h00])
theorem parse1 : F52.pre (path1, ()) ∧ F52.fn (path1, ()) = ([sA], 0, ()) := parse_of (by decide) p1L0 p1L1
theorem parse2 {b : UInt8} (hb : b ∈ bs8) : F52.pre (path2 b, ()) ∧ F52.fn (path2 b, ()) = ([sA, [b]], 0, ()) := parse_of (s := [97, 47, b]) (by simp) (p2L0 hb) (p2L1 hb)

/-! ## one op -/
abbrev Opt : Type := Int × List UInt8 × List UInt8 × Int × Int × Int × List (Int)
abbrev opS (k : Int) (p : Str) : Opt := (k, p, [], 0, 0, 0, [])
theorem F55_ok {d d2 : Dkt} {k u2 : Int} (hk : k = 1 ∨ k = 2) (p : Str) {l : List Str} {s : Str} {n : Ndt} (hd : SmD d) (hl : l.length ≤ 1000) (hw : walkS d l (getZ d 1) = (n, 0)) (hn : n.2.1 = 2)
    (hm : F15.pre (d, n.1, s, (0, k, 0, 0, 0, [], [], []), ()) ∧ F15.fn (d, n.1, s, (0, k, 0, 0, 0, [], [], []), ()) = (d2, u2, 0, ())) : F55.pre (d, opS k p, l ++ [s], ()) ∧ F55.fn (d, opS k p, l ++ [s], ()) = (d2, 0, ()) := by
  obtain ⟨p0, e0⟩ := F77_ok (s := s) hd hl hw hn
  obtain ⟨p1, e1⟩ := hm
  have cK : (bif k == (1 : Int) then (1 : Int) else (bif k == (2 : Int) then (2 : Int) else (bif k == (13 : Int) then (3 : Int) else (0 : Int)))) = k := by rcases hk with rfl | rfl <;> rfl
  have c3 : (k == (3 : Int)) = false := by rcases hk with rfl | rfl <;> rfl
  have c1 : (Int.ofNat (List.length (l ++ [s])) == (0 : Int)) = false := by
    rw [Int.ofNat_eq_natCast, List.length_append]; simp only [List.length_cons, List.length_nil]
    exact beq_eq_false_iff_ne.2 (by omega)
  have cd : (dec 0 0 [] : Str) = [] := rfl
  have hok : (F55 (d, opS k p, l ++ [s], ())).Ok (· = (d2, 0, ())) := by
    unfold F55
    simp only [cK, c3, c1, e0, p0, cd, e1, p1, ok_node, ok_leaf, ok_req, allA_cons, allA_one, allA_nil, true_and, Bool.false_eq_true, false_implies, forall_const]
    simp
  exact hok
theorem F53_ok {k : Int} (hk : k = 1 ∨ k = 2) (p : Str) : F53.pre (opS k p, ()) ∧ F53.fn (opS k p, ()) = (false, ()) := by
  rcases hk with rfl | rfl <;> exact ⟨by simp [F53.pre, F53, DT.pre, AllA], rfl⟩
theorem F29_ok {d d2 : Dkt} {k : Int} (hk : k = 1 ∨ k = 2) {p : Str} {l : List Str} (h1 : F52.pre (p, ()) ∧ F52.fn (p, ()) = (l, 0, ())) (h2 : F55.pre (d, opS k p, l, ()) ∧ F55.fn (d, opS k p, l, ()) = (d2, 0, ())) :
    F29.pre (d, false, opS k p, ()) ∧ (F29.fn (d, false, opS k p, ())).1 = d2 := by
  obtain ⟨p0, e0⟩ := h1
  obtain ⟨p1, e1⟩ := h2
  obtain ⟨p2, e2⟩ := F53_ok hk p
  have hok : (F29 (d, false, opS k p, ())).Ok (fun y => y.1 = d2) := by
    rcases hk with rfl | rfl
    · unfold F29
      simp only [e0, p0, e1, p1, e2, p2, ok_node, ok_leaf, ok_req, allA_cons, allA_one, allA_nil, true_and, Bool.false_eq_true, false_implies, forall_const]
      simp
    · unfold F29
      simp only [e0, p0, e1, p1, e2, p2, ok_node, ok_leaf, ok_req, allA_cons, allA_one, allA_nil, true_and, Bool.false_eq_true, false_implies, forall_const]
      simp
  exact hok
/-! ## two ops -/
abbrev st13 (l : List Opt) (i : Int) (d : Dkt) : List (Int × List UInt8 × List UInt8 × Int × Int × Int × List (Int)) × Unit × Unit × Int × Int × Int × Int × List Ndt × Int × Int × Int × Unit × Unit :=
  (l, (), (), i, d.1, d.2.1, d.2.2.1, d.2.2.2, 0, 0, 0, (), ())
theorem F13_ok {d d1 d2 : Dkt} {a b : Opt} (h1 : F29.pre (d, false, a, ()) ∧ (F29.fn (d, false, a, ())).1 = d1) (h2 : F29.pre (d1, false, b, ()) ∧ (F29.fn (d1, false, b, ())).1 = d2) :
    F13.pre (d, [a, b], ()) ∧ F13.fn (d, [a, b], ()) = (d2, ()) := by
  obtain ⟨p1, e1⟩ := h1
  obtain ⟨p2, e2⟩ := h2
  obtain ⟨h1, h2⟩ : loopInv F13L0 (st13 [a, b] 0 d) ∧ loopOut F13L0 (st13 [a, b] 0 d) = some (.inl ((), (), d2.1, d2.2.1, d2.2.2.1, d2.2.2.2, 0, 0, 0, (), ())) := by
    refine go_on (x' := st13 [a, b] 1 d1) ?_ (go_on (x' := st13 [a, b] 2 d2) ?_ (go_out ?_))
    · have p1 : F29.pre ((d.1, d.2.1, d.2.2.1, d.2.2.2), false, a, ()) := p1
      have e1 : (F29.fn ((d.1, d.2.1, d.2.2.1, d.2.2.2), false, a, ())).1 = d1 := e1
      have hx : @id Opt (xsAt (.cons (.int .i64) (.cons .str (.cons .str (.cons (.int .i64) (.cons (.int .i64) Bk))))) [a, b] (Int.toNat 0)) = a := rfl
      have w : wrp .i64 ((0 : Int) + 1) = 1 := by decide
      have l1 : (0 : Int) < Int.ofNat (List.length [a, b]) := by show (0 : Int) < 2; decide
      unfold F13L0
      simp only [w, l1, decide_true, ok_node, ok_leaf, allA_cons, allA_one, allA_nil, true_and, Bool.true_eq_false, false_implies, forall_const, Int.le_refl, and_true]
      exact ⟨p1, congrArg (fun (z : Dkt) => Sum.inl (st13 [a, b] 1 z)) e1⟩
    · have p2 : F29.pre ((d1.1, d1.2.1, d1.2.2.1, d1.2.2.2), false, b, ()) := p2
      have e2 : (F29.fn ((d1.1, d1.2.1, d1.2.2.1, d1.2.2.2), false, b, ())).1 = d2 := e2
      have hx : @id Opt (xsAt (.cons (.int .i64) (.cons .str (.cons .str (.cons (.int .i64) (.cons (.int .i64) Bk))))) [a, b] (Int.toNat 1)) = b := rfl
      have w : wrp .i64 ((1 : Int) + 1) = 2 := by decide
      have l1 : (1 : Int) < Int.ofNat (List.length [a, b]) := by show (1 : Int) < 2; decide
      have l2 : (0 : Int) ≤ 1 := by decide
      unfold F13L0
      simp only [w, l1, l2, decide_true, ok_node, ok_leaf, allA_cons, allA_one, allA_nil, true_and, Bool.true_eq_false, false_implies, forall_const, Int.le_refl, and_true]
      exact ⟨p2, congrArg (fun (z : Dkt) => Sum.inl (st13 [a, b] 2 z)) e2⟩
    · have l1 : ¬ (2 : Int) < Int.ofNat (List.length [a, b]) := by show ¬ (2 : Int) < 2; decide
      unfold F13L0
      simp only [l1, decide_false, ok_node, ok_leaf, allA_nil, true_and, Bool.false_eq_true, false_implies, forall_const]
  have h1 : loopInv F13L0 ([a, b], (), (), (0 : Int), d.1, d.2.1, d.2.2.1, d.2.2.2, (0 : Int), (0 : Int), (0 : Int), (), ()) := h1
  have h2 : loopOut F13L0 ([a, b], (), (), (0 : Int), d.1, d.2.1, d.2.2.1, d.2.2.2, (0 : Int), (0 : Int), (0 : Int), (), ()) = some _ := h2
  have hok : (F13 (d, [a, b], ())).Ok (· = (d2, ())) := by
    unfold F13
    simp only [h1, h2, getL, ok_leaf, allA_one, true_and]
  exact hok
/-! # 5 -/

mutual
def okLB : (l : LT) → l.T → Bool
  | .int k, x => @decide (k.wrap x = (show Int from x)) (Int.decEq (k.wrap x) x)
  | .bool, _ => true
  | .str, x => Nat.ble (List.length x) Room
  | .row e, xs => Nat.ble (List.length xs * e.by) Room && List.all (show List e.T from xs) fun x => okEB e x
def okEB : (e : ET) → e.T → Bool
  | .one l, x => okLB l x
  | .cons l e, x => okLB l x.1 && okEB e x.2
end
mutual
theorem okLB_wf : ∀ (l : LT) (x : l.T), okLB l x = true → WfL l x
  | .int k, x, h => by simp only [okLB] at h; simp only [WfL]; exact @of_decide_eq_true _ (Int.decEq (k.wrap x) x) h
  | .bool, x, h => by simp only [WfL]
  | .str, x, h => by simp only [okLB] at h; simp only [WfL]; exact Nat.le_of_ble_eq_true h
  | .row e, xs, h => by
    simp only [okLB, Bool.and_eq_true] at h
    simp only [WfL]
    refine ⟨Nat.le_of_ble_eq_true h.1, fun i x hx => okEB_wf e x ?_⟩
    exact List.all_eq_true.1 h.2 x (List.mem_of_getElem? hx)
theorem okEB_wf : ∀ (e : ET) (x : e.T), okEB e x = true → WfE e x
  | .one l, x, h => by simp only [okEB] at h; simp only [WfE]; exact okLB_wf l x h
  | .cons l e, x, h => by
    simp only [okEB, Bool.and_eq_true] at h
    simp only [WfE]
    exact ⟨okLB_wf l x.1 h.1, okEB_wf e x.2 h.2⟩
end
abbrev dk0 : Dkt := (9, 9, 2, [(1, 2, 493, 1, 0, [], [], [])])
abbrev dk1 : Dkt := (9, 9, 3, [(1, 2, 493, 1, 0, [], [], [(sA, 2)]), (2, 2, 0, 1, 0, [], [], [])])
abbrev dk2 (b : UInt8) : Dkt := (9, 9, 4, [(1, 2, 493, 1, 0, [], [], [(sA, 2)]), (2, 2, 0, 1, 0, [], [], [([b], 3)]), (3, 1, 0, 1, 0, [], [], [])])
abbrev dk3 (b : UInt8) : Dkt := (9, 9, 5, [(1, 2, 493, 1, 0, [], [], [(sA, 2)]), (2, 2, 0, 1, 0, [], [], [(sOpq, 4), ([b], 3)]), (3, 1, 0, 1, 0, [], [], []), (4, 1, 0, 1, 0, [], [], [])])
theorem sm0 : SmD dk0 := SmD.of (okEB_wf Dk dk0 (by decide +kernel))
theorem sm1 : SmD dk1 := SmD.of (okEB_wf Dk dk1 (by decide +kernel))
theorem sm2 (b : UInt8) : SmD (dk2 b) := SmD.of (okEB_wf Dk (dk2 b) (by kernel_rfl))
theorem sm3 (b : UInt8) : SmD (dk3 b) := SmD.of (okEB_wf Dk (dk3 b) (by kernel_rfl))
theorem mk1 : F15.pre (dk0, 1, sA, (0, 2, 0, 0, 0, [], [], []), ()) ∧ F15.fn (dk0, 1, sA, (0, 2, 0, 0, 0, [], [], []), ()) = (dk1, 2, 0, ()) := by
  obtain ⟨h1, h2⟩ := F15_ok (d := dk0) (u := 1) (s := sA) (kind := 2) sm0 (by decide +kernel) (by decide +kernel) (by decide +kernel) rfl rfl (by decide +kernel) (okEB_wf _ _ (by decide +kernel)) (SmD.of (okEB_wf _ _ (by decide +kernel))) (by decide +kernel) (by decide +kernel) (okEB_wf _ _ (by decide +kernel))
  have e : linkS (putS (moreS dk0) (newN dk0 2)) 1 sA 2 = dk1 := by rfl
  rw [show dk0.2.2.1 = 2 from rfl, e] at h2
  exact ⟨h1, h2⟩
theorem mk2 {b : UInt8} (hb : b ∈ bs8) : F15.pre (dk1, 2, [b], (0, 1, 0, 0, 0, [], [], []), ()) ∧ F15.fn (dk1, 2, [b], (0, 1, 0, 0, 0, [], [], []), ()) = (dk2 b, 3, 0, ()) := by
  have e : linkS (putS (moreS dk1) (newN dk1 1)) 2 [b] 3 = dk2 b := by rfl
  obtain ⟨h1, h2⟩ := F15_ok (d := dk1) (u := 2) (s := [b]) (kind := 1) sm1 (by rfl) (by decide +kernel) (by decide +kernel) rfl rfl (by decide +kernel) (okEB_wf _ _ (by decide +kernel)) (SmD.of (okEB_wf _ _ (by decide +kernel))) (by decide +kernel) (by decide +kernel) (okEB_wf _ _ (by kernel_rfl))
  rw [show dk1.2.2.1 = 3 from rfl, e] at h2
  exact ⟨h1, h2⟩
theorem mk3 {b : UInt8} (hb : b ∈ bs8) : F15.pre (dk2 b, 2, sOpq, (0, 1, 0, 0, 0, [], [], []), ()) ∧ F15.fn (dk2 b, 2, sOpq, (0, 1, 0, 0, 0, [], [], []), ()) = (dk3 b, 4, 0, ()) := by
  have e : ∀ b ∈ bs8, linkS (putS (moreS (dk2 b)) (newN (dk2 b) 1)) 2 sOpq 4 = dk3 b := by
    intro b hb
    simp only [bs8, List.mem_cons, List.not_mem_nil, or_false] at hb
    rcases hb with rfl | rfl | rfl | rfl | rfl | rfl | rfl | rfl <;> rfl
  have e2 : ∀ b ∈ bs8, nameOf (getZ (dk2 b) 2) sOpq = none := by decide +kernel
  have e3 : ∀ b ∈ bs8, okEB Nd (inS (getZ (putS (moreS (dk2 b)) (newN (dk2 b) 1)) 2) sOpq 4) = true := by decide +kernel
  obtain ⟨h1, h2⟩ := F15_ok (d := dk2 b) (u := 2) (s := sOpq) (kind := 1) (sm2 b) (e2 b hb) (fun n hn => List.isEmpty_iff.1 (List.all_eq_true.1 (show (dkNodes (dk2 b)).all (fun n => (ndBlocks n).isEmpty) = true from rfl) n hn)) (by show (3 : Nat) < 9; decide) rfl rfl ⟨by show (0 : Int) ≤ 4; decide, by show (4 : Int) < 100; decide⟩ (okEB_wf _ _ (by kernel_rfl)) (SmD.of (okEB_wf _ _ (by kernel_rfl))) (by show (4 : Nat) ≤ _; decide) (by show (1 : Nat) ≤ _; decide) (okEB_wf _ _ (e3 b hb))
  rw [show (dk2 b).2.2.1 = 4 from rfl, e b hb] at h2
  exact ⟨h1, h2⟩
/-! # 6 -/

def bj (j : Nat) : UInt8 := UInt8.ofNat (97 + j)
theorem bj_mem {j : Nat} (h : j < 8) : bj j ∈ bs8 := by
  have : ∀ j, j < 8 → bj j ∈ bs8 := by decide +kernel
  exact this j h
theorem bj_ne {i j : Nat} (hi : i < 8) (hj : j < 8) (h : i ≠ j) : bj i ≠ bj j := by
  have : ∀ i, i < 8 → ∀ j, j < 8 → i ≠ j → bj i ≠ bj j := by decide +kernel
  exact this i hi j hj h
def DD (cut : List Bool) (j : Nat) : Dkt := bif cut.getD j false then dk3 (bj j) else dk2 (bj j)
def WW (ways : List Int) (cut : List Bool) : Wdt := (ways, 1, (List.range ways.length).map (DD cut), 0, [], [], 0)
def stopB (ways : List Int) (cut : List Bool) (j : Nat) : Bool := cut.getD j false && heeds ways j
theorem sortN_of {xs : List Ndt} (h : xs.Pairwise fun a b => a.1 < b.1) : SortN xs := fun i j hi hj hij => List.pairwise_iff_getElem.1 h i j hi hj hij
theorem sortS_of {xs : List Nmt} (h : xs.Pairwise fun a b => Op.bytesLess a.1 b.1 = true) : SortS xs := fun i j hi hj hij => List.pairwise_iff_getElem.1 h i j hi hj hij
def goodB (d : Dkt) : Bool := okEB Dk d && (decide ((dkNodes d).Pairwise fun a b => a.1 < b.1) && ((dkNodes d).all fun n => decide ((ndNames n).Pairwise fun a b => Op.bytesLess a.1 b.1 = true) && (decide ((ndNames n).length ≤ 1048576) && ((ndNames n).all fun x => decide (List.length x.1 ≤ 1048576)))))
theorem goodB_ok {d : Dkt} (h : goodB d = true) : GoodD d := by
  simp only [goodB, Bool.and_eq_true, List.all_eq_true, decide_eq_true_eq] at h
  obtain ⟨h1, h2, h3⟩ := h
  exact ⟨⟨SmD.of (okEB_wf _ _ h1), sortN_of h2, fun n hn => sortS_of (h3 n hn).1⟩, fun n hn => (h3 n hn).2.1, fun n hn x hx => (h3 n hn).2.2 x hx⟩
theorem good23 : ∀ b ∈ bs8, goodB (dk2 b) = true ∧ goodB (dk3 b) = true := by decide +kernel
theorem DD_good {cut : List Bool} {j : Nat} (h : j < 8) : GoodD (DD cut j) := by
  unfold DD
  cases cut.getD j false
  · exact goodB_ok (good23 _ (bj_mem h)).1
  · exact goodB_ok (good23 _ (bj_mem h)).2
theorem WW_len (ways : List Int) (cut : List Bool) : (wDisks (WW ways cut)).length = ways.length := by
  show ((List.range ways.length).map (DD cut)).length = _
  rw [List.length_map, List.length_range]
theorem WW_good {ways : List Int} {cut : List Bool} (h : ways.length ≤ 8) : GoodW (WW ways cut) := by
  refine ⟨by rw [WW_len]; exact h, by show ways.length < _; omega, fun d hd => ?_⟩
  obtain ⟨j, hj, rfl⟩ := List.mem_map.1 (show d ∈ (List.range ways.length).map (DD cut) from hd)
  exact DD_good (by have := List.mem_range.1 hj; omega)
theorem dk_at {ways : List Int} {cut : List Bool} {j : Nat} (h : j < ways.length) (u : Int) : dkOf (WW ways cut) ((j : Int), u) = DD cut j := by
  have hl : j < (wDisks (WW ways cut)).length := by rw [WW_len]; exact h
  refine (show dkOf (WW ways cut) ((j : Int), u) = @id Dkt (xsAt Dk (wDisks (WW ways cut)) j) from rfl).trans ((xsAt_lt (e := Dk) hl).trans ?_)
  show ((List.range ways.length).map (DD cut))[j]'(by rw [List.length_map, List.length_range]; exact h) = _
  rw [List.getElem_map, List.getElem_range]
theorem node_at {ways : List Int} {cut : List Bool} {j : Nat} (h : j < ways.length) (u : Int) : nodeZ (WW ways cut) ((j : Int), u) = getZ (DD cut j) u := by
  unfold nodeZ; rw [dk_at h]
/-- what is in one disk -/
theorem in_disk : ∀ b ∈ bs8, ∀ d ∈ [(dk2 b, false), (dk3 b, true)], (nameOf (getZ d.1 1) sA == some 2 && ((nameOf (getZ d.1 1) (white sA)).isNone && ((getZ d.1 2).2.1 == 2 && ((getZ d.1 3).2.1 == 1 && (((nameOf (getZ d.1 2) sOpq).isSome == d.2) &&
    ((bs8.all fun c => (nameOf (getZ d.1 2) (white [c])).isNone && (nameOf (getZ d.1 2) [c] == (if c = b then some 3 else none))) &&
     ((ndNames (getZ d.1 2)).map (·.1) == (if d.2 then [sOpq, [b]] else [[b]])))))))) = true := by decide +kernel
structure InDisk (b : UInt8) (d : Dkt) (c : Bool) : Prop where
  a : nameOf (getZ d 1) sA = some 2
  wa : nameOf (getZ d 1) (white sA) = none
  k2 : (getZ d 2).2.1 = 2
  k3 : (getZ d 3).2.1 = 1
  opq : (nameOf (getZ d 2) sOpq).isSome = c
  wc : ∀ x ∈ bs8, nameOf (getZ d 2) (white [x]) = none
  nc : ∀ x ∈ bs8, nameOf (getZ d 2) [x] = if x = b then some 3 else none
  names : (ndNames (getZ d 2)).map (·.1) = if c then [sOpq, [b]] else [[b]]
theorem inDisk_of {b : UInt8} (hb : b ∈ bs8) {d : Dkt} {c : Bool} (hd : (d, c) ∈ [(dk2 b, false), (dk3 b, true)]) : InDisk b d c := by
  have h := in_disk b hb (d, c) hd
  simp only [Bool.and_eq_true, List.all_eq_true, beq_iff_eq, Option.isNone_iff_eq_none] at h
  obtain ⟨h1, h2, h3, h4, h5, h6, h7⟩ := h
  exact ⟨h1, h2, h3, h4, h5, fun x hx => (h6 x hx).1, fun x hx => (h6 x hx).2, h7⟩
theorem DD_in {cut : List Bool} {j : Nat} (h : j < 8) : InDisk (bj j) (DD cut j) (cut.getD j false) := by
  refine inDisk_of (bj_mem h) ?_
  unfold DD
  cases cut.getD j false <;> simp
/-! # 7 -/

abbrev spots (u : Int) (l : List Nat) : List Spt := l.map fun (i : Nat) => ((i : Int), u)
section
variable {ways : List Int} {cut : List Bool}
theorem sign_2 {j : Nat} (h : j < ways.length) (h8 : j < 8) : sign (WW ways cut) ((j : Int), 2) sOpq = stopB ways cut j := by
  have D := DD_in (cut := cut) h8
  unfold sign stopB
  rw [node_at h, D.k2, D.opq]
  rfl
theorem sign_w1 {j : Nat} (h : j < ways.length) (h8 : j < 8) : sign (WW ways cut) ((j : Int), 1) (white sA) = false := by
  have D := DD_in (cut := cut) h8
  unfold sign
  rw [node_at h, D.wa]
  rfl
theorem sign_wc {j : Nat} (h : j < ways.length) (h8 : j < 8) {c : UInt8} (hc : c ∈ bs8) : sign (WW ways cut) ((j : Int), 2) (white [c]) = false := by
  have D := DD_in (cut := cut) h8
  unfold sign
  rw [node_at h, D.wc c hc]
  rfl
theorem sign_w2 {j : Nat} (h : j < ways.length) (h8 : j < 8) : nameOf (nodeZ (WW ways cut) ((j : Int), 1)) sA = some 2 := by
  rw [node_at h]; exact (DD_in (cut := cut) h8).a
/-- the directories a, one over the other -/
theorem scan_to (h8 : ways.length ≤ 8) : ∀ (m j k : Nat) (l : List Spt), j + m = ways.length → j ≤ k → k < ways.length → (∀ x, j ≤ x → x < k → stopB ways cut x = false) → (stopB ways cut k = true ∨ k + 1 = ways.length) →
    scanS (WW ways cut) sA (spots 1 (List.range' j m)) l = (l ++ spots 2 (List.range' j (k + 1 - j)), (k : Int))
  | 0, j, k, l, hm, hjk, hk, _, _ => by omega
  | m + 1, j, k, l, hm, hjk, hk, hlo, hat => by
    have hj : j < ways.length := by omega
    have D := DD_in (cut := cut) (show j < 8 by omega)
    have hb : scanB (WW ways cut) sA l ((j : Int), 1) = bif stopB ways cut j then .inr (l ++ [((j : Int), 2)], (j : Int)) else .inl (l ++ [((j : Int), 2)]) := by
      unfold scanB
      rw [sign_w2 hj (by omega)]
      simp only
      rw [node_at hj, D.k2, sign_2 hj (by omega), sign_w1 hj (by omega)]
      rfl
    rw [List.range'_succ]
    show scanS (WW ways cut) sA (((j : Int), 1) :: spots 1 (List.range' (j + 1) m)) l = _
    unfold scanS
    rw [hb]
    rcases Nat.lt_or_ge j k with g | g
    · rw [hlo j (Nat.le_refl _) g]
      simp only [cond_false]
      rw [scan_to h8 m (j + 1) k _ (by omega) g hk (fun x hx hxk => hlo x (by omega) hxk) hat]
      have : k + 1 - j = (k + 1 - (j + 1)) + 1 := by omega
      rw [this, List.range'_succ, List.append_assoc]
      rfl
    · have : j = k := by omega
      subst this
      have e : j + 1 - j = 1 := by omega
      rw [e]
      rcases hat with h | h
      · rw [h]; rfl
      · cases hs : stopB ways cut j with
        | true => rfl
        | false =>
          have hm0 : m = 0 := by omega
          subst hm0
          simp only [cond_false]
          show (l ++ [((j : Int), 2)], Int.ofNat (wDisks (WW ways cut)).length - 1) = _
          rw [WW_len]
          refine Prod.ext rfl ?_
          show Int.ofNat ways.length - 1 = (j : Int)
          rw [Int.ofNat_eq_natCast]; omega
/-- the one name of a disk is found -/
theorem scan_one (h8 : ways.length ≤ 8) {j : Nat} (hj : j < ways.length) : ∀ (m i : Nat), i ≤ j → j < i + m → i + m ≤ ways.length →
    (scanS (WW ways cut) [bj j] (spots 2 (List.range' i m)) []).1.length = 1
  | 0, i, h1, h2, _ => by omega
  | m + 1, i, h1, h2, h3 => by
    have hi : i < ways.length := by omega
    have D := DD_in (cut := cut) (show i < 8 by omega)
    rw [List.range'_succ]
    show (scanS (WW ways cut) [bj j] (((i : Int), 2) :: spots 2 (List.range' (i + 1) m)) []).1.length = 1
    unfold scanS
    have hn := D.nc (bj j) (bj_mem (by omega))
    rcases Nat.lt_or_ge i j with g | g
    · have hb : scanB (WW ways cut) [bj j] [] ((i : Int), 2) = .inl [] := by
        unfold scanB
        rw [node_at hi, hn, if_neg (bj_ne (by omega) (by omega) (by omega))]
        simp only
        rw [sign_wc hi (by omega) (bj_mem (by omega))]
        rfl
      rw [hb]
      exact scan_one h8 hj m (i + 1) g (by omega) (by omega)
    · have : i = j := by omega
      subst this
      have hb : scanB (WW ways cut) [bj i] [] ((i : Int), 2) = .inr ([((i : Int), 3)], (i : Int) - 1) := by
        unfold scanB
        rw [node_at hi, hn, if_pos rfl]
        simp only
        rw [node_at hi, D.k3]
        rfl
      rw [hb]; rfl
theorem kept1 (c : UInt8) : kept [c] = false := rfl
theorem keptO : kept sOpq = true := by decide +kernel
theorem gone_not (h8 : ways.length ≤ 8) {j k : Nat} (hj : j ≤ k) (hk : k < ways.length) : goneB (WW ways cut) (spots 2 (List.range' 0 (k + 1))) [bj j] = false := by
  unfold goneB
  rw [kept1, scan_one h8 (show j < ways.length by omega) (k + 1) 0 (Nat.zero_le _) (by omega) (by omega)]
  rfl
theorem gone_opq (l : List Spt) : goneB (WW ways cut) l sOpq = true := by unfold goneB; rw [keptO]; rfl
theorem rise8 : ∀ k, k < 8 → Rise ((List.range' 0 (k + 1)).map fun j => [bj j]) := by
  have h : ∀ k, k < 8 → decide (((List.range' 0 (k + 1)).map fun j => [bj j]).Pairwise fun a b => Op.bytesLess a b = true) = true := by decide +kernel
  exact fun k hk => of_decide_eq_true (h k hk)
theorem names_are (h8 : ways.length ≤ 8) {k : Nat} (hk : k < ways.length) :
    ((Lib.compact (F36.fn (namesS (WW ways cut) (spots 2 (List.range' 0 (k + 1)))))).filter fun x => !goneB (WW ways cut) (spots 2 (List.range' 0 (k + 1))) x) = (List.range' 0 (k + 1)).map fun j => [bj j] := by
  rw [names_same]
  refine rise_ext _ _ (foldN_rise _ _ _ [] List.Pairwise.nil) (rise8 k (by omega)) fun z => ?_
  rw [foldN_mem]
  simp only [List.not_mem_nil, false_or]
  have hmem : ∀ z, z ∈ namesS (WW ways cut) (spots 2 (List.range' 0 (k + 1))) ↔ ∃ j, j ≤ k ∧ (z = [bj j] ∨ (z = sOpq ∧ cut.getD j false = true)) := by
    intro z
    unfold namesS
    rw [List.mem_flatMap]
    constructor
    · rintro ⟨d, hd, hz⟩
      obtain ⟨j, hj, rfl⟩ := List.mem_map.1 hd
      have hj := (List.mem_range'_1.1 hj).2
      rw [node_at (show j < ways.length by omega), (DD_in (cut := cut) (show j < 8 by omega)).names] at hz
      refine ⟨j, by omega, ?_⟩
      split at hz
      · rename_i hc
        simp only [List.mem_cons, List.not_mem_nil, or_false] at hz
        exact hz.elim (fun h => .inr ⟨h, hc⟩) .inl
      · exact .inl (List.mem_singleton.1 hz)
    · rintro ⟨j, hj, hz⟩
      refine ⟨((j : Int), 2), List.mem_map.2 ⟨j, List.mem_range'_1.2 ⟨Nat.zero_le _, by omega⟩, rfl⟩, ?_⟩
      rw [node_at (show j < ways.length by omega), (DD_in (cut := cut) (show j < 8 by omega)).names]
      rcases hz with rfl | ⟨rfl, hc⟩
      · split <;> simp
      · rw [if_pos hc]; simp
  rw [hmem, List.mem_map]
  constructor
  · rintro ⟨⟨j, hj, rfl | ⟨rfl, _⟩⟩, hg⟩
    · exact ⟨j, List.mem_range'_1.2 ⟨Nat.zero_le _, by omega⟩, rfl⟩
    · rw [gone_opq] at hg; cases hg
  · rintro ⟨j, hj, rfl⟩
    have hj := (List.mem_range'_1.1 hj).2
    exact ⟨⟨j, by omega, .inl rfl⟩, gone_not h8 (by omega) hk⟩
end
/-! # 8 -/

theorem run_ok {b : UInt8} (hb : b ∈ bs8) : F13.pre (dk0, [opS 2 path1, opS 1 (path2 b)], ()) ∧ F13.fn (dk0, [opS 2 path1, opS 1 (path2 b)], ()) = (dk2 b, ()) :=
  F13_ok (F29_ok (.inr rfl) parse1 (F55_ok (l := []) (.inr rfl) path1 sm0 (by decide) (n := getZ dk0 1) rfl rfl mk1))
    (F29_ok (.inl rfl) (parse2 hb) (F55_ok (l := [sA]) (.inl rfl) (path2 b) sm1 (by decide) (n := getZ dk1 2) rfl rfl (mk2 hb)))
theorem byte_at {i : Nat} (hi : i < 8) : bBytes ((wrp .u8 (wrp .i64 ((97 : Int) + (i : Int)))) :: []) = [bj i] := by
  have h : ∀ i : Nat, i < 8 → bBytes ((wrp .u8 (wrp .i64 ((97 : Int) + (i : Int)))) :: []) = [bj i] := by decide +kernel
  exact h i hi
theorem e0 : (dec 0 0 [] : Str) = [] := rfl
theorem e1 : (dec 1 97 [] : Str) = sA := by decide +kernel
theorem e2 : (dec 2 12129 [] : Str) = path1 := by decide +kernel
theorem e3 : (dec 3 3105071 [] : Str) = [47, 97, 47] := by decide +kernel
abbrev st4 (ways : List Int) (cut : List Bool) (last : Int) (i : Nat) : List (Int) × List (Bool) × Unit × Int × Int × List (Int) × Int × List Dkt × Int × Unit × Unit × Int × Unit :=
  (ways, cut, (), last, (i : Int), ways, 1, (List.range i).map (DD cut), 0, (), (), 0, ())
/-- the first cut below i -/
def LastIs (ways : List Int) (cut : List Bool) (i : Nat) (last : Int) : Prop :=
  (last = -1 ∧ ∀ j, j < i → stopB ways cut j = false) ∨ ∃ k : Nat, last = k ∧ k < i ∧ stopB ways cut k = true ∧ ∀ j, j < k → stopB ways cut j = false
theorem LastIs.hit {ways : List Int} {cut : List Bool} {i : Nat} {last : Int} (h : LastIs ways cut i last) (hl : last < 0) (hs : stopB ways cut i = true) : LastIs ways cut (i + 1) i := by
  rcases h with ⟨rfl, h⟩ | ⟨k, rfl, _⟩
  · exact .inr ⟨i, rfl, by omega, hs, h⟩
  · omega
theorem LastIs.keep {ways : List Int} {cut : List Bool} {i : Nat} {last : Int} (h : LastIs ways cut i last) (hs : stopB ways cut i = false ∨ 0 ≤ last) : LastIs ways cut (i + 1) last := by
  rcases h with ⟨rfl, h⟩ | ⟨k, rfl, h1, h2, h3⟩
  · refine .inl ⟨rfl, fun j hj => ?_⟩
    rcases Nat.lt_or_ge j i with g | g
    · exact h j g
    · have : j = i := by omega
      subst this
      exact hs.elim id (fun h => absurd h (by decide))
  · exact .inr ⟨k, rfl, by omega, h2, h3⟩
theorem F14_is : F14.pre ((9 : Int), (9 : Int), ()) ∧ F14.fn ((9 : Int), (9 : Int), ()) = (dk0, ()) := ⟨by simp [F14.pre, F14, DT.pre, AllA], rfl⟩
theorem ways_ok {ways : List Int} {i : Nat} (h : i < ways.length) : @id Int (xsAt (.one (.int .i64)) ways i) = ways[i] := xsAt_lt h
theorem heeds_at {ways : List Int} {i : Nat} (h : i < ways.length) (h1 : 1 ≤ ways[i]) (h3 : ways[i] ≤ 3) : heeds ways (i : Int) = (ways[i] != 2) := by
  unfold heeds
  have a : decide (0 ≤ (i : Int)) = true := decide_eq_true (by omega)
  have b : decide ((i : Int) < Int.ofNat ways.length) = true := by rw [Int.ofNat_eq_natCast]; exact decide_eq_true (by omega)
  rw [a, b, Int.toNat_natCast, ways_ok h, Bool.true_and, Bool.true_and]
  have hc : ways[i] = 1 ∨ ways[i] = 2 ∨ ways[i] = 3 := by omega
  rcases hc with h | h | h <;> rw [h] <;> rfl
theorem F4L0_ok {ways : List Int} {cut : List Bool} (h8 : ways.length ≤ 8) (hl : cut.length = ways.length) :
    loopInv F4L0 (st4 ways cut (-1) 0) ∧ ∃ y, loopOut F4L0 (st4 ways cut (-1) 0) = some y ∧ (y = .inl (true, ()) ∨
      ∃ last, LastIs ways cut ways.length last ∧ y = .inr (.inl (ways, (), last, ways, 1, (List.range ways.length).map (DD cut), 0, (), (), 0, ()))) := by
  refine loopP (tr := F4L0) (fun x => ∃ (i : Nat) (last : Int), x = st4 ways cut last i ∧ i ≤ ways.length ∧ LastIs ways cut i last) (fun x => (ways.length - x.2.2.2.2.1).toNat) _ (by
    rintro _ ⟨i, last, rfl, hi, hL⟩
    rcases Nat.lt_or_ge i ways.length with g | g
    · have gc : i < cut.length := by omega
      have hw : @id Int (xsAt (.one (.int .i64)) ways i) = ways[i] := xsAt_lt g
      have hc : @id Bool (xsAt (.one .bool) cut i) = cut[i] := xsAt_lt gc
      have hcd : cut.getD i false = cut[i] := by simp [List.getD_eq_getElem?_getD, gc]
      have hi3 : (i : Int) < Int.ofNat (List.length ways) := by rw [Int.ofNat_eq_natCast]; omega
      have hi4 : (i : Int) < Int.ofNat (List.length cut) := by rw [Int.ofNat_eq_natCast]; omega
      have hb := bj_mem (show i < 8 by omega)
      obtain ⟨p14, q14⟩ := F14_is
      obtain ⟨p13, q13⟩ := run_ok hb
      obtain ⟨p15, q15⟩ := mk3 hb
      have hcat : ([47, 97, 47] : Str) ++ [bj i] = path2 (bj i) := rfl
      have htk : ∀ D, DD cut i = D → (List.range i).map (DD cut) ++ [D] = (List.range (i + 1)).map (DD cut) := by
        rintro _ rfl; rw [List.range_succ, List.map_append]; rfl
      have hlen : ∀ D : Dkt, (List.length ((List.range i).map (DD cut) ++ (D :: []))) * 48 ≤ Room := by
        intro D
        rw [List.length_append, List.length_map, List.length_range]; simp only [List.length_cons, List.length_nil]; unfold Room; omega
      have hroom : List.length ([47, 97, 47] : Str) + List.length [bj i] ≤ Room := by show (4 : Nat) ≤ _; unfold Room; omega
      unfold F4L0
      simp only [Int.toNat_natCast, hw, hc, byte_at (show i < 8 by omega), e0, e2, e3, hcat, q14, p14, q13, p13, q15, p15, hi3, hi4, hlen, hroom, decide_true, Int.natCast_nonneg, ok_node, ok_leaf, ok_req, allA_cons, allA_one, allA_nil, true_and, and_true, forall_const, Bool.true_eq_false, false_implies, wrp_succ (show i < 4611686018427387904 by omega)]
      refine ⟨fun _ => .inl trivial, fun q1 => ⟨fun _ => .inl trivial, fun q2 => ?_⟩⟩
      have g1 : 1 ≤ ways[i] := by have := of_decide_eq_false q1; omega
      have g3 : ways[i] ≤ 3 := by have := of_decide_eq_false q2; omega
      have hst : stopB ways cut i = (cut[i] && (ways[i] != 2)) := by unfold stopB; rw [hcd, heeds_at g g1 g3]
      have hm : ((ways.length : Int) - ((i + 1 : Nat) : Int)).toNat < ((ways.length : Int) - (i : Int)).toNat := by omega
      refine ⟨fun q => ?_, fun q => ?_⟩
      · have hD := htk (dk3 (bj i)) (by unfold DD; rw [hcd, q]; rfl)
        rw [hD]
        refine ⟨fun ql => ⟨q, fun q5 => ⟨⟨i + 1, (i : Int), rfl, g, hL.hit (of_decide_eq_true ql) (by rw [hst, q, q5]; rfl)⟩, hm⟩, fun q5 => ⟨⟨i + 1, last, rfl, g, hL.keep (.inl (by rw [hst, q, q5]; rfl))⟩, hm⟩⟩,
          fun ql => ⟨⟨i + 1, last, rfl, g, hL.keep (.inr (by have := of_decide_eq_false ql; omega))⟩, hm⟩⟩
      · have hD := htk (dk2 (bj i)) (by unfold DD; rw [hcd, q]; rfl)
        rw [hD]
        refine ⟨fun ql => ⟨q, ⟨i + 1, last, rfl, g, hL.keep (.inl (by rw [hst, q]; rfl))⟩, hm⟩,
          fun ql => ⟨⟨i + 1, last, rfl, g, hL.keep (.inl (by rw [hst, q]; rfl))⟩, hm⟩⟩
    · have : i = ways.length := by omega
      subst this
      have hi3 : ¬ ((ways.length : Int) < Int.ofNat (List.length ways)) := Int.lt_irrefl _
      unfold F4L0
      simp only [ok_node, ok_leaf, allA_nil, true_and, decide_eq_false hi3, Bool.false_eq_true, false_implies, forall_const]
      exact .inr ⟨last, hL, rfl⟩)
    _ ⟨0, -1, rfl, Nat.zero_le _, .inl ⟨rfl, fun j h => absurd h (Nat.not_lt_zero _)⟩⟩
theorem LastIs.end {ways : List Int} {cut : List Bool} {last : Int} (hn : 1 ≤ ways.length) (h : LastIs ways cut ways.length last) :
    ∃ k : Nat, k < ways.length ∧ (∀ x, x < k → stopB ways cut x = false) ∧ (stopB ways cut k = true ∨ k + 1 = ways.length) ∧ ((last = -1 ∧ k + 1 = ways.length) ∨ last = k) := by
  rcases h with ⟨rfl, h⟩ | ⟨k, rfl, h1, h2, h3⟩
  · exact ⟨ways.length - 1, by omega, fun x hx => h x (by omega), .inr (by omega), .inl ⟨rfl, by omega⟩⟩
  · exact ⟨k, h1, h3, .inl h2, .inr rfl⟩
theorem law4 (ways : List Int) (cut : List Bool) : F4.pre (ways, cut, ()) ∧ F4.fn (ways, cut, ()) = (true, ()) := by
  have hok : (F4 (ways, cut, ())).Ok (· = (true, ())) := by
    unfold F4
    simp only [ok_node, ok_leaf, allA_cons, allA_one, allA_nil, true_and]
    refine ⟨fun _ => trivial, fun q1 => ⟨fun _ => trivial, fun q2 => ⟨fun _ => trivial, fun q3 => ?_⟩⟩⟩
    have n1 : 1 ≤ ways.length := by have := of_decide_eq_false q1; rw [Int.ofNat_eq_natCast] at this; omega
    have n8 : ways.length ≤ 8 := by have := of_decide_eq_false q2; rw [Int.ofNat_eq_natCast] at this; omega
    have nl : cut.length = ways.length := by
      have := bne_eq_false_iff_eq.1 q3
      rw [Int.ofNat_eq_natCast, Int.ofNat_eq_natCast] at this; omega
    obtain ⟨h1, y, h2, h3⟩ := F4L0_ok n8 nl
    have h1 : loopInv F4L0 (ways, cut, (), (-1 : Int), (0 : Int), ways, (1 : Int), [], (0 : Int), (), (), (0 : Int), ()) := h1
    have h2 : loopOut F4L0 (ways, cut, (), (-1 : Int), (0 : Int), ways, (1 : Int), [], (0 : Int), (), (), (0 : Int), ()) = some y := h2
    refine ⟨⟨Int.le_refl _, by rw [Int.ofNat_eq_natCast]; omega⟩, fun _ => trivial, fun q4 => ?_⟩
    refine ⟨h1, ?_⟩
    rw [h2]
    rcases h3 with rfl | ⟨last, hL, rfl⟩
    · simp [isL, getL]
    · refine ⟨fun h => absurd h (by simp [isL, restR]), fun _ => ?_⟩
      simp only [isL, restR, getL]
      obtain ⟨k, hk, hlo, hat, hlast⟩ := hL.end n1
      have hg := WW_good (cut := cut) n8
      have hlen := WW_len ways cut
      have hr : rootsS (wDisks (WW ways cut)).length = spots 1 (List.range' 0 ways.length) := by rw [hlen]; unfold rootsS; rw [List.range_eq_range']
      have hs := rootsS_ok (w := WW ways cut)
      obtain ⟨p6, q6⟩ := F6_ok (w := WW ways cut) (by rw [hlen]; exact n8)
      rw [hr] at q6 hs
      have hl1 : (spots 1 (List.range' 0 ways.length)).length ≤ 1000 := by rw [List.length_map, List.length_range']; omega
      obtain ⟨p16, q16⟩ := F16_ok hg (name := sA) (by decide) hs hl1
      obtain ⟨p17, q17⟩ := F17_ok hg (name := sA) (by decide) hs hl1
      obtain ⟨p10, q10⟩ := F10_ok hg (name := sA) (by decide) hs hl1
      have hsp := scan_spots (w := WW ways cut) (name := sA) _ [] hs (fun d hd => by cases hd)
      have hsc := scan_to (ways := ways) (cut := cut) n8 ways.length 0 k [] (by omega) (Nat.zero_le _) hk (fun x _ h => hlo x h) hat
      rw [hsc] at q16 q17 q10 hsp
      simp only [List.nil_append, Nat.sub_zero] at q16 q17 q10 hsp
      have hl2 : (spots 2 (List.range' 0 (k + 1))).length = k + 1 := by rw [List.length_map, List.length_range']
      obtain ⟨p18, q18⟩ := F18_ok hg hsp (by rw [hl2]; omega)
      rw [names_are n8 hk] at q18
      obtain ⟨p7, q7⟩ := F7_ok (xs := spots 2 (List.range' 0 (k + 1))) (by rw [hl2]; omega)
      have hl3 : ((List.range' 0 (k + 1)).map fun j => [bj j]).length = k + 1 := by rw [List.length_map, List.length_range']
      have hW : ((ways, 1, List.map (DD cut) (List.range ways.length), 0, [], [], 0) : Wdt) = WW ways cut := rfl
      obtain ⟨p11, q11⟩ := F11_ok
      have hb : (Int.ofNat (k + 1) == ((k + 1 : Nat) : Int)) = true := by rw [Int.ofNat_eq_natCast]; exact beq_self_eq_true _
      have hb2 : ((k : Int) == (k : Int)) = true := beq_self_eq_true _
      rcases hlast with ⟨rfl, hk1⟩ | rfl
      · have hA : wrp .i64 (Int.ofNat ways.length - 1) = (k : Int) := by
          rw [Int.ofNat_eq_natCast, wrp_id (by omega) (by omega)]; omega
        have hneg : decide ((-1 : Int) < 0) = true := rfl
        simp only [hW, e1, q6, p6, q16, p16, q17, p17, q18, p18, q10, p10, q7, p7, q11, p11, hl2, hl3, hA, wrp_succ (show k < 4611686018427387904 by omega), hb, hb2, forall_const, Bool.true_eq_false, false_implies, and_true, true_and]
        exact ⟨fun _ => trivial, fun h => absurd (of_decide_eq_false h) (by decide)⟩
      · have hneg : decide ((k : Int) < 0) = false := decide_eq_false (by omega)
        simp only [hW, e1, q6, p6, q16, p16, q17, p17, q18, p18, q10, p10, q7, p7, q11, p11, hl2, hl3, wrp_succ (show k < 4611686018427387904 by omega), hb, hb2, forall_const, Bool.true_eq_false, Bool.false_eq_true, false_implies, and_true, true_and]
        exact ⟨fun h => absurd (of_decide_eq_true h) (by omega), fun _ => trivial⟩
  exact hok
end Go.Proofs.YtkccnomdfkhfnaaGreat
