/- Disks that are such; the law, over data. -/
import Derived.Test.YtkccnomdfkhfnaaGreatSEP8
set_option linter.unusedVariables false
set_option linter.unusedSimpArgs false
set_option maxRecDepth 10000
namespace Go.Proofs.YtkccnomdfkhfnaaGreat
open Go.RowKit Go.Proofs.YtkccnomdfkhfnaaGreat.Ev

theorem F42L1_ok {d : Dkt} (hd : BdD d) (u c : Int) {i : Nat} (hi : i < d.2.2.2.length) :
    loopInv F42L1 (u, (), c, (i : Int), (0 : Int), d.1, d.2.1, d.2.2.1, d.2.2.2, ()) ∧ ∃ y, loopOut F42L1 (u, (), c, (i : Int), (0 : Int), d.1, d.2.1, d.2.2.1, d.2.2.2, ()) = some y ∧ ∃ c' : Int, y = .inl (u, (), c', (i : Int), d.1, d.2.1, d.2.2.1, d.2.2.2, ()) := by
  have hx : @id Ndt (xsAt Nd d.2.2.2 i) = d.2.2.2[i] := xsAt_lt hi
  have hf : d.2.2.2[i].2.2.2.2.2.2.2.length ≤ 1048576 := hd.few _ (List.getElem_mem hi)
  have hi3 : (i : Int) < Int.ofNat d.2.2.2.length := by rw [Int.ofNat_eq_natCast]; omega
  exact loopP (tr := F42L1) (fun x => ∃ (k : Nat) (c : Int), x = (u, (), c, (i : Int), (k : Int), d.1, d.2.1, d.2.2.1, d.2.2.2, ()) ∧ k ≤ d.2.2.2[i].2.2.2.2.2.2.2.length) (fun x => (d.2.2.2[i].2.2.2.2.2.2.2.length - x.2.2.2.2.1).toNat) (fun y => ∃ c' : Int, y = .inl (u, (), c', (i : Int), d.1, d.2.1, d.2.2.1, d.2.2.2, ())) (by
    rintro _ ⟨k, c, rfl, hk⟩
    unfold F42L1
    simp only [Int.toNat_natCast, hx, hi3, ok_node, ok_leaf, allA_cons, allA_one, allA_nil, true_and, and_true, Int.natCast_nonneg, decide_eq_true_eq, decide_eq_false_iff_not]
    have mdec : k < d.2.2.2[i].2.2.2.2.2.2.2.length → ((d.2.2.2[i].2.2.2.2.2.2.2.length : Int) - ((k + 1 : Nat) : Int)).toNat < ((d.2.2.2[i].2.2.2.2.2.2.2.length : Int) - (k : Int)).toNat := by omega
    refine ⟨fun h => ⟨h, ?_, ?_⟩, fun _ => ⟨c, rfl⟩⟩
    · intro _
      have hk2 : k < d.2.2.2[i].2.2.2.2.2.2.2.length := by rw [Int.ofNat_eq_natCast] at h; omega
      rw [wrp_succ (show k < 4611686018427387904 by omega)]
      exact ⟨⟨k + 1, _, rfl, hk2⟩, mdec hk2⟩
    · intro _
      have hk2 : k < d.2.2.2[i].2.2.2.2.2.2.2.length := by rw [Int.ofNat_eq_natCast] at h; omega
      rw [wrp_succ (show k < 4611686018427387904 by omega)]
      exact ⟨⟨k + 1, _, rfl, hk2⟩, mdec hk2⟩)
    _ ⟨0, c, rfl, Nat.zero_le _⟩
theorem F42_ok {d : Dkt} (hd : BdD d) (u : Int) : F42.pre (d, u, ()) ∧ ∃ v, F42.fn (d, u, ()) = (v, ()) := by
  have hn : d.2.2.2.length ≤ 1048576 := hd.nodes
  obtain ⟨h1, y, h2, h3⟩ := loopP (tr := F42L0) (fun x => ∃ (i : Nat) (c : Int), x = (u, (), c, (i : Int), d.1, d.2.1, d.2.2.1, d.2.2.2, ()) ∧ i ≤ d.2.2.2.length) (fun x => (x.2.2.2.2.2.2.2.1.length - x.2.2.2.1).toNat) (fun y => ∃ v, y = .inl v) (by
    rintro _ ⟨i, c, rfl, hi⟩
    rcases Nat.lt_or_ge i d.2.2.2.length with g | g
    · have hi3 : (i : Int) < Int.ofNat d.2.2.2.length := by rw [Int.ofNat_eq_natCast]; omega
      obtain ⟨p, y, e, c', rfl⟩ := F42L1_ok hd u c g
      unfold F42L0
      simp only [hi3, p, e, getL, decide_true, ok_node, ok_leaf, allA_cons, allA_one, allA_nil, true_and, and_true, Int.natCast_nonneg, forall_const, Bool.true_eq_false, false_implies, implies_true, wrp_succ (show i < 4611686018427387904 by omega)]
      exact ⟨⟨i + 1, _, rfl, g⟩, by simp; omega⟩
    · have : i = d.2.2.2.length := by omega
      subst this
      unfold F42L0
      simp only [ok_node, ok_leaf, allA_nil, true_and, Int.ofNat_eq_natCast, Int.lt_irrefl, decide_false, Bool.false_eq_true, false_implies, forall_const]
      exact ⟨_, rfl⟩)
    _ ⟨0, 0, rfl, Nat.zero_le _⟩
  obtain ⟨v, rfl⟩ := h3
  have hok : (F42 (d, u, ())).Ok (fun r => ∃ v, r = (v, ())) := by
    unfold F42
    have h1 : loopInv F42L0 (u, (), (0 : Int), (0 : Int), d.1, d.2.1, d.2.2.1, d.2.2.2, ()) := h1
    simp only [h1, ok_leaf, allA_one, true_and]
    exact ⟨_, rfl⟩
  exact hok
theorem F71_ok {xs : List Int} (hl : xs.length < 2305843009213693952) (a : Int) : F71.pre (xs, a, ()) ∧ F71.fn (xs, a, ()) = (decide (a ∈ xs), ()) := by
  obtain ⟨h1, y, h2, h3⟩ := loopP (tr := F71L0) (fun x => ∃ i : Nat, x = (xs, a, (i : Int), ()) ∧ i ≤ xs.length ∧ (a ∈ xs.drop i ↔ a ∈ xs)) (fun x => (x.1.length - x.2.2.1).toNat) (fun y => (y = .inl (true, ()) ∧ a ∈ xs) ∨ (∃ z, y = .inr (.inl z)) ∧ ¬ a ∈ xs) (by
    rintro _ ⟨i, rfl, hi, hR⟩
    rcases Nat.lt_or_ge i xs.length with g | g
    · have hi3 : (i : Int) < Int.ofNat xs.length := by rw [Int.ofNat_eq_natCast]; omega
      have hx : @id Int (xsAt (.one (.int .i64)) xs i) = xs[i] := xsAt_lt g
      rw [List.drop_eq_getElem_cons g, List.mem_cons] at hR
      unfold F71L0
      simp only [Int.toNat_natCast, hx, hi3, decide_true, ok_node, ok_leaf, allA_cons, allA_one, allA_nil, true_and, and_true, Int.natCast_nonneg, forall_const, Bool.true_eq_false, false_implies, implies_true, wrp_succ (show i < 4611686018427387904 by omega)]
      refine ⟨fun q => by
        have hm : a ∈ xs := hR.1 (.inl (by simpa using (beq_iff_eq.1 q).symm))
        first | exact .inl ⟨rfl, hm⟩ | exact .inl hm, fun q => ⟨⟨i + 1, rfl, g, ?_⟩, by simp; omega⟩⟩
      have hne : ¬ a = xs[i] := fun e => by rw [e] at q; simp at q
      rw [← hR]
      exact ⟨.inr, fun h => h.resolve_left hne⟩
    · have : i = xs.length := by omega
      subst this
      rw [List.drop_length] at hR
      have hno : ¬ a ∈ xs := fun h => by have := hR.2 h; cases this
      unfold F71L0
      simp only [ok_node, ok_leaf, allA_nil, true_and, Int.ofNat_eq_natCast, Int.lt_irrefl, decide_false, Bool.false_eq_true, false_implies, forall_const]
      first | exact .inr ⟨⟨_, rfl⟩, hno⟩ | exact .inr ⟨⟨(), trivial⟩, hno⟩ | exact .inr ⟨trivial, hno⟩)
    _ ⟨0, rfl, Nat.zero_le _, Iff.rfl⟩
  have hok : (F71 (xs, a, ())).Ok (· = (decide (a ∈ xs), ())) := by
    unfold F71
    have h1 : loopInv F71L0 (xs, a, (0 : Int), ()) := h1
    have h2 : loopOut F71L0 (xs, a, (0 : Int), ()) = some y := h2
    simp only [h1, h2, ok_node, ok_leaf, allA_cons, allA_one, allA_nil, true_and]
    rcases h3 with ⟨rfl, h⟩ | ⟨⟨z, rfl⟩, h⟩
    · simp [isL, getL, h]
    · simp [isL, h]
  exact hok

/-! ## what is reached -/
theorem nodup_len {l b : List Int} (h : l.Nodup) (hs : ∀ x ∈ l, x ∈ b) : l.length ≤ b.length := by
  induction l generalizing b with
  | nil => exact Nat.zero_le _
  | cons x r ih =>
    rw [List.nodup_cons] at h
    have hx := hs x List.mem_cons_self
    have := ih (b := b.erase x) h.2 fun y hy => by
      have hne : y ≠ x := fun e => h.1 (e ▸ hy)
      exact (List.mem_erase_of_ne hne).2 (hs y (List.mem_cons_of_mem _ hy))
    rw [List.length_erase_of_mem hx] at this
    have hpos : 0 < b.length := List.length_pos_of_mem hx
    simp only [List.length_cons]; omega
def inosD (d : Dkt) : List Int := 1 :: (dkNodes d).flatMap fun n => (ndNames n).map (·.2)
theorem flat_len {α : Type} (f : Ndt → List α) (B : Nat) : ∀ (l : List Ndt), (∀ n ∈ l, (f n).length ≤ B) → (l.flatMap f).length ≤ l.length * B
  | [], _ => by simp
  | x :: r, h => by
    rw [List.flatMap_cons, List.length_append, List.length_cons, Nat.add_mul]
    have h1 := h x List.mem_cons_self
    have h2 := flat_len f B r fun n hn => h n (List.mem_cons_of_mem _ hn)
    omega
theorem inosD_len {d : Dkt} (hd : BdD d) : (inosD d).length ≤ 1099511627777 := by
  unfold inosD
  have h := flat_len (fun n => (ndNames n).map (·.2)) 1048576 (dkNodes d) fun n hn => by rw [List.length_map]; exact hd.few n hn
  have h2 := Nat.mul_le_mul_right 1048576 hd.nodes
  rw [List.length_cons]
  omega
structure Reach (d : Dkt) (l : List Int) : Prop where
  nd : l.Nodup
  sub : ∀ x ∈ l, x ∈ inosD d
theorem Reach.len {d : Dkt} (hd : BdD d) {l : List Int} (h : Reach d l) : l.length ≤ 1099511627777 := Nat.le_trans (nodup_len h.nd h.sub) (inosD_len hd)
theorem ino_mem {d : Dkt} {u : Int} {x : Nmt} (h : x ∈ ndNames ((nodeOf d u).getD ndZ)) : x.2 ∈ inosD d := by
  cases q : nodeOf d u with
  | none => rw [q] at h; cases h
  | some n =>
    rw [q] at h
    exact List.mem_cons_of_mem _ (List.mem_flatMap.2 ⟨n, List.mem_of_find?_eq_some q, List.mem_map.2 ⟨x, h, rfl⟩⟩)
abbrev st43 (d : Dkt) (left : Int) (l : List Int) (k : Nat) (n : Ndt) : Int × List (Int) × Unit × Unit × Int × Int × Int × Int × List Ndt × Int × Int × Int × Int × Int × List Bkt × List UInt8 × List Nmt × Unit :=
  (left, l, (), (), (k : Int), d.1, d.2.1, d.2.2.1, d.2.2.2, n.1, n.2.1, n.2.2.1, n.2.2.2.1, n.2.2.2.2.1, n.2.2.2.2.2.1, n.2.2.2.2.2.2.1, n.2.2.2.2.2.2.2, ())
theorem F43_at {d : Dkt} (hd : BdD d) : ∀ (m : Nat) (u : Int) (l : List Int), m ≤ 100 → Reach d l → (F43at (m + 1)).pre (d, u, (m : Int), l, ()) ∧ Reach d ((F43at (m + 1)).fn (d, u, (m : Int), l, ())).1
  | m, u, l, hm, hl => by
    have hloop : ∀ (rc : RecC (Dkt × Int × Int × List (Int) × Unit) (List (Int) × Bool × Unit)) (n : Ndt), n = (nodeOf d u).getD ndZ → (0 < (ndNames n).length → ∀ (x : Int) (l : List Int), Reach d l → rc.pre (d, x, wrp .i64 ((m : Int) - 1), l, ()) ∧ Reach d (rc.fn (d, x, wrp .i64 ((m : Int) - 1), l, ())).1) →
        loopInv (F43L0 rc) (st43 d (m : Int) l 0 n) ∧ ∃ y, loopOut (F43L0 rc) (st43 d (m : Int) l 0 n) = some y ∧ ((∃ l', y = .inl (l', false, ()) ∧ Reach d l') ∨ ∃ l', y = .inr (.inl (l', ())) ∧ Reach d l') := by
      intro rc n hnn hrc
      have hf : n.2.2.2.2.2.2.2.length ≤ 1048576 := by
        subst hnn
        cases q : nodeOf d u with
        | none => exact Nat.zero_le _
        | some n => exact hd.few n (List.mem_of_find?_eq_some q)
      refine loopP (tr := F43L0 rc) (fun x => ∃ (k : Nat) (l : List Int), x = st43 d (m : Int) l k n ∧ k ≤ n.2.2.2.2.2.2.2.length ∧ Reach d l) (fun x => (x.2.2.2.2.2.2.2.2.2.2.2.2.2.2.2.2.1.length - x.2.2.2.2.1).toNat) (fun y => (∃ l', y = .inl (l', false, ()) ∧ Reach d l') ∨ ∃ l', y = .inr (.inl (l', ())) ∧ Reach d l') ?_ _ ⟨0, l, rfl, Nat.zero_le _, hl⟩
      rintro _ ⟨k, l, rfl, hk, hl⟩
      rcases Nat.lt_or_ge k n.2.2.2.2.2.2.2.length with g | g
      · have hi3 : (k : Int) < Int.ofNat n.2.2.2.2.2.2.2.length := by rw [Int.ofNat_eq_natCast]; omega
        have hx : @id Nmt (xsAt Nm n.2.2.2.2.2.2.2 k) = n.2.2.2.2.2.2.2[k] := xsAt_lt g
        have hmem : n.2.2.2.2.2.2.2[k] ∈ ndNames ((nodeOf d u).getD ndZ) := by rw [← hnn]; exact List.getElem_mem g
        have hino := ino_mem hmem
        generalize n.2.2.2.2.2.2.2[k] = x at hx hino
        have hlen := hl.len hd
        obtain ⟨p1, e1⟩ := F71_ok (xs := l) (by omega) x.2
        have hrc := hrc (Nat.lt_of_le_of_lt (Nat.zero_le _) g)
        have mdec : ((n.2.2.2.2.2.2.2.length : Int) - ((k + 1 : Nat) : Int)).toNat < ((n.2.2.2.2.2.2.2.length : Int) - (k : Int)).toNat := by omega
        unfold F43L0
        simp only [Int.toNat_natCast, hx, hi3, p1, e1, decide_true, ok_node, ok_leaf, allA_cons, allA_one, allA_nil, true_and, and_true, Int.natCast_nonneg, forall_const, Bool.true_eq_false, false_implies, implies_true, wrp_succ (show k < 4611686018427387904 by omega), decide_eq_true_eq, decide_eq_false_iff_not, List.nil_append]
        refine ⟨fun _ => ⟨⟨k + 1, l, rfl, g, hl⟩, mdec⟩, fun hno => ?_⟩
        have hl2 : Reach d (l ++ x.2 :: []) := ⟨by
          rw [List.nodup_append]
          refine ⟨hl.nd, by simp, fun a ha b hb => ?_⟩
          rw [List.mem_singleton] at hb
          subst hb
          exact fun e => hno (e ▸ ha), fun z hz => by
          rcases List.mem_append.1 hz with hz | hz
          · exact hl.sub z hz
          · rw [List.mem_singleton] at hz; subst hz; exact hino⟩
        obtain ⟨q1, q2⟩ := hrc x.2 (l ++ x.2 :: []) hl2
        have r1 : (List.length (l ++ x.2 :: [])) * 8 ≤ Room := by rw [List.length_append, List.length_singleton]; unfold Room; omega
        have r2 : (List.length l) * 8 ≤ Room := by unfold Room; omega
        refine ⟨⟨q1, r1, r2⟩, fun _ => .inl ⟨_, rfl, q2⟩, fun _ => ⟨⟨k + 1, _, rfl, g, q2⟩, mdec⟩⟩
      · have : k = n.2.2.2.2.2.2.2.length := by omega
        subst this
        unfold F43L0
        simp only [ok_node, ok_leaf, allA_nil, true_and, Int.ofNat_eq_natCast, Int.lt_irrefl, decide_false, Bool.false_eq_true, false_implies, forall_const]
        exact .inr ⟨l, rfl, hl⟩
    obtain ⟨p0, e0⟩ := F12_ok hd.sm u
    have hok : (F43 (F43at m) (d, u, (m : Int), l, ())).Ok (fun r => Reach d r.1) := by
      unfold F43
      simp only [e0, p0, ok_node, ok_leaf, allA_cons, allA_one, allA_nil, true_and]
      have both : (0 < (ndNames ((nodeOf d u).getD ndZ)).length → ∀ (x : Int) (l : List Int), Reach d l → (F43at m).pre (d, x, wrp .i64 ((m : Int) - 1), l, ()) ∧ Reach d ((F43at m).fn (d, x, wrp .i64 ((m : Int) - 1), l, ())).1) →
          loopInv (F43L0 (F43at m)) (st43 d (m : Int) l 0 ((nodeOf d u).getD ndZ)) ∧ (isL (loopOut (F43L0 (F43at m)) (st43 d (m : Int) l 0 ((nodeOf d u).getD ndZ))) = true → Reach d (getL (Shape.z F43L0S0) (loopOut (F43L0 (F43at m)) (st43 d (m : Int) l 0 ((nodeOf d u).getD ndZ)))).1) ∧
            (isL (loopOut (F43L0 (F43at m)) (st43 d (m : Int) l 0 ((nodeOf d u).getD ndZ))) = false → Reach d (getL (Shape.z F43L0S1) (restR (loopOut (F43L0 (F43at m)) (st43 d (m : Int) l 0 ((nodeOf d u).getD ndZ))))).1) := fun hrc => by
        obtain ⟨h1, y, h2, h3⟩ := hloop (F43at m) _ rfl hrc
        refine ⟨h1, fun h => ?_, fun h => ?_⟩
        · rw [h2] at h
          rcases h3 with ⟨l', rfl, h3⟩ | ⟨l', rfl, h3⟩
          · exact (congrArg (Reach d) (congrArg (fun o => (getL (Shape.z F43L0S0) o).1) h2)).mpr h3
          · simp [isL] at h
        · rw [h2] at h
          rcases h3 with ⟨l', rfl, h3⟩ | ⟨l', rfl, h3⟩
          · simp [isL] at h
          · exact (congrArg (Reach d) (congrArg (fun o => (getL (Shape.z F43L0S1) (restR o)).1) h2)).mpr h3
      refine ⟨fun hz => ⟨fun _ => hl, fun hno => ?_⟩, fun hz => ?_⟩
      · have hno : ¬ (Int.ofNat (ndNames ((nodeOf d u).getD ndZ)).length > 0) := by simpa using hno
        exact both fun hpos => absurd (show Int.ofNat (ndNames ((nodeOf d u).getD ndZ)).length > 0 by rw [Int.ofNat_eq_natCast]; omega) hno
      · have hz : ¬ ((m : Int) = 0) := by simpa using hz
        match m, hm, hz, both with
        | 0, _, hz, _ => exact absurd rfl hz
        | m + 1, hm, _, both =>
          refine both fun _ x l hl => ?_
          have e : wrp .i64 (((m + 1 : Nat) : Int) - 1) = (m : Int) := by rw [wrp_id (by omega) (by omega)]; omega
          rw [e]
          exact F43_at hd m x l (by omega) hl
    exact hok
theorem F43_pre {d : Dkt} (hd : BdD d) : F43.pre (d, 1, 16, [1], ()) := ⟨17, (F43_at hd 16 1 [1] (by omega) ⟨by simp, fun x hx => by rw [List.mem_singleton] at hx; subst hx; exact List.mem_cons_self⟩).1⟩
end Go.Proofs.YtkccnomdfkhfnaaGreat
