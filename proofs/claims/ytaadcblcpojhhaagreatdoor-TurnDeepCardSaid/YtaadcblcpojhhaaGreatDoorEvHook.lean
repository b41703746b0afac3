import Derived.Test.YtaadcblcpojhhaaGreatDoorEvCall
namespace Go.Proofs.YtaadcblcpojhhaaGreatDoor.Ev
open Go.RowKit

theorem and_elim {a b : Bool} (h : (a && b) = true) : a = true ∧ b = true := by simpa using h
theorem eqI_sound {a b : Int} (h : eqI a b = true) : a = b := by
  cases a <;> cases b <;> simp only [eqI] at h <;> first | cases h | (rw [Nat.beq_eq] at h; rw [h])
theorem eqB_sound {x y : Bool} (h : bsel x y (bsel y false true) = true) : x = y := by cases x <;> cases y <;> first | rfl | cases h
mutual
theorem eqA_sound : ∀ (n : Nat) (a b : AV), eqA n a b = true → a = b
  | 0, a, b, h => by cases h
  | n + 1, a, b, h => by
    cases a <;> cases b <;> simp only [eqA] at h <;> first
      | rfl
      | (cases h; done)
      | (rw [eqB_sound h]; done)
      | (obtain ⟨h1, h2⟩ := and_elim h; rw [eqI_sound h2, eq_of_beq h1]; done)
      | (obtain ⟨h1, h2⟩ := and_elim h; rw [Nat.beq_eq] at h1 h2; rw [h1, h2]; done)
      | (rw [Nat.beq_eq] at h; rw [h]; done)
      | (obtain ⟨h1, h2⟩ := and_elim h; obtain ⟨h2, h3⟩ := and_elim h2; obtain ⟨h3, h4⟩ := and_elim h3; obtain ⟨h4, h5⟩ := and_elim h4; obtain ⟨h5, h6⟩ := and_elim h5
         rw [Nat.beq_eq] at h1 h2 h3 h4 h5; rw [h1, h2, h3, h4, h5, eqB_sound h6]; done)
      | (obtain ⟨h1, h2⟩ := and_elim h; rw [Nat.beq_eq] at h1; rw [h1, eqA_sound n _ _ h2]; done)
      | (rw [eqL_sound n _ _ h]; done)
      | (obtain ⟨h1, h2⟩ := and_elim h; obtain ⟨h2, h3⟩ := and_elim h2; rw [Nat.beq_eq] at h1; rw [h1, eqL_sound n _ _ h2, eqL_sound n _ _ h3]; done)
theorem eqL_sound : ∀ (n : Nat) (a b : List AV), eqL n a b = true → a = b
  | 0, [], [], _ => rfl
  | n + 1, [], [], _ => rfl
  | 0, [], b :: m, h => by cases h
  | 0, a :: l, [], h => by cases h
  | 0, a :: l, b :: m, h => by cases h
  | n + 1, [], b :: m, h => by cases h
  | n + 1, a :: l, [], h => by cases h
  | n + 1, a :: l, b :: m, h => by
    simp only [eqL] at h
    obtain ⟨h1, h2⟩ := and_elim h
    rw [eqA_sound n _ _ h1, eqL_sound n _ _ h2]
end
theorem eqT_sound : ∀ (a b : Tr AV), eqT a b = true → a = b
  | .e, .e, _ => rfl
  | .e, .n _ _ _, h => by cases h
  | .n _ _ _, .e, h => by cases h
  | .n v l r, .n v' l' r', h => by
    simp only [eqT] at h
    obtain ⟨h1, h2⟩ := and_elim h
    obtain ⟨h2, h3⟩ := and_elim h2
    rw [eqT_sound l l' h2, eqT_sound r r' h3]
    cases v <;> cases v' <;> first | rfl | cases h1 | (rw [eqA_sound _ _ _ h1])
theorem eqIn_sound {ob ob' : AObj} (h : eqIn ob ob' = true) : ∃ c lim esz ro tw, ob = .cells c lim esz true tw ∧ ob' = .cells c lim esz ro tw := by
  cases ob with
  | cells c lim esz ro tw =>
    cases ro with
    | false => cases ob' <;> cases h
    | true =>
      cases ob' with
      | cells c' lim' esz' ro' tw' =>
        simp only [eqIn] at h
        obtain ⟨h1, h2⟩ := and_elim h
        obtain ⟨h2, h3⟩ := and_elim h2
        obtain ⟨h3, h4⟩ := and_elim h3
        rw [Nat.beq_eq] at h1 h2 h3
        subst h1 h2 h3
        exact ⟨_, _, _, ro', _, rfl, by rw [eqT_sound _ _ h4]⟩
      | _ => cases h
  | _ => cases ob' <;> cases h
theorem eqOut_sound {ob ob' : AObj} (h : eqOut ob ob' = true) : ob' = ob ∧ ob.free = true := by
  cases ob with
  | cells c lim esz ro tw =>
    cases ro with
    | true => cases ob' <;> cases h
    | false =>
      cases ob' with
      | cells c' lim' esz' ro' tw' =>
        cases ro' with
        | true => cases h
        | false =>
          simp only [eqOut] at h
          obtain ⟨h1, h2⟩ := and_elim h
          obtain ⟨h2, h3⟩ := and_elim h2
          obtain ⟨h3, h4⟩ := and_elim h3
          rw [Nat.beq_eq] at h1 h2 h3
          subst h1 h2 h3
          rw [eqT_sound _ _ h4]
          exact ⟨rfl, rfl⟩
      | _ => cases h
  | _ => cases ob' <;> cases h

theorem mkH_get : ∀ (l : List (Nat × AObj)) (o : Nat) (ob : AObj), (mkH l).get o = some ob → (o, ob) ∈ l
  | [], o, ob, h => by rw [mkH, Tr.get_e] at h; cases h
  | p :: r, o, ob, h => by
    rw [mkH, Tr.get_set] at h
    by_cases e : o = p.1
    · rw [if_pos e] at h; cases h; subst e; exact List.mem_cons_self
    · rw [if_neg e] at h; exact List.mem_cons_of_mem _ (mkH_get r o ob h)
theorem addH_get (heap : Tr AObj) : ∀ (l : List (Nat × AObj)) (o : Nat) (ob : AObj), (addH heap l).get o = some ob → (o, ob) ∈ l ∨ (heap.get o = some ob ∧ ∀ p ∈ l, p.1 ≠ o)
  | [], o, ob, h => .inr ⟨h, fun p hp => by cases hp⟩
  | p :: r, o, ob, h => by
    rw [addH, Tr.get_set] at h
    by_cases e : o = p.1
    · rw [if_pos e] at h; cases h; subst e; exact .inl List.mem_cons_self
    · rw [if_neg e] at h
      rcases addH_get heap r o ob h with h1 | ⟨h1, h2⟩
      · exact .inl (List.mem_cons_of_mem _ h1)
      · refine .inr ⟨h1, fun q hq => ?_⟩
        rcases List.mem_cons.1 hq with rfl | hq
        · exact fun e' => e e'.symm
        · exact h2 q hq
theorem addH_old (heap : Tr AObj) : ∀ (l : List (Nat × AObj)) (o : Nat), (∀ p ∈ l, p.1 ≠ o) → (addH heap l).get o = heap.get o
  | [], o, _ => rfl
  | p :: r, o, h => by
    rw [addH, Tr.get_set, if_neg (fun e => h p List.mem_cons_self e.symm)]
    exact addH_old heap r o fun q hq => h q (List.mem_cons_of_mem _ hq)
theorem insOk_mem {heap : Tr AObj} : ∀ {l : List (Nat × AObj)}, insOk heap l = true → ∀ p ∈ l, ∃ ob, heap.get p.1 = some ob ∧ eqIn p.2 ob = true
  | [], _, p, hp => by cases hp
  | q :: r, h, p, hp => by
    simp only [insOk] at h
    obtain ⟨h1, h2⟩ := and_elim h
    rcases List.mem_cons.1 hp with rfl | hp
    · cases hg : heap.get p.1 with
      | none => rw [hg] at h1; cases h1
      | some ob => rw [hg] at h1; exact ⟨ob, rfl, h1⟩
    · exact insOk_mem h2 p hp
theorem outsOk_mem {n : Nat} {heap : Tr AObj} : ∀ {l : List (Nat × AObj)}, outsOk n heap l = true → ∀ p ∈ l, n ≤ p.1 ∧ p.2.free = true ∧ heap.get p.1 = some p.2
  | [], _, p, hp => by cases hp
  | q :: r, h, p, hp => by
    simp only [outsOk] at h
    obtain ⟨h1, h2⟩ := and_elim h
    obtain ⟨h2, h3⟩ := and_elim h2
    rcases List.mem_cons.1 hp with rfl | hp
    · cases hg : heap.get p.1 with
      | none => rw [hg] at h2; cases h2
      | some ob =>
        rw [hg] at h2
        obtain ⟨e, hf⟩ := eqOut_sound h2
        exact ⟨ble_iff.1 h1, hf, by rw [e]⟩
    · exact outsOk_mem h3 p hp
theorem freeFrom_get {heap : Tr AObj} {o : Nat} : ∀ {n : Nat}, freeFrom heap o n = true → ∀ k, o ≤ k → k < o + n → heap.get k = none
  | 0, _, k, h1, h2 => by omega
  | n + 1, h, k, h1, h2 => by
    simp only [freeFrom, add_eq'] at h
    obtain ⟨h3, h4⟩ := and_elim h
    by_cases e : k = o + n
    · subst e
      cases hg : heap.get (o + n) with
      | none => rfl
      | some ob => rw [hg] at h3; cases h3
    · exact freeFrom_get h4 k h1 (by omega)

/-- what a call that was run before does, wherever it is made -/
def HookOk (P : Program) (h : Hook) : Prop :=
  ∀ (μ : Mu) (w : World) (vs : Array Value), RS w.heap.size w μ h.st w → vrL μ h.args vs.toList → CallW P h.f vs w fun v w' =>
    ∃ μ' st', Post w.heap.size w μ h.st μ' st' w' ∧ vr μ' h.res v ∧ st'.next = h.next' ∧ ∀ p ∈ h.outs, h.next ≤ p.1 ∧ p.2.free = true ∧ st'.heap.get p.1 = some p.2

theorem hook_of_sound {P : Program} {cf : CallF} (hcf : CFSound P cf) {h : Hook} (hc : h.chk (cf h.f h.args h.st) = true) : HookOk P h := by
  intro μ w vs hr ha
  unfold Hook.chk at hc
  split at hc
  · rename_i r st' hev
    obtain ⟨h1, h2⟩ := and_elim hc
    obtain ⟨h2, h3⟩ := and_elim h2
    rw [Nat.beq_eq] at h2
    refine (hcf _ _ _ _ _ hev w.heap.size w μ w vs hr ha).mono fun v w' ⟨μ', g1, g2⟩ => ⟨μ', st', g1, ?_, h2, outsOk_mem h3⟩
    rw [eqA_sound _ _ _ h1]; exact g2
  · cases hc

theorem told_sound {P : Program} {h : Hook} (hh : HookOk P h) {args : List AV} {st st' : St} {r : AV} (hf : h.fits args st = true) (ht : h.told st = some (r, st'))
    {n0 : Nat} {w0 : World} {μ : Mu} {w : World} {vs : Array Value} (hr : RS n0 w0 μ st w) (ha : vrL μ args vs.toList) : CallW P h.f vs w fun v w' => ∃ μ', Post n0 w0 μ st μ' st' w' ∧ vr μ' r v := by
  unfold Hook.fits at hf
  obtain ⟨f1, f2⟩ := and_elim hf
  obtain ⟨f2, f3⟩ := and_elim f2
  obtain ⟨f3, f4⟩ := and_elim f3
  rw [Nat.beq_eq] at f1
  have ea := eqL_sound _ _ _ f2
  subst ea
  cases ht
  have hin : ∀ o ob, (mkH h.ins).get o = some ob → ∃ ob', st.heap.get o = some ob' ∧ eqIn ob ob' = true := fun o ob hg => insOk_mem f3 _ (mkH_get _ _ _ hg)
  have hrs : RS w.heap.size w μ h.st w := by
    refine ⟨fun o ho => hr.fresh o (by rw [f1]; exact ho), hr.blk, fun o p ob hp hg => ?_, fun o p ob hp hg hfr => ?_, fun o o' p p' ob ob' hne hp hp' hg hg' hl hl' hb => ?_, Below.refl _ _, Nat.le_refl _, Nat.le_refl _⟩
    · obtain ⟨ob', h1, h2⟩ := hin o ob hg
      obtain ⟨c, lim, esz, ro, tw, rfl, rfl⟩ := eqIn_sound h2
      obtain ⟨cs, el, fr, g1, g2, g3, g4, g5⟩ := hr.obj o p _ hp h1
      exact ⟨cs, el, fr, g1, g2, g3, fun e => (by cases e), g5⟩
    · obtain ⟨ob', h1, h2⟩ := hin o ob hg
      obtain ⟨c, lim, esz, ro, tw, rfl, rfl⟩ := eqIn_sound h2
      cases hfr
    · obtain ⟨ob2, h1, h2⟩ := hin o ob hg
      obtain ⟨ob2', h1', h2'⟩ := hin o' ob' hg'
      obtain ⟨c, lim, esz, ro, tw, rfl, rfl⟩ := eqIn_sound h2
      obtain ⟨c', lim', esz', ro', tw', rfl, rfl⟩ := eqIn_sound h2'
      have := hr.apart o o' p p' (.cells c lim esz ro tw) (.cells c' lim' esz' ro' tw') hne hp hp' h1 h1' rfl rfl hb
      exact this
  refine (hh μ w vs hrs ha).mono fun v w' ⟨μ', s', g1, g2, g3, g4⟩ => ⟨μ', ?_, g2⟩
  have hold : ∀ o, o < st.next → μ' o = μ o := fun o ho => g1.old o (by rw [f1] at ho; exact ho)
  have hout : ∀ p ∈ h.outs, ∀ o, o < st.next → p.1 ≠ o := fun p hp o ho e => by have := (g4 p hp).1; omega
  have hbw : Below w.heap.size w w' := g1.rs.below
  have hnn : h.next ≤ h.next' := by have := g1.next; rw [g3] at this; exact this
  have hob : ∀ o p ob, μ' o = some p → (addH st.heap h.outs).get o = some ob → ((o, ob) ∈ h.outs ∧ s'.heap.get o = some ob ∧ w.heap.size ≤ p.blk) ∨ (o < st.next ∧ μ o = some p ∧ st.heap.get o = some ob) := by
    intro o p ob hp hg
    rcases addH_get _ _ _ _ hg with h1 | ⟨h1, h2⟩
    · exact .inl ⟨h1, (g4 _ h1).2.2, g1.rs.own o p ob hp (g4 _ h1).2.2 (g4 _ h1).2.1⟩
    · rcases Nat.lt_or_ge o st.next with ho | ho
      · exact .inr ⟨ho, by rw [← hold o ho]; exact hp, h1⟩
      · exfalso
        rcases Nat.lt_or_ge o h.next' with h3 | h3
        · rw [f1] at ho
          rw [freeFrom_get f4 o ho (by rw [show Nat.sub h.next' h.next = h.next' - h.next from rfl]; omega)] at h1; cases h1
        · rw [g1.rs.fresh o (by rw [g3]; exact h3)] at hp; cases hp
  refine ⟨g1.ext, hold, ⟨fun o ho => g1.rs.fresh o (by rw [g3]; exact ho), g1.rs.blk, fun o p ob hp hg => ?_, fun o p ob hp hg hfr => ?_, fun o o' p p' ob ob' hne hp hp' hg hg' hl hl' hb => ?_, hr.below.trans (hbw.mono hr.pos), Nat.le_trans hr.pos hbw.size, ?_⟩, ?_, rfl, fun o ho => ?_⟩
  · rcases hob o p ob hp hg with ⟨_, h2, _⟩ | ⟨_, h2, h3⟩
    · exact g1.rs.obj o p ob hp h2
    · exact ORel_heap (hbw.block _ (hr.blk o p h2)) (ORel_ext g1.ext (hr.obj o p ob h2 h3))
  · rcases hob o p ob hp hg with ⟨_, _, h3⟩ | ⟨_, h2, h3⟩
    · exact Nat.le_trans hr.pos h3
    · exact hr.own o p ob h2 h3 hfr
  · rcases hob o p ob hp hg with ⟨_, h2, h3⟩ | ⟨_, h2, h3⟩ <;> rcases hob o' p' ob' hp' hg' with ⟨_, h2', h3'⟩ | ⟨_, h2', h3'⟩
    · exact g1.rs.apart o o' p p' ob ob' hne hp hp' h2 h2' hl hl' hb
    · have := hr.blk o' p' h2'; omega
    · have := hr.blk o p h2; omega
    · exact hr.apart o o' p p' ob ob' hne h2 h2' h3 h3' hl hl' hb
  · show st.wmin ≤ h.next'
    have := hr.wle; omega
  · show st.next ≤ h.next'
    omega
  · exact addH_old _ _ _ fun p hp => hout p hp o (Nat.lt_of_lt_of_le ho hr.wle)
theorem hooksOf_mem : ∀ {f : Nat} {l : List Hook} {h : Hook}, h ∈ hooksOf f l → h ∈ l ∧ h.f = f
  | f, [], h, hh => by cases hh
  | f, x :: r, h, hh => by
    simp only [hooksOf] at hh
    cases hb : Nat.beq x.f f with
    | true =>
      rw [hb, cond_true] at hh
      rcases List.mem_cons.1 hh with rfl | hh
      · exact ⟨List.mem_cons_self, by rw [Nat.beq_eq] at hb; exact hb⟩
      · exact ⟨List.mem_cons_of_mem _ (hooksOf_mem hh).1, (hooksOf_mem hh).2⟩
    | false =>
      rw [hb, cond_false] at hh
      exact ⟨List.mem_cons_of_mem _ (hooksOf_mem hh).1, (hooksOf_mem hh).2⟩
end Go.Proofs.YtaadcblcpojhhaaGreatDoor.Ev
