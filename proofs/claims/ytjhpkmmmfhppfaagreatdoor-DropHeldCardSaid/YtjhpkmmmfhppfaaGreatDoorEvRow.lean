import Derived.Test.YtjhpkmmmfhppfaaGreatDoorEvFastW
set_option linter.unusedVariables false
namespace Go.Proofs.YtjhpkmmmfhppfaaGreatDoor.Ev
open Go.RowKit
/-! ## a row of bytes that came in, of which nothing but its length is known -/
noncomputable def rowT (n : Nat) : Tr AV := Nat.rec (motive := fun _ => Tr AV) .e (fun k t => t.set k (.fl .f64 0)) n
theorem rowT_get : ∀ {n k : Nat}, k < n → (rowT n).get k = some (.fl .f64 0)
  | 0, k, h => by omega
  | n + 1, k, h => by
    show (Tr.set (rowT n) n _).get k = _
    rw [Tr.get_set]
    by_cases e : k = n
    · rw [if_pos e]
    · rw [if_neg e]; exact rowT_get (by omega)
noncomputable def stRow (n : Nat) : St := .mk (Tr.set .e 0 (.cells (rowT n) n 1 true 0)) 1 1
theorem stRow_get {n o : Nat} {ob : AObj} (h : (stRow n).heap.get o = some ob) : o = 0 ∧ ob = .cells (rowT n) n 1 true 0 := by
  have h : (Tr.set .e 0 (.cells (rowT n) n 1 true 0)).get o = some ob := h
  rw [Tr.get_set] at h
  by_cases e : o = 0
  · rw [if_pos e] at h; cases h; exact ⟨e, rfl⟩
  · rw [if_neg e, Tr.get_e] at h; cases h
theorem calls_of_row {P : Program} {g : Cfg} (hg : CfgOk P g) {m : Nat} {f : FuncId} {fn : Func} {c : Code} (hf : P.funcs[f]? = some fn) (hb : fn.body = some c) {k : IntKind} {way : Int} {n : Nat} {r : AV} {st' : St}
    (hev : callF P g m f [.i k way, .sl 0 0 n n false 1] (stRow n) = some (r, st')) {b off cap : Nat} {w : World} {cs : Array Value} {el : TypeId} {fr : Nat × Nat} (hw : w.heap[b]? = some (.cells cs el fr)) (hc : n ≤ cap) (hs : off + cap ≤ cs.size)
    (hv : ∀ k, k < n → ∃ (ik : IntKind) (z : Int), cs[off + k]? = some (.int ik z)) :
    Calls P f #[.int k way, .slice (some ⟨b, off, none⟩) n cap] w fun e w' => ∃ v, e = .returned v ∧ Below w.heap.size w w' ∧ ∃ μ', vr μ' r v := by
  have hblk : b < w.heap.size := by
    rcases Nat.lt_or_ge b w.heap.size with h | h
    · exact h
    · rw [Array.getElem?_eq_none h] at hw; cases hw
  obtain ⟨μ, hμ⟩ : ∃ μ : Mu, μ = fun o => if o = 0 then some ⟨b, 0, off, 1, cs.size⟩ else none := ⟨_, rfl⟩
  have h0 : μ 0 = some ⟨b, 0, off, 1, cs.size⟩ := by rw [hμ]; rfl
  have h1 : ∀ o p, μ o = some p → o = 0 ∧ p = ⟨b, 0, off, 1, cs.size⟩ := fun o p h => by
    rw [hμ] at h
    by_cases e : o = 0
    · simp only [if_pos e] at h; cases h; exact ⟨e, rfl⟩
    · simp only [if_neg e] at h; cases h
  have hrs : RS w.heap.size w μ (stRow n) w := by
    refine ⟨fun o ho => ?_, fun o p hp => ?_, fun o p ob hp hg => ?_, fun o p ob hp hg hfr => ?_, fun o o' p p' ob ob' hne hp hp' => ?_, Below.refl _ _, Nat.le_refl _, Nat.le_refl _⟩
    · have : 1 ≤ o := ho
      rw [hμ]; exact if_neg (by omega)
    · obtain ⟨rfl, rfl⟩ := h1 o p hp; exact hblk
    · obtain ⟨rfl, rfl⟩ := h1 o p hp
      obtain ⟨-, rfl⟩ := stRow_get hg
      refine ⟨cs, el, fr, hw, rfl, rfl, (fun e => (by cases e)), fun k _ hk => ?_⟩
      obtain ⟨ik, z, hz⟩ := hv k hk
      refine ⟨_, (show cs[off + (k - 0)]? = _ from hz), ?_⟩
      rw [rowT_get hk]
      simp only [Option.getD_some, vr]
      exact ⟨ik, z, rfl⟩
    · obtain ⟨-, rfl⟩ := stRow_get hg
      cases hfr
    · exact absurd ((h1 o p hp).1.trans (h1 o' p' hp').1.symm) hne
  have hva : vrL μ [.i k way, .sl 0 0 n n false 1] (#[.int k way, .slice (some ⟨b, off, none⟩) n cap] : Array Value).toList := by
    refine vrL_cons.2 ⟨by simp only [vr], vrL_cons.2 ⟨?_, by simp only [vrL]⟩⟩
    simp only [vr]
    exact ⟨_, cap, h0, Nat.le_refl _, rfl, rfl, hc, (fun e => by cases e), hc, by show off + (0 - 0) + cap * 1 ≤ cs.size; omega⟩
  have h := callF_sound hg (fun cf hc => evDraw_sound hg.mixed hc) m f _ (stRow n) r st' hev w.heap.size w μ w _ hrs hva
  rcases h with ⟨v, w', h1, _⟩ | ⟨_, h2⟩
  · rw [run_callFunc_enter hf hb (hg.ng f fn c hf hb)] at h1
    cases h1
  · exact h2.mono fun e w' ⟨v, h3, μ', h4, h5⟩ => ⟨v, h3, h4.rs.below, μ', h5⟩
end Go.Proofs.YtjhpkmmmfhppfaaGreatDoor.Ev
