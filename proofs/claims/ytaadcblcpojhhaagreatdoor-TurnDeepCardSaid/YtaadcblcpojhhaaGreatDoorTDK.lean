/- The setting of the law TurnDeep, told: the closed function that it asks answers true; the calls that were run before do what is told of them. -/
import Derived.Test.YtaadcblcpojhhaaGreatDoorTDBase
namespace Go.Proofs.YtaadcblcpojhhaaGreatDoor.turnDeep
open Go.RowKit Go.Proofs.YtaadcblcpojhhaaGreatDoor.Ev
set_option maxRecDepth 100000
theorem hk0 : h0.chk (callF Tryz.prog (mk0 []) 1000 h0.f h0.args h0.st) = true := by kernel_rfl
theorem hk1 : h1.chk (callF Tryz.prog (mk0 [h0]) 1000 h1.f h1.args h1.st) = true := by kernel_rfl
theorem hk2 : h2.chk (callF Tryz.prog (mk0 [h0, h1]) 1000 h2.f h2.args h2.st) = true := by kernel_rfl
theorem hk3 : h3.chk (callF Tryz.prog (mk0 [h0, h1, h2]) 1000 h3.f h3.args h3.st) = true := by kernel_rfl
theorem okc0 (l : List Hook) (hl : ∀ h ∈ l, HookOk Tryz.prog h) : CfgOk Tryz.prog (mk0 l) := ⟨cfgOk0.ng, cfgOk0.ov, cfgOk0.ex, cfgOk0.jn, cfgOk0.mixed, (fun f b h => by cases (show (none : Option Bool) = some b from h)), hl, cfgOk0.sp⟩
theorem hs0 : ∀ h ∈ ([] : List Hook), HookOk Tryz.prog h := fun h hh => by cases hh
theorem snoc {l : List Hook} {x : Hook} (hl : ∀ h ∈ l, HookOk Tryz.prog h) (hx : HookOk Tryz.prog x) : ∀ h ∈ l ++ [x], HookOk Tryz.prog h := fun h hh => by
  rcases List.mem_append.1 hh with hh | hh
  · exact hl h hh
  · rw [List.mem_singleton.1 hh]; exact hx
theorem hs1 : ∀ h ∈ [h0], HookOk Tryz.prog h := snoc (l := []) hs0 (hook_of_evF (okc0 _ hs0) hk0)
theorem hs2 : ∀ h ∈ [h0, h1], HookOk Tryz.prog h := snoc (l := [h0]) hs1 (hook_of_evF (okc0 _ hs1) hk1)
theorem hs3 : ∀ h ∈ [h0, h1, h2], HookOk Tryz.prog h := snoc (l := [h0, h1]) hs2 (hook_of_evF (okc0 _ hs2) hk2)
theorem hs4 : ∀ h ∈ [h0, h1, h2, h3], HookOk Tryz.prog h := snoc (l := [h0, h1, h2]) hs3 (hook_of_evF (okc0 _ hs3) hk3)
theorem knr : isTrue (callF Tryz.prog (mk0 [h0, h1, h2, h3]) 1000 10 [] st00) = true := by kernel_rfl
theorem knc : ClosedAt Tryz.prog 10 true := by
  have hr := knr
  unfold isTrue at hr
  split at hr
  · rename_i st' hev
    have hb : ∃ c, Tryz.f10.body = some c := by
      cases h : Tryz.f10.body with
      | some c => exact ⟨c, rfl⟩
      | none => exact absurd (show Tryz.f10.body.isNone = true by rw [h]; rfl) (by rw [show Tryz.f10.body.isNone = false by kernel_rfl]; simp)
    obtain ⟨c, hc⟩ := hb
    exact closed_of_evF (okc0 _ hs4) Tryz.func10 hc hev
  · cases hr
theorem clk : ∀ f b, clOf f [(10, true)] = some b → ClosedAt Tryz.prog f b := fun f b h => by
  have h : (bif Nat.beq 10 f then some true else none) = some b := h
  cases hb : Nat.beq 10 f with
  | true => rw [hb, cond_true] at h; cases h; rw [Nat.beq_eq] at hb; subst hb; exact knc
  | false => rw [hb, cond_false] at h; cases h
theorem okc (l : List Hook) (hl : ∀ h ∈ l, HookOk Tryz.prog h) : CfgOk Tryz.prog (mkc l) := ⟨cfgOk0.ng, cfgOk0.ov, cfgOk0.ex, cfgOk0.jn, cfgOk0.mixed, clk, hl, cfgOk0.sp⟩
theorem cfgOk : CfgOk Tryz.prog cfg := okc _ hs4
end Go.Proofs.YtaadcblcpojhhaaGreatDoor.turnDeep
