/- The setting of the law PathBack, told: the closed function that it asks answers true; the calls that were run before do what is told of them. -/
import Derived.Test.YtanhagilpecnkaaDoorPBGBase
namespace Go.Proofs.YtanhagilpecnkaaDoor.pathBack
open Go.RowKit Go.Proofs.YtanhagilpecnkaaDoor.Ev
set_option maxRecDepth 100000
theorem okc0 (l : List Hook) (hl : ∀ h ∈ l, HookOk Tryd.prog h) : CfgOk Tryd.prog (mk0 l) := ⟨cfgOk0.ng, cfgOk0.ov, cfgOk0.ex, cfgOk0.jn, cfgOk0.mixed, (fun f b h => by cases (show (none : Option Bool) = some b from h)), hl, cfgOk0.sp⟩
theorem hs0 : ∀ h ∈ ([] : List Hook), HookOk Tryd.prog h := fun h hh => by cases hh
theorem knr : isTrue (callF Tryd.prog (mk0 []) 1000 10 [] st00) = true := by kernel_rfl
theorem knc : ClosedAt Tryd.prog 10 true := by
  have hr := knr
  unfold isTrue at hr
  split at hr
  · rename_i st' hev
    have hb : ∃ c, Tryd.f10.body = some c := by
      cases h : Tryd.f10.body with
      | some c => exact ⟨c, rfl⟩
      | none => exact absurd (show Tryd.f10.body.isNone = true by rw [h]; rfl) (by rw [show Tryd.f10.body.isNone = false by kernel_rfl]; simp)
    obtain ⟨c, hc⟩ := hb
    exact closed_of_evF (okc0 _ hs0) Tryd.func10 hc hev
  · cases hr
theorem clk : ∀ f b, clOf f [(10, true)] = some b → ClosedAt Tryd.prog f b := fun f b h => by
  have h : (bif Nat.beq 10 f then some true else none) = some b := h
  cases hb : Nat.beq 10 f with
  | true => rw [hb, cond_true] at h; cases h; rw [Nat.beq_eq] at hb; subst hb; exact knc
  | false => rw [hb, cond_false] at h; cases h
theorem okc (l : List Hook) (hl : ∀ h ∈ l, HookOk Tryd.prog h) : CfgOk Tryd.prog (mkc l) := ⟨cfgOk0.ng, cfgOk0.ov, cfgOk0.ex, cfgOk0.jn, cfgOk0.mixed, clk, hl, cfgOk0.sp⟩
theorem cfgOk : CfgOk Tryd.prog cfg := okc _ hs0
end Go.Proofs.YtanhagilpecnkaaDoor.pathBack
