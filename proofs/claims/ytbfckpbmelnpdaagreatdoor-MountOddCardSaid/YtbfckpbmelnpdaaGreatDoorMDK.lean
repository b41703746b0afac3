/- The closed function that the law MountOdd asks: it answers true. -/
import Derived.Test.YtbfckpbmelnpdaaGreatDoorMDBase
namespace Go.Proofs.YtbfckpbmelnpdaaGreatDoor.mountOdd
open Go.RowKit Go.Proofs.YtbfckpbmelnpdaaGreatDoor.Ev
set_option maxRecDepth 100000
theorem knr : isTrue (callF Tryz.prog cfg0 1000 7 [] st00) = true := by kernel_rfl
theorem knc : ClosedAt Tryz.prog 7 true := by
  have hr := knr
  unfold isTrue at hr
  split at hr
  · rename_i st' hev
    have hb : ∃ c, Tryz.f7.body = some c := by
      cases h : Tryz.f7.body with
      | some c => exact ⟨c, rfl⟩
      | none => exact absurd (show Tryz.f7.body.isNone = true by rw [h]; rfl) (by rw [show Tryz.f7.body.isNone = false by kernel_rfl]; simp)
    obtain ⟨c, hc⟩ := hb
    exact closed_of_evF cfgOk0 Tryz.func7 hc hev
  · cases hr
theorem cfgOk : CfgOk Tryz.prog cfg := ⟨cfgOk0.ng, cfgOk0.ov, cfgOk0.ex, cfgOk0.jn, cfgOk0.mixed, fun f b h => by
  have h : (bif Nat.beq 7 f then some true else none) = some b := h
  cases hb : Nat.beq 7 f with
  | true => rw [hb, cond_true] at h; cases h; rw [Nat.beq_eq] at hb; subst hb; exact knc
  | false => rw [hb, cond_false] at h; cases h⟩
end Go.Proofs.YtbfckpbmelnpdaaGreatDoor.mountOdd
