/- The setting of the law DropDirs, told: the closed function that it asks answers true; the calls that were run before do what is told of them. -/
import Derived.Test.YtilakiobihifnaaGreatDoorDDBase
import Derived.Test.YtilakiobihifnaaGreatDoorDDH0
import Derived.Test.YtilakiobihifnaaGreatDoorDDH1
import Derived.Test.YtilakiobihifnaaGreatDoorDDH2
import Derived.Test.YtilakiobihifnaaGreatDoorDDH3
import Derived.Test.YtilakiobihifnaaGreatDoorDDH4
import Derived.Test.YtilakiobihifnaaGreatDoorDDH5
namespace Go.Proofs.YtilakiobihifnaaGreatDoor.dropDirs
open Go.RowKit Go.Proofs.YtilakiobihifnaaGreatDoor.Ev
set_option maxRecDepth 100000
theorem knr : isTrue (callF Tryz.prog cfg0 1000 12 [] st00) = true := by kernel_rfl
theorem knc : ClosedAt Tryz.prog 12 true := by
  have hr := knr
  unfold isTrue at hr
  split at hr
  · rename_i st' hev
    have hb : ∃ c, Tryz.f12.body = some c := by
      cases h : Tryz.f12.body with
      | some c => exact ⟨c, rfl⟩
      | none => exact absurd (show Tryz.f12.body.isNone = true by rw [h]; rfl) (by rw [show Tryz.f12.body.isNone = false by kernel_rfl]; simp)
    obtain ⟨c, hc⟩ := hb
    exact closed_of_evF cfgOk0 Tryz.func12 hc hev
  · cases hr
theorem clk : ∀ f b, clOf f [(12, true)] = some b → ClosedAt Tryz.prog f b := fun f b h => by
  have h : (bif Nat.beq 12 f then some true else none) = some b := h
  cases hb : Nat.beq 12 f with
  | true => rw [hb, cond_true] at h; cases h; rw [Nat.beq_eq] at hb; subst hb; exact knc
  | false => rw [hb, cond_false] at h; cases h
theorem okc (l : List Hook) (hl : ∀ h ∈ l, HookOk Tryz.prog h) : CfgOk Tryz.prog (mkc l) := ⟨cfgOk0.ng, cfgOk0.ov, cfgOk0.ex, cfgOk0.jn, cfgOk0.mixed, clk, hl⟩
theorem hs0 : ∀ h ∈ ([] : List Hook), HookOk Tryz.prog h := fun h hh => by cases hh
theorem snoc {l : List Hook} {x : Hook} (hl : ∀ h ∈ l, HookOk Tryz.prog h) (hx : HookOk Tryz.prog x) : ∀ h ∈ l ++ [x], HookOk Tryz.prog h := fun h hh => by
  rcases List.mem_append.1 hh with hh | hh
  · exact hl h hh
  · rw [List.mem_singleton.1 hh]; exact hx
theorem hs1 : ∀ h ∈ [h0], HookOk Tryz.prog h := snoc (l := []) hs0 (hook_of_evF (okc _ hs0) hk0)
theorem hs2 : ∀ h ∈ [h0, h1], HookOk Tryz.prog h := snoc (l := [h0]) hs1 (hook_of_evF (okc _ hs1) hk1)
theorem hs3 : ∀ h ∈ [h0, h1, h2], HookOk Tryz.prog h := snoc (l := [h0, h1]) hs2 (hook_of_evF (okc _ hs2) hk2)
theorem hs4 : ∀ h ∈ [h0, h1, h2, h3], HookOk Tryz.prog h := snoc (l := [h0, h1, h2]) hs3 (hook_of_evF (okc _ hs3) hk3)
theorem hs5 : ∀ h ∈ [h0, h1, h2, h3, h4], HookOk Tryz.prog h := snoc (l := [h0, h1, h2, h3]) hs4 (hook_of_evF (okc _ hs4) hk4)
theorem hs6 : ∀ h ∈ [h0, h1, h2, h3, h4, h5], HookOk Tryz.prog h := snoc (l := [h0, h1, h2, h3, h4]) hs5 (hook_of_evF (okc _ hs5) hk5)
theorem hs7 : ∀ h ∈ [h0, h1, h2, h3, h4, h5, h6], HookOk Tryz.prog h := snoc (l := [h0, h1, h2, h3, h4, h5]) hs6 (hook_of_evF (okc _ hs6) hk6)
theorem hs8 : ∀ h ∈ [h0, h1, h2, h3, h4, h5, h6, h7], HookOk Tryz.prog h := snoc (l := [h0, h1, h2, h3, h4, h5, h6]) hs7 (hook_of_evF (okc _ hs7) hk7)
theorem hs9 : ∀ h ∈ [h0, h1, h2, h3, h4, h5, h6, h7, h8], HookOk Tryz.prog h := snoc (l := [h0, h1, h2, h3, h4, h5, h6, h7]) hs8 (hook_of_evF (okc _ hs8) hk8)
theorem hs10 : ∀ h ∈ [h0, h1, h2, h3, h4, h5, h6, h7, h8, h9], HookOk Tryz.prog h := snoc (l := [h0, h1, h2, h3, h4, h5, h6, h7, h8]) hs9 (hook_of_evF (okc _ hs9) hk9)
theorem hs11 : ∀ h ∈ [h0, h1, h2, h3, h4, h5, h6, h7, h8, h9, h10], HookOk Tryz.prog h := snoc (l := [h0, h1, h2, h3, h4, h5, h6, h7, h8, h9]) hs10 (hook_of_evF (okc _ hs10) hk10)
theorem hs12 : ∀ h ∈ [h0, h1, h2, h3, h4, h5, h6, h7, h8, h9, h10, h11], HookOk Tryz.prog h := snoc (l := [h0, h1, h2, h3, h4, h5, h6, h7, h8, h9, h10]) hs11 (hook_of_evF (okc _ hs11) hk11)
theorem hs13 : ∀ h ∈ [h0, h1, h2, h3, h4, h5, h6, h7, h8, h9, h10, h11, h12], HookOk Tryz.prog h := snoc (l := [h0, h1, h2, h3, h4, h5, h6, h7, h8, h9, h10, h11]) hs12 (hook_of_evF (okc _ hs12) hk12)
theorem hs14 : ∀ h ∈ [h0, h1, h2, h3, h4, h5, h6, h7, h8, h9, h10, h11, h12, h13], HookOk Tryz.prog h := snoc (l := [h0, h1, h2, h3, h4, h5, h6, h7, h8, h9, h10, h11, h12]) hs13 (hook_of_evF (okc _ hs13) hk13)
theorem hs15 : ∀ h ∈ [h0, h1, h2, h3, h4, h5, h6, h7, h8, h9, h10, h11, h12, h13, h14], HookOk Tryz.prog h := snoc (l := [h0, h1, h2, h3, h4, h5, h6, h7, h8, h9, h10, h11, h12, h13]) hs14 (hook_of_evF (okc _ hs14) hk14)
theorem hs16 : ∀ h ∈ [h0, h1, h2, h3, h4, h5, h6, h7, h8, h9, h10, h11, h12, h13, h14, h15], HookOk Tryz.prog h := snoc (l := [h0, h1, h2, h3, h4, h5, h6, h7, h8, h9, h10, h11, h12, h13, h14]) hs15 (hook_of_evF (okc _ hs15) hk15)
theorem hs17 : ∀ h ∈ [h0, h1, h2, h3, h4, h5, h6, h7, h8, h9, h10, h11, h12, h13, h14, h15, h16], HookOk Tryz.prog h := snoc (l := [h0, h1, h2, h3, h4, h5, h6, h7, h8, h9, h10, h11, h12, h13, h14, h15]) hs16 (hook_of_evF (okc _ hs16) hk16)
theorem hs18 : ∀ h ∈ [h0, h1, h2, h3, h4, h5, h6, h7, h8, h9, h10, h11, h12, h13, h14, h15, h16, h17], HookOk Tryz.prog h := snoc (l := [h0, h1, h2, h3, h4, h5, h6, h7, h8, h9, h10, h11, h12, h13, h14, h15, h16]) hs17 (hook_of_evF (okc _ hs17) hk17)
theorem cfgOk : CfgOk Tryz.prog cfg := okc _ hs18
end Go.Proofs.YtilakiobihifnaaGreatDoor.dropDirs
