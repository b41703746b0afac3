/- The setting of the law TurnBack, told: the closed function that it asks answers true; the calls that were run before do what is told of them. -/
import Derived.Test.YthamgngpbknlpaaGreatDoorTBBase
import Derived.Test.YthamgngpbknlpaaGreatDoorTBH0
import Derived.Test.YthamgngpbknlpaaGreatDoorTBH1
import Derived.Test.YthamgngpbknlpaaGreatDoorTBH2
import Derived.Test.YthamgngpbknlpaaGreatDoorTBH3
import Derived.Test.YthamgngpbknlpaaGreatDoorTBH4
import Derived.Test.YthamgngpbknlpaaGreatDoorTBH5
import Derived.Test.YthamgngpbknlpaaGreatDoorTBH6
import Derived.Test.YthamgngpbknlpaaGreatDoorTBH7
import Derived.Test.YthamgngpbknlpaaGreatDoorTBH8
import Derived.Test.YthamgngpbknlpaaGreatDoorTBH9
import Derived.Test.YthamgngpbknlpaaGreatDoorTBH10
import Derived.Test.YthamgngpbknlpaaGreatDoorTBH11
namespace Go.Proofs.YthamgngpbknlpaaGreatDoor.turnBack
open Go.RowKit Go.Proofs.YthamgngpbknlpaaGreatDoor.Ev
set_option maxRecDepth 100000
theorem okc0 (l : List Hook) (hl : ∀ h ∈ l, HookOk Tryz.prog h) : CfgOk Tryz.prog (mk0 l) := ⟨cfgOk0.ng, cfgOk0.ov, cfgOk0.ex, cfgOk0.jn, cfgOk0.mixed, (fun f b h => by cases (show (none : Option Bool) = some b from h)), hl, cfgOk0.sp⟩
theorem hs0 : ∀ h ∈ ([] : List Hook), HookOk Tryz.prog h := fun h hh => by cases hh
theorem snoc {l : List Hook} {x : Hook} (hl : ∀ h ∈ l, HookOk Tryz.prog h) (hx : HookOk Tryz.prog x) : ∀ h ∈ l ++ [x], HookOk Tryz.prog h := fun h hh => by
  rcases List.mem_append.1 hh with hh | hh
  · exact hl h hh
  · rw [List.mem_singleton.1 hh]; exact hx
theorem hs1 : ∀ h ∈ [h0], HookOk Tryz.prog h := snoc (l := []) hs0 (hook_of_evF (okc0 _ hs0) hk0)
theorem hs2 : ∀ h ∈ [h0, h1], HookOk Tryz.prog h := snoc (l := [h0]) hs1 (hook_of_evF (okc0 _ hs1) hk1)
theorem hs3 : ∀ h ∈ [h0, h1, h2], HookOk Tryz.prog h := snoc (l := [h0, h1]) hs2 (hook_of_evF (okc0 _ hs2) hk2)
theorem hs4 : ∀ h ∈ [h0, h1, h2, h3], HookOk Tryz.prog h := snoc (l := [h0, h1, h2]) hs3 (hook_of_evF (okc0 _ hs3) hk3)
theorem hs5 : ∀ h ∈ [h0, h1, h2, h3, h4], HookOk Tryz.prog h := snoc (l := [h0, h1, h2, h3]) hs4 (hook_of_evF (okc0 _ hs4) hk4)
theorem hs6 : ∀ h ∈ [h0, h1, h2, h3, h4, h5], HookOk Tryz.prog h := snoc (l := [h0, h1, h2, h3, h4]) hs5 (hook_of_evF (okc0 _ hs5) hk5)
theorem hs7 : ∀ h ∈ [h0, h1, h2, h3, h4, h5, h6], HookOk Tryz.prog h := snoc (l := [h0, h1, h2, h3, h4, h5]) hs6 (hook_of_evF (okc0 _ hs6) hk6)
theorem hs8 : ∀ h ∈ [h0, h1, h2, h3, h4, h5, h6, h7], HookOk Tryz.prog h := snoc (l := [h0, h1, h2, h3, h4, h5, h6]) hs7 (hook_of_evF (okc0 _ hs7) hk7)
theorem hs9 : ∀ h ∈ [h0, h1, h2, h3, h4, h5, h6, h7, h8], HookOk Tryz.prog h := snoc (l := [h0, h1, h2, h3, h4, h5, h6, h7]) hs8 (hook_of_evF (okc0 _ hs8) hk8)
theorem hs10 : ∀ h ∈ [h0, h1, h2, h3, h4, h5, h6, h7, h8, h9], HookOk Tryz.prog h := snoc (l := [h0, h1, h2, h3, h4, h5, h6, h7, h8]) hs9 (hook_of_evF (okc0 _ hs9) hk9)
theorem hs11 : ∀ h ∈ [h0, h1, h2, h3, h4, h5, h6, h7, h8, h9, h10], HookOk Tryz.prog h := snoc (l := [h0, h1, h2, h3, h4, h5, h6, h7, h8, h9]) hs10 (hook_of_evF (okc0 _ hs10) hk10)
theorem hs12 : ∀ h ∈ [h0, h1, h2, h3, h4, h5, h6, h7, h8, h9, h10, h11], HookOk Tryz.prog h := snoc (l := [h0, h1, h2, h3, h4, h5, h6, h7, h8, h9, h10]) hs11 (hook_of_evF (okc0 _ hs11) hk11)
theorem hs13 : ∀ h ∈ [h0, h1, h2, h3, h4, h5, h6, h7, h8, h9, h10, h11, h12], HookOk Tryz.prog h := snoc (l := [h0, h1, h2, h3, h4, h5, h6, h7, h8, h9, h10, h11]) hs12 (hook_of_evF (okc0 _ hs12) hk12)
theorem hs14 : ∀ h ∈ [h0, h1, h2, h3, h4, h5, h6, h7, h8, h9, h10, h11, h12, h13], HookOk Tryz.prog h := snoc (l := [h0, h1, h2, h3, h4, h5, h6, h7, h8, h9, h10, h11, h12]) hs13 (hook_of_evF (okc0 _ hs13) hk13)
theorem hs15 : ∀ h ∈ [h0, h1, h2, h3, h4, h5, h6, h7, h8, h9, h10, h11, h12, h13, h14], HookOk Tryz.prog h := snoc (l := [h0, h1, h2, h3, h4, h5, h6, h7, h8, h9, h10, h11, h12, h13]) hs14 (hook_of_evF (okc0 _ hs14) hk14)
theorem hs16 : ∀ h ∈ [h0, h1, h2, h3, h4, h5, h6, h7, h8, h9, h10, h11, h12, h13, h14, h15], HookOk Tryz.prog h := snoc (l := [h0, h1, h2, h3, h4, h5, h6, h7, h8, h9, h10, h11, h12, h13, h14]) hs15 (hook_of_evF (okc0 _ hs15) hk15)
theorem hs17 : ∀ h ∈ [h0, h1, h2, h3, h4, h5, h6, h7, h8, h9, h10, h11, h12, h13, h14, h15, h16], HookOk Tryz.prog h := snoc (l := [h0, h1, h2, h3, h4, h5, h6, h7, h8, h9, h10, h11, h12, h13, h14, h15]) hs16 (hook_of_evF (okc0 _ hs16) hk16)
theorem hs18 : ∀ h ∈ [h0, h1, h2, h3, h4, h5, h6, h7, h8, h9, h10, h11, h12, h13, h14, h15, h16, h17], HookOk Tryz.prog h := snoc (l := [h0, h1, h2, h3, h4, h5, h6, h7, h8, h9, h10, h11, h12, h13, h14, h15, h16]) hs17 (hook_of_evF (okc0 _ hs17) hk17)
theorem hs19 : ∀ h ∈ [h0, h1, h2, h3, h4, h5, h6, h7, h8, h9, h10, h11, h12, h13, h14, h15, h16, h17, h18], HookOk Tryz.prog h := snoc (l := [h0, h1, h2, h3, h4, h5, h6, h7, h8, h9, h10, h11, h12, h13, h14, h15, h16, h17]) hs18 (hook_of_evF (okc0 _ hs18) hk18)
theorem hs20 : ∀ h ∈ [h0, h1, h2, h3, h4, h5, h6, h7, h8, h9, h10, h11, h12, h13, h14, h15, h16, h17, h18, h19], HookOk Tryz.prog h := snoc (l := [h0, h1, h2, h3, h4, h5, h6, h7, h8, h9, h10, h11, h12, h13, h14, h15, h16, h17, h18]) hs19 (hook_of_evF (okc0 _ hs19) hk19)
theorem hs21 : ∀ h ∈ [h0, h1, h2, h3, h4, h5, h6, h7, h8, h9, h10, h11, h12, h13, h14, h15, h16, h17, h18, h19, h20], HookOk Tryz.prog h := snoc (l := [h0, h1, h2, h3, h4, h5, h6, h7, h8, h9, h10, h11, h12, h13, h14, h15, h16, h17, h18, h19]) hs20 (hook_of_evF (okc0 _ hs20) hk20)
theorem hs22 : ∀ h ∈ [h0, h1, h2, h3, h4, h5, h6, h7, h8, h9, h10, h11, h12, h13, h14, h15, h16, h17, h18, h19, h20, h21], HookOk Tryz.prog h := snoc (l := [h0, h1, h2, h3, h4, h5, h6, h7, h8, h9, h10, h11, h12, h13, h14, h15, h16, h17, h18, h19, h20]) hs21 (hook_of_evF (okc0 _ hs21) hk21)
theorem hs23 : ∀ h ∈ [h0, h1, h2, h3, h4, h5, h6, h7, h8, h9, h10, h11, h12, h13, h14, h15, h16, h17, h18, h19, h20, h21, h22], HookOk Tryz.prog h := snoc (l := [h0, h1, h2, h3, h4, h5, h6, h7, h8, h9, h10, h11, h12, h13, h14, h15, h16, h17, h18, h19, h20, h21]) hs22 (hook_of_evF (okc0 _ hs22) hk22)
theorem hs24 : ∀ h ∈ [h0, h1, h2, h3, h4, h5, h6, h7, h8, h9, h10, h11, h12, h13, h14, h15, h16, h17, h18, h19, h20, h21, h22, h23], HookOk Tryz.prog h := snoc (l := [h0, h1, h2, h3, h4, h5, h6, h7, h8, h9, h10, h11, h12, h13, h14, h15, h16, h17, h18, h19, h20, h21, h22]) hs23 (hook_of_evF (okc0 _ hs23) hk23)
theorem hs25 : ∀ h ∈ [h0, h1, h2, h3, h4, h5, h6, h7, h8, h9, h10, h11, h12, h13, h14, h15, h16, h17, h18, h19, h20, h21, h22, h23, h24], HookOk Tryz.prog h := snoc (l := [h0, h1, h2, h3, h4, h5, h6, h7, h8, h9, h10, h11, h12, h13, h14, h15, h16, h17, h18, h19, h20, h21, h22, h23]) hs24 (hook_of_evF (okc0 _ hs24) hk24)
theorem hs26 : ∀ h ∈ [h0, h1, h2, h3, h4, h5, h6, h7, h8, h9, h10, h11, h12, h13, h14, h15, h16, h17, h18, h19, h20, h21, h22, h23, h24, h25], HookOk Tryz.prog h := snoc (l := [h0, h1, h2, h3, h4, h5, h6, h7, h8, h9, h10, h11, h12, h13, h14, h15, h16, h17, h18, h19, h20, h21, h22, h23, h24]) hs25 (hook_of_evF (okc0 _ hs25) hk25)
theorem hs27 : ∀ h ∈ [h0, h1, h2, h3, h4, h5, h6, h7, h8, h9, h10, h11, h12, h13, h14, h15, h16, h17, h18, h19, h20, h21, h22, h23, h24, h25, h26], HookOk Tryz.prog h := snoc (l := [h0, h1, h2, h3, h4, h5, h6, h7, h8, h9, h10, h11, h12, h13, h14, h15, h16, h17, h18, h19, h20, h21, h22, h23, h24, h25]) hs26 (hook_of_evF (okc0 _ hs26) hk26)
theorem hs28 : ∀ h ∈ [h0, h1, h2, h3, h4, h5, h6, h7, h8, h9, h10, h11, h12, h13, h14, h15, h16, h17, h18, h19, h20, h21, h22, h23, h24, h25, h26, h27], HookOk Tryz.prog h := snoc (l := [h0, h1, h2, h3, h4, h5, h6, h7, h8, h9, h10, h11, h12, h13, h14, h15, h16, h17, h18, h19, h20, h21, h22, h23, h24, h25, h26]) hs27 (hook_of_evF (okc0 _ hs27) hk27)
theorem hs29 : ∀ h ∈ [h0, h1, h2, h3, h4, h5, h6, h7, h8, h9, h10, h11, h12, h13, h14, h15, h16, h17, h18, h19, h20, h21, h22, h23, h24, h25, h26, h27, h28], HookOk Tryz.prog h := snoc (l := [h0, h1, h2, h3, h4, h5, h6, h7, h8, h9, h10, h11, h12, h13, h14, h15, h16, h17, h18, h19, h20, h21, h22, h23, h24, h25, h26, h27]) hs28 (hook_of_evF (okc0 _ hs28) hk28)
theorem hs30 : ∀ h ∈ [h0, h1, h2, h3, h4, h5, h6, h7, h8, h9, h10, h11, h12, h13, h14, h15, h16, h17, h18, h19, h20, h21, h22, h23, h24, h25, h26, h27, h28, h29], HookOk Tryz.prog h := snoc (l := [h0, h1, h2, h3, h4, h5, h6, h7, h8, h9, h10, h11, h12, h13, h14, h15, h16, h17, h18, h19, h20, h21, h22, h23, h24, h25, h26, h27, h28]) hs29 (hook_of_evF (okc0 _ hs29) hk29)
theorem hs31 : ∀ h ∈ [h0, h1, h2, h3, h4, h5, h6, h7, h8, h9, h10, h11, h12, h13, h14, h15, h16, h17, h18, h19, h20, h21, h22, h23, h24, h25, h26, h27, h28, h29, h30], HookOk Tryz.prog h := snoc (l := [h0, h1, h2, h3, h4, h5, h6, h7, h8, h9, h10, h11, h12, h13, h14, h15, h16, h17, h18, h19, h20, h21, h22, h23, h24, h25, h26, h27, h28, h29]) hs30 (hook_of_evF (okc0 _ hs30) hk30)
theorem hs32 : ∀ h ∈ [h0, h1, h2, h3, h4, h5, h6, h7, h8, h9, h10, h11, h12, h13, h14, h15, h16, h17, h18, h19, h20, h21, h22, h23, h24, h25, h26, h27, h28, h29, h30, h31], HookOk Tryz.prog h := snoc (l := [h0, h1, h2, h3, h4, h5, h6, h7, h8, h9, h10, h11, h12, h13, h14, h15, h16, h17, h18, h19, h20, h21, h22, h23, h24, h25, h26, h27, h28, h29, h30]) hs31 (hook_of_evF (okc0 _ hs31) hk31)
theorem hs33 : ∀ h ∈ [h0, h1, h2, h3, h4, h5, h6, h7, h8, h9, h10, h11, h12, h13, h14, h15, h16, h17, h18, h19, h20, h21, h22, h23, h24, h25, h26, h27, h28, h29, h30, h31, h32], HookOk Tryz.prog h := snoc (l := [h0, h1, h2, h3, h4, h5, h6, h7, h8, h9, h10, h11, h12, h13, h14, h15, h16, h17, h18, h19, h20, h21, h22, h23, h24, h25, h26, h27, h28, h29, h30, h31]) hs32 (hook_of_evF (okc0 _ hs32) hk32)
theorem hs34 : ∀ h ∈ [h0, h1, h2, h3, h4, h5, h6, h7, h8, h9, h10, h11, h12, h13, h14, h15, h16, h17, h18, h19, h20, h21, h22, h23, h24, h25, h26, h27, h28, h29, h30, h31, h32, h33], HookOk Tryz.prog h := snoc (l := [h0, h1, h2, h3, h4, h5, h6, h7, h8, h9, h10, h11, h12, h13, h14, h15, h16, h17, h18, h19, h20, h21, h22, h23, h24, h25, h26, h27, h28, h29, h30, h31, h32]) hs33 (hook_of_evF (okc0 _ hs33) hk33)
theorem hs35 : ∀ h ∈ [h0, h1, h2, h3, h4, h5, h6, h7, h8, h9, h10, h11, h12, h13, h14, h15, h16, h17, h18, h19, h20, h21, h22, h23, h24, h25, h26, h27, h28, h29, h30, h31, h32, h33, h34], HookOk Tryz.prog h := snoc (l := [h0, h1, h2, h3, h4, h5, h6, h7, h8, h9, h10, h11, h12, h13, h14, h15, h16, h17, h18, h19, h20, h21, h22, h23, h24, h25, h26, h27, h28, h29, h30, h31, h32, h33]) hs34 (hook_of_evF (okc0 _ hs34) hk34)
theorem hs36 : ∀ h ∈ [h0, h1, h2, h3, h4, h5, h6, h7, h8, h9, h10, h11, h12, h13, h14, h15, h16, h17, h18, h19, h20, h21, h22, h23, h24, h25, h26, h27, h28, h29, h30, h31, h32, h33, h34, h35], HookOk Tryz.prog h := snoc (l := [h0, h1, h2, h3, h4, h5, h6, h7, h8, h9, h10, h11, h12, h13, h14, h15, h16, h17, h18, h19, h20, h21, h22, h23, h24, h25, h26, h27, h28, h29, h30, h31, h32, h33, h34]) hs35 (hook_of_evF (okc0 _ hs35) hk35)
theorem knr : isTrue (callF Tryz.prog (mk0 [h0, h1, h2, h3, h4, h5, h6, h7, h8, h9, h10, h11, h12, h13, h14, h15, h16, h17, h18, h19, h20, h21, h22, h23, h24, h25, h26, h27, h28, h29, h30, h31, h32, h33, h34, h35]) 1000 9 [] st00) = true := by kernel_rfl
theorem knc : ClosedAt Tryz.prog 9 true := by
  have hr := knr
  unfold isTrue at hr
  split at hr
  · rename_i st' hev
    have hb : ∃ c, Tryz.f9.body = some c := by
      cases h : Tryz.f9.body with
      | some c => exact ⟨c, rfl⟩
      | none => exact absurd (show Tryz.f9.body.isNone = true by rw [h]; rfl) (by rw [show Tryz.f9.body.isNone = false by kernel_rfl]; simp)
    obtain ⟨c, hc⟩ := hb
    exact closed_of_evF (okc0 _ hs36) Tryz.func9 hc hev
  · cases hr
theorem clk : ∀ f b, clOf f [(9, true)] = some b → ClosedAt Tryz.prog f b := fun f b h => by
  have h : (bif Nat.beq 9 f then some true else none) = some b := h
  cases hb : Nat.beq 9 f with
  | true => rw [hb, cond_true] at h; cases h; rw [Nat.beq_eq] at hb; subst hb; exact knc
  | false => rw [hb, cond_false] at h; cases h
theorem okc (l : List Hook) (hl : ∀ h ∈ l, HookOk Tryz.prog h) : CfgOk Tryz.prog (mkc l) := ⟨cfgOk0.ng, cfgOk0.ov, cfgOk0.ex, cfgOk0.jn, cfgOk0.mixed, clk, hl, cfgOk0.sp⟩
theorem cfgOk : CfgOk Tryz.prog cfg := okc _ hs36
end Go.Proofs.YthamgngpbknlpaaGreatDoor.turnBack
