/- The calls that were run before do what is told of them; so does the law. -/
import Derived.Test.YtaadcblcpojhhaaGreatDoorTDK
import Derived.Test.YtaadcblcpojhhaaGreatDoorTDR0
import Derived.Test.YtaadcblcpojhhaaGreatDoorTDR1
import Derived.Test.YtaadcblcpojhhaaGreatDoorTDR2
import Derived.Test.YtaadcblcpojhhaaGreatDoorTDR3
import Derived.Test.YtaadcblcpojhhaaGreatDoorTDR4
import Derived.Test.YtaadcblcpojhhaaGreatDoorTDR5
import Derived.Test.YtaadcblcpojhhaaGreatDoorTDR6
import Derived.Test.YtaadcblcpojhhaaGreatDoorTDR7
import Derived.Test.YtaadcblcpojhhaaGreatDoorTDR8
import Derived.Test.YtaadcblcpojhhaaGreatDoorTDR9
import Derived.Test.YtaadcblcpojhhaaGreatDoorTDR10
import Derived.Test.YtaadcblcpojhhaaGreatDoorTDR11
namespace Go.Proofs.YtaadcblcpojhhaaGreatDoor.turnDeep
open Go.RowKit Go.Proofs.YtaadcblcpojhhaaGreatDoor.Ev
set_option maxRecDepth 100000
theorem snocG {l : List Hook} {x : Hook} (hl : ∀ h ∈ l, HookOk Tryz.prog h) (hx : HookOk Tryz.prog x) : ∀ h ∈ l ++ [x], HookOk Tryz.prog h := fun h hh => by
  rcases List.mem_append.1 hh with hh | hh
  · exact hl h hh
  · rw [List.mem_singleton.1 hh]; exact hx
theorem walkG {g : Cfg} (ok : CfgOk Tryz.prog g) {l : List AV} {vs : Array Value} (hr : isTrue (callF Tryz.prog g 1000 3 l st00) = true) (hv : vrL (fun _ => none) l vs.toList) (w : World) : Calls Tryz.prog 3 vs w fun e w' => e = .returned (.bool true) ∧ Below w.heap.size w w' := by
  unfold isTrue at hr
  split at hr
  · rename_i st' hev
    have hb : ∃ c, Tryz.f3.body = some c := by
      cases h : Tryz.f3.body with
      | some c => exact ⟨c, rfl⟩
      | none => exact absurd (show Tryz.f3.body.isNone = true by rw [h]; rfl) (by rw [show Tryz.f3.body.isNone = false by kernel_rfl]; simp)
    obtain ⟨c, hc⟩ := hb
    refine (calls_of_evF ok Tryz.func3 hc hev (vs := vs) (Below.refl _ w) hv).mono fun e w' ⟨u, h1, h2, μ', h3⟩ => ?_
    simp only [vr] at h3
    subst h3
    exact ⟨h1, h2⟩
  · cases hr
theorem okg0 : HookOk Tryz.prog g0 := hook_of_evF (okc0 _ hs0) kg0
theorem w0_1 : ∀ h ∈ s0_1, HookOk Tryz.prog h := snocG (l := []) hs0 okg0
theorem okg1 : HookOk Tryz.prog g1 := hook_of_evF (okc0 _ w0_1) kg1
theorem w0_2 : ∀ h ∈ s0_2, HookOk Tryz.prog h := snocG (l := s0_1) w0_1 okg1
theorem okg2 : HookOk Tryz.prog g2 := hook_of_evF (okc0 _ w0_2) kg2
theorem w0_3 : ∀ h ∈ s0_3, HookOk Tryz.prog h := snocG (l := s0_2) w0_2 okg2
theorem okg3 : HookOk Tryz.prog g3 := hook_of_evF (okc0 _ w0_3) kg3
theorem w0_4 : ∀ h ∈ s0_4, HookOk Tryz.prog h := snocG (l := s0_3) w0_3 okg3
theorem okg4 : HookOk Tryz.prog g4 := hook_of_evF (okc0 _ w0_4) kg4
theorem w0_5 : ∀ h ∈ s0_5, HookOk Tryz.prog h := snocG (l := s0_4) w0_4 okg4
theorem okg5 : HookOk Tryz.prog g5 := hook_of_evF (okc0 _ w0_5) kg5
theorem w0_6 : ∀ h ∈ s0_6, HookOk Tryz.prog h := snocG (l := s0_5) w0_5 okg5
theorem okg6 : HookOk Tryz.prog g6 := hook_of_evF (okc0 _ w0_6) kg6
theorem w0_7 : ∀ h ∈ s0_7, HookOk Tryz.prog h := snocG (l := s0_6) w0_6 okg6
theorem okg7 : HookOk Tryz.prog g7 := hook_of_evF (okc0 _ w0_7) kg7
theorem w0_8 : ∀ h ∈ s0_8, HookOk Tryz.prog h := snocG (l := s0_7) w0_7 okg7
theorem okg8 : HookOk Tryz.prog g8 := hook_of_evF (okc0 _ w0_8) kg8
theorem w0_9 : ∀ h ∈ s0_9, HookOk Tryz.prog h := snocG (l := s0_8) w0_8 okg8
theorem okg9 : HookOk Tryz.prog g9 := hook_of_evF (okc0 _ w0_9) kg9
theorem w0_10 : ∀ h ∈ s0_10, HookOk Tryz.prog h := snocG (l := s0_9) w0_9 okg9
theorem okg10 : HookOk Tryz.prog g10 := hook_of_evF (okc0 _ w0_10) kg10
theorem w0_11 : ∀ h ∈ s0_11, HookOk Tryz.prog h := snocG (l := s0_10) w0_10 okg10
theorem okg11 : HookOk Tryz.prog g11 := hook_of_evF (okc0 _ w0_11) kg11
theorem w0_12 : ∀ h ∈ s0_12, HookOk Tryz.prog h := snocG (l := s0_11) w0_11 okg11
theorem okg12 : HookOk Tryz.prog g12 := hook_of_evF (okc0 _ w0_12) kg12
theorem w0_13 : ∀ h ∈ s0_13, HookOk Tryz.prog h := snocG (l := s0_12) w0_12 okg12
theorem okg13 : HookOk Tryz.prog g13 := hook_of_evF (okc0 _ w0_13) kg13
theorem w0_14 : ∀ h ∈ s0_14, HookOk Tryz.prog h := snocG (l := s0_13) w0_13 okg13
theorem okg14 : HookOk Tryz.prog g14 := hook_of_evF (okc0 _ w0_14) kg14
theorem w0_15 : ∀ h ∈ s0_15, HookOk Tryz.prog h := snocG (l := s0_14) w0_14 okg14
theorem okg15 : HookOk Tryz.prog g15 := hook_of_evF (okc0 _ w0_15) kg15
theorem w0_16 : ∀ h ∈ s0_16, HookOk Tryz.prog h := snocG (l := s0_15) w0_15 okg15
theorem okg16 : HookOk Tryz.prog g16 := hook_of_evF (okc0 _ w0_16) kg16
theorem w0_17 : ∀ h ∈ s0_17, HookOk Tryz.prog h := snocG (l := s0_16) w0_16 okg16
theorem okg17 : HookOk Tryz.prog g17 := hook_of_evF (okc0 _ w0_17) kg17
theorem w0_18 : ∀ h ∈ s0_18, HookOk Tryz.prog h := snocG (l := s0_17) w0_17 okg17
theorem okg18 : HookOk Tryz.prog g18 := hook_of_evF (okc0 _ w0_18) kg18
theorem w0_19 : ∀ h ∈ s0_19, HookOk Tryz.prog h := snocG (l := s0_18) w0_18 okg18
theorem okg19 : HookOk Tryz.prog g19 := hook_of_evF (okc0 _ w0_19) kg19
theorem w0_20 : ∀ h ∈ s0_20, HookOk Tryz.prog h := snocG (l := s0_19) w0_19 okg19
theorem okg20 : HookOk Tryz.prog g20 := hook_of_evF (okc0 _ w0_20) kg20
theorem w0_21 : ∀ h ∈ s0_21, HookOk Tryz.prog h := snocG (l := s0_20) w0_20 okg20
theorem okg21 : HookOk Tryz.prog g21 := hook_of_evF (okc0 _ w0_21) kg21
theorem w0_22 : ∀ h ∈ s0_22, HookOk Tryz.prog h := snocG (l := s0_21) w0_21 okg21
theorem okg22 : HookOk Tryz.prog g22 := hook_of_evF (okc0 _ w0_22) kg22
theorem w0_23 : ∀ h ∈ s0_23, HookOk Tryz.prog h := snocG (l := s0_22) w0_22 okg22
theorem okg23 : HookOk Tryz.prog g23 := hook_of_evF (okc0 _ w0_23) kg23
theorem w0_24 : ∀ h ∈ s0_24, HookOk Tryz.prog h := snocG (l := s0_23) w0_23 okg23
theorem okg24 : HookOk Tryz.prog g24 := hook_of_evF (okc0 _ w0_24) kg24
theorem w0_25 : ∀ h ∈ s0_25, HookOk Tryz.prog h := snocG (l := s0_24) w0_24 okg24
theorem okg25 : HookOk Tryz.prog g25 := hook_of_evF (okc0 _ w0_25) kg25
theorem w0_26 : ∀ h ∈ s0_26, HookOk Tryz.prog h := snocG (l := s0_25) w0_25 okg25
theorem okg26 : HookOk Tryz.prog g26 := hook_of_evF (okc0 _ w0_26) kg26
theorem w0_27 : ∀ h ∈ s0_27, HookOk Tryz.prog h := snocG (l := s0_26) w0_26 okg26
theorem okR0 : CfgOk Tryz.prog (mkc s0_27) := okc _ w0_27
theorem w1_1 : ∀ h ∈ s1_1, HookOk Tryz.prog h := snocG (l := []) hs0 okg0
theorem okg27 : HookOk Tryz.prog g27 := hook_of_evF (okc0 _ w1_1) kg27
theorem w1_2 : ∀ h ∈ s1_2, HookOk Tryz.prog h := snocG (l := s1_1) w1_1 okg27
theorem okg28 : HookOk Tryz.prog g28 := hook_of_evF (okc0 _ w1_2) kg28
theorem w1_3 : ∀ h ∈ s1_3, HookOk Tryz.prog h := snocG (l := s1_2) w1_2 okg28
theorem okg29 : HookOk Tryz.prog g29 := hook_of_evF (okc0 _ w1_3) kg29
theorem w1_4 : ∀ h ∈ s1_4, HookOk Tryz.prog h := snocG (l := s1_3) w1_3 okg29
theorem okg30 : HookOk Tryz.prog g30 := hook_of_evF (okc0 _ w1_4) kg30
theorem w1_5 : ∀ h ∈ s1_5, HookOk Tryz.prog h := snocG (l := s1_4) w1_4 okg30
theorem okg31 : HookOk Tryz.prog g31 := hook_of_evF (okc0 _ w1_5) kg31
theorem w1_6 : ∀ h ∈ s1_6, HookOk Tryz.prog h := snocG (l := s1_5) w1_5 okg31
theorem okg32 : HookOk Tryz.prog g32 := hook_of_evF (okc0 _ w1_6) kg32
theorem w1_7 : ∀ h ∈ s1_7, HookOk Tryz.prog h := snocG (l := s1_6) w1_6 okg32
theorem okg33 : HookOk Tryz.prog g33 := hook_of_evF (okc0 _ w1_7) kg33
theorem w1_8 : ∀ h ∈ s1_8, HookOk Tryz.prog h := snocG (l := s1_7) w1_7 okg33
theorem okg34 : HookOk Tryz.prog g34 := hook_of_evF (okc0 _ w1_8) kg34
theorem w1_9 : ∀ h ∈ s1_9, HookOk Tryz.prog h := snocG (l := s1_8) w1_8 okg34
theorem okg35 : HookOk Tryz.prog g35 := hook_of_evF (okc0 _ w1_9) kg35
theorem w1_10 : ∀ h ∈ s1_10, HookOk Tryz.prog h := snocG (l := s1_9) w1_9 okg35
theorem okg36 : HookOk Tryz.prog g36 := hook_of_evF (okc0 _ w1_10) kg36
theorem w1_11 : ∀ h ∈ s1_11, HookOk Tryz.prog h := snocG (l := s1_10) w1_10 okg36
theorem okg37 : HookOk Tryz.prog g37 := hook_of_evF (okc0 _ w1_11) kg37
theorem w1_12 : ∀ h ∈ s1_12, HookOk Tryz.prog h := snocG (l := s1_11) w1_11 okg37
theorem okg38 : HookOk Tryz.prog g38 := hook_of_evF (okc0 _ w1_12) kg38
theorem w1_13 : ∀ h ∈ s1_13, HookOk Tryz.prog h := snocG (l := s1_12) w1_12 okg38
theorem okg39 : HookOk Tryz.prog g39 := hook_of_evF (okc0 _ w1_13) kg39
theorem w1_14 : ∀ h ∈ s1_14, HookOk Tryz.prog h := snocG (l := s1_13) w1_13 okg39
theorem okg40 : HookOk Tryz.prog g40 := hook_of_evF (okc0 _ w1_14) kg40
theorem w1_15 : ∀ h ∈ s1_15, HookOk Tryz.prog h := snocG (l := s1_14) w1_14 okg40
theorem okg41 : HookOk Tryz.prog g41 := hook_of_evF (okc0 _ w1_15) kg41
theorem w1_16 : ∀ h ∈ s1_16, HookOk Tryz.prog h := snocG (l := s1_15) w1_15 okg41
theorem okg42 : HookOk Tryz.prog g42 := hook_of_evF (okc0 _ w1_16) kg42
theorem w1_17 : ∀ h ∈ s1_17, HookOk Tryz.prog h := snocG (l := s1_16) w1_16 okg42
theorem okg43 : HookOk Tryz.prog g43 := hook_of_evF (okc0 _ w1_17) kg43
theorem w1_18 : ∀ h ∈ s1_18, HookOk Tryz.prog h := snocG (l := s1_17) w1_17 okg43
theorem okg44 : HookOk Tryz.prog g44 := hook_of_evF (okc0 _ w1_18) kg44
theorem w1_19 : ∀ h ∈ s1_19, HookOk Tryz.prog h := snocG (l := s1_18) w1_18 okg44
theorem okg45 : HookOk Tryz.prog g45 := hook_of_evF (okc0 _ w1_19) kg45
theorem w1_20 : ∀ h ∈ s1_20, HookOk Tryz.prog h := snocG (l := s1_19) w1_19 okg45
theorem okg46 : HookOk Tryz.prog g46 := hook_of_evF (okc0 _ w1_20) kg46
theorem w1_21 : ∀ h ∈ s1_21, HookOk Tryz.prog h := snocG (l := s1_20) w1_20 okg46
theorem okg47 : HookOk Tryz.prog g47 := hook_of_evF (okc0 _ w1_21) kg47
theorem w1_22 : ∀ h ∈ s1_22, HookOk Tryz.prog h := snocG (l := s1_21) w1_21 okg47
theorem okg48 : HookOk Tryz.prog g48 := hook_of_evF (okc0 _ w1_22) kg48
theorem w1_23 : ∀ h ∈ s1_23, HookOk Tryz.prog h := snocG (l := s1_22) w1_22 okg48
theorem okg49 : HookOk Tryz.prog g49 := hook_of_evF (okc0 _ w1_23) kg49
theorem w1_24 : ∀ h ∈ s1_24, HookOk Tryz.prog h := snocG (l := s1_23) w1_23 okg49
theorem okg50 : HookOk Tryz.prog g50 := hook_of_evF (okc0 _ w1_24) kg50
theorem w1_25 : ∀ h ∈ s1_25, HookOk Tryz.prog h := snocG (l := s1_24) w1_24 okg50
theorem okR1 : CfgOk Tryz.prog (mkc s1_25) := okc _ w1_25
theorem w2_1 : ∀ h ∈ s2_1, HookOk Tryz.prog h := snocG (l := []) hs0 okg0
theorem okg51 : HookOk Tryz.prog g51 := hook_of_evF (okc0 _ w2_1) kg51
theorem w2_2 : ∀ h ∈ s2_2, HookOk Tryz.prog h := snocG (l := s2_1) w2_1 okg51
theorem okg52 : HookOk Tryz.prog g52 := hook_of_evF (okc0 _ w2_2) kg52
theorem w2_3 : ∀ h ∈ s2_3, HookOk Tryz.prog h := snocG (l := s2_2) w2_2 okg52
theorem okg53 : HookOk Tryz.prog g53 := hook_of_evF (okc0 _ w2_3) kg53
theorem w2_4 : ∀ h ∈ s2_4, HookOk Tryz.prog h := snocG (l := s2_3) w2_3 okg53
theorem okg54 : HookOk Tryz.prog g54 := hook_of_evF (okc0 _ w2_4) kg54
theorem w2_5 : ∀ h ∈ s2_5, HookOk Tryz.prog h := snocG (l := s2_4) w2_4 okg54
theorem okg55 : HookOk Tryz.prog g55 := hook_of_evF (okc0 _ w2_5) kg55
theorem w2_6 : ∀ h ∈ s2_6, HookOk Tryz.prog h := snocG (l := s2_5) w2_5 okg55
theorem okg56 : HookOk Tryz.prog g56 := hook_of_evF (okc0 _ w2_6) kg56
theorem w2_7 : ∀ h ∈ s2_7, HookOk Tryz.prog h := snocG (l := s2_6) w2_6 okg56
theorem okg57 : HookOk Tryz.prog g57 := hook_of_evF (okc0 _ w2_7) kg57
theorem w2_8 : ∀ h ∈ s2_8, HookOk Tryz.prog h := snocG (l := s2_7) w2_7 okg57
theorem okg58 : HookOk Tryz.prog g58 := hook_of_evF (okc0 _ w2_8) kg58
theorem w2_9 : ∀ h ∈ s2_9, HookOk Tryz.prog h := snocG (l := s2_8) w2_8 okg58
theorem okg59 : HookOk Tryz.prog g59 := hook_of_evF (okc0 _ w2_9) kg59
theorem w2_10 : ∀ h ∈ s2_10, HookOk Tryz.prog h := snocG (l := s2_9) w2_9 okg59
theorem okg60 : HookOk Tryz.prog g60 := hook_of_evF (okc0 _ w2_10) kg60
theorem w2_11 : ∀ h ∈ s2_11, HookOk Tryz.prog h := snocG (l := s2_10) w2_10 okg60
theorem okg61 : HookOk Tryz.prog g61 := hook_of_evF (okc0 _ w2_11) kg61
theorem w2_12 : ∀ h ∈ s2_12, HookOk Tryz.prog h := snocG (l := s2_11) w2_11 okg61
theorem okg62 : HookOk Tryz.prog g62 := hook_of_evF (okc0 _ w2_12) kg62
theorem w2_13 : ∀ h ∈ s2_13, HookOk Tryz.prog h := snocG (l := s2_12) w2_12 okg62
theorem okg63 : HookOk Tryz.prog g63 := hook_of_evF (okc0 _ w2_13) kg63
theorem w2_14 : ∀ h ∈ s2_14, HookOk Tryz.prog h := snocG (l := s2_13) w2_13 okg63
theorem okg64 : HookOk Tryz.prog g64 := hook_of_evF (okc0 _ w2_14) kg64
theorem w2_15 : ∀ h ∈ s2_15, HookOk Tryz.prog h := snocG (l := s2_14) w2_14 okg64
theorem okg65 : HookOk Tryz.prog g65 := hook_of_evF (okc0 _ w2_15) kg65
theorem w2_16 : ∀ h ∈ s2_16, HookOk Tryz.prog h := snocG (l := s2_15) w2_15 okg65
theorem okg66 : HookOk Tryz.prog g66 := hook_of_evF (okc0 _ w2_16) kg66
theorem w2_17 : ∀ h ∈ s2_17, HookOk Tryz.prog h := snocG (l := s2_16) w2_16 okg66
theorem okg67 : HookOk Tryz.prog g67 := hook_of_evF (okc0 _ w2_17) kg67
theorem w2_18 : ∀ h ∈ s2_18, HookOk Tryz.prog h := snocG (l := s2_17) w2_17 okg67
theorem okg68 : HookOk Tryz.prog g68 := hook_of_evF (okc0 _ w2_18) kg68
theorem w2_19 : ∀ h ∈ s2_19, HookOk Tryz.prog h := snocG (l := s2_18) w2_18 okg68
theorem okg69 : HookOk Tryz.prog g69 := hook_of_evF (okc0 _ w2_19) kg69
theorem w2_20 : ∀ h ∈ s2_20, HookOk Tryz.prog h := snocG (l := s2_19) w2_19 okg69
theorem okg70 : HookOk Tryz.prog g70 := hook_of_evF (okc0 _ w2_20) kg70
theorem w2_21 : ∀ h ∈ s2_21, HookOk Tryz.prog h := snocG (l := s2_20) w2_20 okg70
theorem okg71 : HookOk Tryz.prog g71 := hook_of_evF (okc0 _ w2_21) kg71
theorem w2_22 : ∀ h ∈ s2_22, HookOk Tryz.prog h := snocG (l := s2_21) w2_21 okg71
theorem okg72 : HookOk Tryz.prog g72 := hook_of_evF (okc0 _ w2_22) kg72
theorem w2_23 : ∀ h ∈ s2_23, HookOk Tryz.prog h := snocG (l := s2_22) w2_22 okg72
theorem okg73 : HookOk Tryz.prog g73 := hook_of_evF (okc0 _ w2_23) kg73
theorem w2_24 : ∀ h ∈ s2_24, HookOk Tryz.prog h := snocG (l := s2_23) w2_23 okg73
theorem okg74 : HookOk Tryz.prog g74 := hook_of_evF (okc0 _ w2_24) kg74
theorem w2_25 : ∀ h ∈ s2_25, HookOk Tryz.prog h := snocG (l := s2_24) w2_24 okg74
theorem okg75 : HookOk Tryz.prog g75 := hook_of_evF (okc0 _ w2_25) kg75
theorem w2_26 : ∀ h ∈ s2_26, HookOk Tryz.prog h := snocG (l := s2_25) w2_25 okg75
theorem okg76 : HookOk Tryz.prog g76 := hook_of_evF (okc0 _ w2_26) kg76
theorem w2_27 : ∀ h ∈ s2_27, HookOk Tryz.prog h := snocG (l := s2_26) w2_26 okg76
theorem okR2 : CfgOk Tryz.prog (mkc s2_27) := okc _ w2_27
theorem w3_1 : ∀ h ∈ s3_1, HookOk Tryz.prog h := snocG (l := []) hs0 okg0
theorem okg77 : HookOk Tryz.prog g77 := hook_of_evF (okc0 _ w3_1) kg77
theorem w3_2 : ∀ h ∈ s3_2, HookOk Tryz.prog h := snocG (l := s3_1) w3_1 okg77
theorem okg78 : HookOk Tryz.prog g78 := hook_of_evF (okc0 _ w3_2) kg78
theorem w3_3 : ∀ h ∈ s3_3, HookOk Tryz.prog h := snocG (l := s3_2) w3_2 okg78
theorem okg79 : HookOk Tryz.prog g79 := hook_of_evF (okc0 _ w3_3) kg79
theorem w3_4 : ∀ h ∈ s3_4, HookOk Tryz.prog h := snocG (l := s3_3) w3_3 okg79
theorem okg80 : HookOk Tryz.prog g80 := hook_of_evF (okc0 _ w3_4) kg80
theorem w3_5 : ∀ h ∈ s3_5, HookOk Tryz.prog h := snocG (l := s3_4) w3_4 okg80
theorem okg81 : HookOk Tryz.prog g81 := hook_of_evF (okc0 _ w3_5) kg81
theorem w3_6 : ∀ h ∈ s3_6, HookOk Tryz.prog h := snocG (l := s3_5) w3_5 okg81
theorem okg82 : HookOk Tryz.prog g82 := hook_of_evF (okc0 _ w3_6) kg82
theorem w3_7 : ∀ h ∈ s3_7, HookOk Tryz.prog h := snocG (l := s3_6) w3_6 okg82
theorem okg83 : HookOk Tryz.prog g83 := hook_of_evF (okc0 _ w3_7) kg83
theorem w3_8 : ∀ h ∈ s3_8, HookOk Tryz.prog h := snocG (l := s3_7) w3_7 okg83
theorem okg84 : HookOk Tryz.prog g84 := hook_of_evF (okc0 _ w3_8) kg84
theorem w3_9 : ∀ h ∈ s3_9, HookOk Tryz.prog h := snocG (l := s3_8) w3_8 okg84
theorem okg85 : HookOk Tryz.prog g85 := hook_of_evF (okc0 _ w3_9) kg85
theorem w3_10 : ∀ h ∈ s3_10, HookOk Tryz.prog h := snocG (l := s3_9) w3_9 okg85
theorem okg86 : HookOk Tryz.prog g86 := hook_of_evF (okc0 _ w3_10) kg86
theorem w3_11 : ∀ h ∈ s3_11, HookOk Tryz.prog h := snocG (l := s3_10) w3_10 okg86
theorem okg87 : HookOk Tryz.prog g87 := hook_of_evF (okc0 _ w3_11) kg87
theorem w3_12 : ∀ h ∈ s3_12, HookOk Tryz.prog h := snocG (l := s3_11) w3_11 okg87
theorem okg88 : HookOk Tryz.prog g88 := hook_of_evF (okc0 _ w3_12) kg88
theorem w3_13 : ∀ h ∈ s3_13, HookOk Tryz.prog h := snocG (l := s3_12) w3_12 okg88
theorem okg89 : HookOk Tryz.prog g89 := hook_of_evF (okc0 _ w3_13) kg89
theorem w3_14 : ∀ h ∈ s3_14, HookOk Tryz.prog h := snocG (l := s3_13) w3_13 okg89
theorem okg90 : HookOk Tryz.prog g90 := hook_of_evF (okc0 _ w3_14) kg90
theorem w3_15 : ∀ h ∈ s3_15, HookOk Tryz.prog h := snocG (l := s3_14) w3_14 okg90
theorem okg91 : HookOk Tryz.prog g91 := hook_of_evF (okc0 _ w3_15) kg91
theorem w3_16 : ∀ h ∈ s3_16, HookOk Tryz.prog h := snocG (l := s3_15) w3_15 okg91
theorem okg92 : HookOk Tryz.prog g92 := hook_of_evF (okc0 _ w3_16) kg92
theorem w3_17 : ∀ h ∈ s3_17, HookOk Tryz.prog h := snocG (l := s3_16) w3_16 okg92
theorem okg93 : HookOk Tryz.prog g93 := hook_of_evF (okc0 _ w3_17) kg93
theorem w3_18 : ∀ h ∈ s3_18, HookOk Tryz.prog h := snocG (l := s3_17) w3_17 okg93
theorem okg94 : HookOk Tryz.prog g94 := hook_of_evF (okc0 _ w3_18) kg94
theorem w3_19 : ∀ h ∈ s3_19, HookOk Tryz.prog h := snocG (l := s3_18) w3_18 okg94
theorem okg95 : HookOk Tryz.prog g95 := hook_of_evF (okc0 _ w3_19) kg95
theorem w3_20 : ∀ h ∈ s3_20, HookOk Tryz.prog h := snocG (l := s3_19) w3_19 okg95
theorem okg96 : HookOk Tryz.prog g96 := hook_of_evF (okc0 _ w3_20) kg96
theorem w3_21 : ∀ h ∈ s3_21, HookOk Tryz.prog h := snocG (l := s3_20) w3_20 okg96
theorem okg97 : HookOk Tryz.prog g97 := hook_of_evF (okc0 _ w3_21) kg97
theorem w3_22 : ∀ h ∈ s3_22, HookOk Tryz.prog h := snocG (l := s3_21) w3_21 okg97
theorem okg98 : HookOk Tryz.prog g98 := hook_of_evF (okc0 _ w3_22) kg98
theorem w3_23 : ∀ h ∈ s3_23, HookOk Tryz.prog h := snocG (l := s3_22) w3_22 okg98
theorem okg99 : HookOk Tryz.prog g99 := hook_of_evF (okc0 _ w3_23) kg99
theorem w3_24 : ∀ h ∈ s3_24, HookOk Tryz.prog h := snocG (l := s3_23) w3_23 okg99
theorem okg100 : HookOk Tryz.prog g100 := hook_of_evF (okc0 _ w3_24) kg100
theorem w3_25 : ∀ h ∈ s3_25, HookOk Tryz.prog h := snocG (l := s3_24) w3_24 okg100
theorem okR3 : CfgOk Tryz.prog (mkc s3_25) := okc _ w3_25
theorem okg101 : HookOk Tryz.prog g101 := hook_of_evF (okc0 _ hs0) kg101
theorem w4_1 : ∀ h ∈ s4_1, HookOk Tryz.prog h := snocG (l := []) hs0 okg101
theorem okg102 : HookOk Tryz.prog g102 := hook_of_evF (okc0 _ w4_1) kg102
theorem w4_2 : ∀ h ∈ s4_2, HookOk Tryz.prog h := snocG (l := s4_1) w4_1 okg102
theorem okg103 : HookOk Tryz.prog g103 := hook_of_evF (okc0 _ w4_2) kg103
theorem w4_3 : ∀ h ∈ s4_3, HookOk Tryz.prog h := snocG (l := s4_2) w4_2 okg103
theorem okg104 : HookOk Tryz.prog g104 := hook_of_evF (okc0 _ w4_3) kg104
theorem w4_4 : ∀ h ∈ s4_4, HookOk Tryz.prog h := snocG (l := s4_3) w4_3 okg104
theorem okg105 : HookOk Tryz.prog g105 := hook_of_evF (okc0 _ w4_4) kg105
theorem w4_5 : ∀ h ∈ s4_5, HookOk Tryz.prog h := snocG (l := s4_4) w4_4 okg105
theorem okg106 : HookOk Tryz.prog g106 := hook_of_evF (okc0 _ w4_5) kg106
theorem w4_6 : ∀ h ∈ s4_6, HookOk Tryz.prog h := snocG (l := s4_5) w4_5 okg106
theorem okg107 : HookOk Tryz.prog g107 := hook_of_evF (okc0 _ w4_6) kg107
theorem w4_7 : ∀ h ∈ s4_7, HookOk Tryz.prog h := snocG (l := s4_6) w4_6 okg107
theorem okg108 : HookOk Tryz.prog g108 := hook_of_evF (okc0 _ w4_7) kg108
theorem w4_8 : ∀ h ∈ s4_8, HookOk Tryz.prog h := snocG (l := s4_7) w4_7 okg108
theorem okg109 : HookOk Tryz.prog g109 := hook_of_evF (okc0 _ w4_8) kg109
theorem w4_9 : ∀ h ∈ s4_9, HookOk Tryz.prog h := snocG (l := s4_8) w4_8 okg109
theorem okg110 : HookOk Tryz.prog g110 := hook_of_evF (okc0 _ w4_9) kg110
theorem w4_10 : ∀ h ∈ s4_10, HookOk Tryz.prog h := snocG (l := s4_9) w4_9 okg110
theorem okg111 : HookOk Tryz.prog g111 := hook_of_evF (okc0 _ w4_10) kg111
theorem w4_11 : ∀ h ∈ s4_11, HookOk Tryz.prog h := snocG (l := s4_10) w4_10 okg111
theorem okg112 : HookOk Tryz.prog g112 := hook_of_evF (okc0 _ w4_11) kg112
theorem w4_12 : ∀ h ∈ s4_12, HookOk Tryz.prog h := snocG (l := s4_11) w4_11 okg112
theorem okg113 : HookOk Tryz.prog g113 := hook_of_evF (okc0 _ w4_12) kg113
theorem w4_13 : ∀ h ∈ s4_13, HookOk Tryz.prog h := snocG (l := s4_12) w4_12 okg113
theorem okg114 : HookOk Tryz.prog g114 := hook_of_evF (okc0 _ w4_13) kg114
theorem w4_14 : ∀ h ∈ s4_14, HookOk Tryz.prog h := snocG (l := s4_13) w4_13 okg114
theorem okg115 : HookOk Tryz.prog g115 := hook_of_evF (okc0 _ w4_14) kg115
theorem w4_15 : ∀ h ∈ s4_15, HookOk Tryz.prog h := snocG (l := s4_14) w4_14 okg115
theorem okg116 : HookOk Tryz.prog g116 := hook_of_evF (okc0 _ w4_15) kg116
theorem w4_16 : ∀ h ∈ s4_16, HookOk Tryz.prog h := snocG (l := s4_15) w4_15 okg116
theorem okg117 : HookOk Tryz.prog g117 := hook_of_evF (okc0 _ w4_16) kg117
theorem w4_17 : ∀ h ∈ s4_17, HookOk Tryz.prog h := snocG (l := s4_16) w4_16 okg117
theorem okg118 : HookOk Tryz.prog g118 := hook_of_evF (okc0 _ w4_17) kg118
theorem w4_18 : ∀ h ∈ s4_18, HookOk Tryz.prog h := snocG (l := s4_17) w4_17 okg118
theorem okg119 : HookOk Tryz.prog g119 := hook_of_evF (okc0 _ w4_18) kg119
theorem w4_19 : ∀ h ∈ s4_19, HookOk Tryz.prog h := snocG (l := s4_18) w4_18 okg119
theorem okg120 : HookOk Tryz.prog g120 := hook_of_evF (okc0 _ w4_19) kg120
theorem w4_20 : ∀ h ∈ s4_20, HookOk Tryz.prog h := snocG (l := s4_19) w4_19 okg120
theorem okg121 : HookOk Tryz.prog g121 := hook_of_evF (okc0 _ w4_20) kg121
theorem w4_21 : ∀ h ∈ s4_21, HookOk Tryz.prog h := snocG (l := s4_20) w4_20 okg121
theorem okg122 : HookOk Tryz.prog g122 := hook_of_evF (okc0 _ w4_21) kg122
theorem w4_22 : ∀ h ∈ s4_22, HookOk Tryz.prog h := snocG (l := s4_21) w4_21 okg122
theorem okg123 : HookOk Tryz.prog g123 := hook_of_evF (okc0 _ w4_22) kg123
theorem w4_23 : ∀ h ∈ s4_23, HookOk Tryz.prog h := snocG (l := s4_22) w4_22 okg123
theorem okg124 : HookOk Tryz.prog g124 := hook_of_evF (okc0 _ w4_23) kg124
theorem w4_24 : ∀ h ∈ s4_24, HookOk Tryz.prog h := snocG (l := s4_23) w4_23 okg124
theorem okg125 : HookOk Tryz.prog g125 := hook_of_evF (okc0 _ w4_24) kg125
theorem w4_25 : ∀ h ∈ s4_25, HookOk Tryz.prog h := snocG (l := s4_24) w4_24 okg125
theorem okg126 : HookOk Tryz.prog g126 := hook_of_evF (okc0 _ w4_25) kg126
theorem w4_26 : ∀ h ∈ s4_26, HookOk Tryz.prog h := snocG (l := s4_25) w4_25 okg126
theorem okg127 : HookOk Tryz.prog g127 := hook_of_evF (okc0 _ w4_26) kg127
theorem w4_27 : ∀ h ∈ s4_27, HookOk Tryz.prog h := snocG (l := s4_26) w4_26 okg127
theorem okR4 : CfgOk Tryz.prog (mkc s4_27) := okc _ w4_27
theorem w5_1 : ∀ h ∈ s5_1, HookOk Tryz.prog h := snocG (l := []) hs0 okg101
theorem okg128 : HookOk Tryz.prog g128 := hook_of_evF (okc0 _ w5_1) kg128
theorem w5_2 : ∀ h ∈ s5_2, HookOk Tryz.prog h := snocG (l := s5_1) w5_1 okg128
theorem okg129 : HookOk Tryz.prog g129 := hook_of_evF (okc0 _ w5_2) kg129
theorem w5_3 : ∀ h ∈ s5_3, HookOk Tryz.prog h := snocG (l := s5_2) w5_2 okg129
theorem okg130 : HookOk Tryz.prog g130 := hook_of_evF (okc0 _ w5_3) kg130
theorem w5_4 : ∀ h ∈ s5_4, HookOk Tryz.prog h := snocG (l := s5_3) w5_3 okg130
theorem okg131 : HookOk Tryz.prog g131 := hook_of_evF (okc0 _ w5_4) kg131
theorem w5_5 : ∀ h ∈ s5_5, HookOk Tryz.prog h := snocG (l := s5_4) w5_4 okg131
theorem okg132 : HookOk Tryz.prog g132 := hook_of_evF (okc0 _ w5_5) kg132
theorem w5_6 : ∀ h ∈ s5_6, HookOk Tryz.prog h := snocG (l := s5_5) w5_5 okg132
theorem okg133 : HookOk Tryz.prog g133 := hook_of_evF (okc0 _ w5_6) kg133
theorem w5_7 : ∀ h ∈ s5_7, HookOk Tryz.prog h := snocG (l := s5_6) w5_6 okg133
theorem okg134 : HookOk Tryz.prog g134 := hook_of_evF (okc0 _ w5_7) kg134
theorem w5_8 : ∀ h ∈ s5_8, HookOk Tryz.prog h := snocG (l := s5_7) w5_7 okg134
theorem okg135 : HookOk Tryz.prog g135 := hook_of_evF (okc0 _ w5_8) kg135
theorem w5_9 : ∀ h ∈ s5_9, HookOk Tryz.prog h := snocG (l := s5_8) w5_8 okg135
theorem okg136 : HookOk Tryz.prog g136 := hook_of_evF (okc0 _ w5_9) kg136
theorem w5_10 : ∀ h ∈ s5_10, HookOk Tryz.prog h := snocG (l := s5_9) w5_9 okg136
theorem okg137 : HookOk Tryz.prog g137 := hook_of_evF (okc0 _ w5_10) kg137
theorem w5_11 : ∀ h ∈ s5_11, HookOk Tryz.prog h := snocG (l := s5_10) w5_10 okg137
theorem okg138 : HookOk Tryz.prog g138 := hook_of_evF (okc0 _ w5_11) kg138
theorem w5_12 : ∀ h ∈ s5_12, HookOk Tryz.prog h := snocG (l := s5_11) w5_11 okg138
theorem okg139 : HookOk Tryz.prog g139 := hook_of_evF (okc0 _ w5_12) kg139
theorem w5_13 : ∀ h ∈ s5_13, HookOk Tryz.prog h := snocG (l := s5_12) w5_12 okg139
theorem okg140 : HookOk Tryz.prog g140 := hook_of_evF (okc0 _ w5_13) kg140
theorem w5_14 : ∀ h ∈ s5_14, HookOk Tryz.prog h := snocG (l := s5_13) w5_13 okg140
theorem okg141 : HookOk Tryz.prog g141 := hook_of_evF (okc0 _ w5_14) kg141
theorem w5_15 : ∀ h ∈ s5_15, HookOk Tryz.prog h := snocG (l := s5_14) w5_14 okg141
theorem okg142 : HookOk Tryz.prog g142 := hook_of_evF (okc0 _ w5_15) kg142
theorem w5_16 : ∀ h ∈ s5_16, HookOk Tryz.prog h := snocG (l := s5_15) w5_15 okg142
theorem okg143 : HookOk Tryz.prog g143 := hook_of_evF (okc0 _ w5_16) kg143
theorem w5_17 : ∀ h ∈ s5_17, HookOk Tryz.prog h := snocG (l := s5_16) w5_16 okg143
theorem okg144 : HookOk Tryz.prog g144 := hook_of_evF (okc0 _ w5_17) kg144
theorem w5_18 : ∀ h ∈ s5_18, HookOk Tryz.prog h := snocG (l := s5_17) w5_17 okg144
theorem okg145 : HookOk Tryz.prog g145 := hook_of_evF (okc0 _ w5_18) kg145
theorem w5_19 : ∀ h ∈ s5_19, HookOk Tryz.prog h := snocG (l := s5_18) w5_18 okg145
theorem okg146 : HookOk Tryz.prog g146 := hook_of_evF (okc0 _ w5_19) kg146
theorem w5_20 : ∀ h ∈ s5_20, HookOk Tryz.prog h := snocG (l := s5_19) w5_19 okg146
theorem okg147 : HookOk Tryz.prog g147 := hook_of_evF (okc0 _ w5_20) kg147
theorem w5_21 : ∀ h ∈ s5_21, HookOk Tryz.prog h := snocG (l := s5_20) w5_20 okg147
theorem okg148 : HookOk Tryz.prog g148 := hook_of_evF (okc0 _ w5_21) kg148
theorem w5_22 : ∀ h ∈ s5_22, HookOk Tryz.prog h := snocG (l := s5_21) w5_21 okg148
theorem okg149 : HookOk Tryz.prog g149 := hook_of_evF (okc0 _ w5_22) kg149
theorem w5_23 : ∀ h ∈ s5_23, HookOk Tryz.prog h := snocG (l := s5_22) w5_22 okg149
theorem okg150 : HookOk Tryz.prog g150 := hook_of_evF (okc0 _ w5_23) kg150
theorem w5_24 : ∀ h ∈ s5_24, HookOk Tryz.prog h := snocG (l := s5_23) w5_23 okg150
theorem okg151 : HookOk Tryz.prog g151 := hook_of_evF (okc0 _ w5_24) kg151
theorem w5_25 : ∀ h ∈ s5_25, HookOk Tryz.prog h := snocG (l := s5_24) w5_24 okg151
theorem okR5 : CfgOk Tryz.prog (mkc s5_25) := okc _ w5_25
theorem w6_1 : ∀ h ∈ s6_1, HookOk Tryz.prog h := snocG (l := []) hs0 okg101
theorem okg152 : HookOk Tryz.prog g152 := hook_of_evF (okc0 _ w6_1) kg152
theorem w6_2 : ∀ h ∈ s6_2, HookOk Tryz.prog h := snocG (l := s6_1) w6_1 okg152
theorem okg153 : HookOk Tryz.prog g153 := hook_of_evF (okc0 _ w6_2) kg153
theorem w6_3 : ∀ h ∈ s6_3, HookOk Tryz.prog h := snocG (l := s6_2) w6_2 okg153
theorem okg154 : HookOk Tryz.prog g154 := hook_of_evF (okc0 _ w6_3) kg154
theorem w6_4 : ∀ h ∈ s6_4, HookOk Tryz.prog h := snocG (l := s6_3) w6_3 okg154
theorem okg155 : HookOk Tryz.prog g155 := hook_of_evF (okc0 _ w6_4) kg155
theorem w6_5 : ∀ h ∈ s6_5, HookOk Tryz.prog h := snocG (l := s6_4) w6_4 okg155
theorem okg156 : HookOk Tryz.prog g156 := hook_of_evF (okc0 _ w6_5) kg156
theorem w6_6 : ∀ h ∈ s6_6, HookOk Tryz.prog h := snocG (l := s6_5) w6_5 okg156
theorem okg157 : HookOk Tryz.prog g157 := hook_of_evF (okc0 _ w6_6) kg157
theorem w6_7 : ∀ h ∈ s6_7, HookOk Tryz.prog h := snocG (l := s6_6) w6_6 okg157
theorem okg158 : HookOk Tryz.prog g158 := hook_of_evF (okc0 _ w6_7) kg158
theorem w6_8 : ∀ h ∈ s6_8, HookOk Tryz.prog h := snocG (l := s6_7) w6_7 okg158
theorem okg159 : HookOk Tryz.prog g159 := hook_of_evF (okc0 _ w6_8) kg159
theorem w6_9 : ∀ h ∈ s6_9, HookOk Tryz.prog h := snocG (l := s6_8) w6_8 okg159
theorem okg160 : HookOk Tryz.prog g160 := hook_of_evF (okc0 _ w6_9) kg160
theorem w6_10 : ∀ h ∈ s6_10, HookOk Tryz.prog h := snocG (l := s6_9) w6_9 okg160
theorem okg161 : HookOk Tryz.prog g161 := hook_of_evF (okc0 _ w6_10) kg161
theorem w6_11 : ∀ h ∈ s6_11, HookOk Tryz.prog h := snocG (l := s6_10) w6_10 okg161
theorem okg162 : HookOk Tryz.prog g162 := hook_of_evF (okc0 _ w6_11) kg162
theorem w6_12 : ∀ h ∈ s6_12, HookOk Tryz.prog h := snocG (l := s6_11) w6_11 okg162
theorem okg163 : HookOk Tryz.prog g163 := hook_of_evF (okc0 _ w6_12) kg163
theorem w6_13 : ∀ h ∈ s6_13, HookOk Tryz.prog h := snocG (l := s6_12) w6_12 okg163
theorem okg164 : HookOk Tryz.prog g164 := hook_of_evF (okc0 _ w6_13) kg164
theorem w6_14 : ∀ h ∈ s6_14, HookOk Tryz.prog h := snocG (l := s6_13) w6_13 okg164
theorem okg165 : HookOk Tryz.prog g165 := hook_of_evF (okc0 _ w6_14) kg165
theorem w6_15 : ∀ h ∈ s6_15, HookOk Tryz.prog h := snocG (l := s6_14) w6_14 okg165
theorem okg166 : HookOk Tryz.prog g166 := hook_of_evF (okc0 _ w6_15) kg166
theorem w6_16 : ∀ h ∈ s6_16, HookOk Tryz.prog h := snocG (l := s6_15) w6_15 okg166
theorem okg167 : HookOk Tryz.prog g167 := hook_of_evF (okc0 _ w6_16) kg167
theorem w6_17 : ∀ h ∈ s6_17, HookOk Tryz.prog h := snocG (l := s6_16) w6_16 okg167
theorem okg168 : HookOk Tryz.prog g168 := hook_of_evF (okc0 _ w6_17) kg168
theorem w6_18 : ∀ h ∈ s6_18, HookOk Tryz.prog h := snocG (l := s6_17) w6_17 okg168
theorem okg169 : HookOk Tryz.prog g169 := hook_of_evF (okc0 _ w6_18) kg169
theorem w6_19 : ∀ h ∈ s6_19, HookOk Tryz.prog h := snocG (l := s6_18) w6_18 okg169
theorem okg170 : HookOk Tryz.prog g170 := hook_of_evF (okc0 _ w6_19) kg170
theorem w6_20 : ∀ h ∈ s6_20, HookOk Tryz.prog h := snocG (l := s6_19) w6_19 okg170
theorem okg171 : HookOk Tryz.prog g171 := hook_of_evF (okc0 _ w6_20) kg171
theorem w6_21 : ∀ h ∈ s6_21, HookOk Tryz.prog h := snocG (l := s6_20) w6_20 okg171
theorem okg172 : HookOk Tryz.prog g172 := hook_of_evF (okc0 _ w6_21) kg172
theorem w6_22 : ∀ h ∈ s6_22, HookOk Tryz.prog h := snocG (l := s6_21) w6_21 okg172
theorem okg173 : HookOk Tryz.prog g173 := hook_of_evF (okc0 _ w6_22) kg173
theorem w6_23 : ∀ h ∈ s6_23, HookOk Tryz.prog h := snocG (l := s6_22) w6_22 okg173
theorem okg174 : HookOk Tryz.prog g174 := hook_of_evF (okc0 _ w6_23) kg174
theorem w6_24 : ∀ h ∈ s6_24, HookOk Tryz.prog h := snocG (l := s6_23) w6_23 okg174
theorem okg175 : HookOk Tryz.prog g175 := hook_of_evF (okc0 _ w6_24) kg175
theorem w6_25 : ∀ h ∈ s6_25, HookOk Tryz.prog h := snocG (l := s6_24) w6_24 okg175
theorem okg176 : HookOk Tryz.prog g176 := hook_of_evF (okc0 _ w6_25) kg176
theorem w6_26 : ∀ h ∈ s6_26, HookOk Tryz.prog h := snocG (l := s6_25) w6_25 okg176
theorem okg177 : HookOk Tryz.prog g177 := hook_of_evF (okc0 _ w6_26) kg177
theorem w6_27 : ∀ h ∈ s6_27, HookOk Tryz.prog h := snocG (l := s6_26) w6_26 okg177
theorem okR6 : CfgOk Tryz.prog (mkc s6_27) := okc _ w6_27
theorem w7_1 : ∀ h ∈ s7_1, HookOk Tryz.prog h := snocG (l := []) hs0 okg101
theorem okg178 : HookOk Tryz.prog g178 := hook_of_evF (okc0 _ w7_1) kg178
theorem w7_2 : ∀ h ∈ s7_2, HookOk Tryz.prog h := snocG (l := s7_1) w7_1 okg178
theorem okg179 : HookOk Tryz.prog g179 := hook_of_evF (okc0 _ w7_2) kg179
theorem w7_3 : ∀ h ∈ s7_3, HookOk Tryz.prog h := snocG (l := s7_2) w7_2 okg179
theorem okg180 : HookOk Tryz.prog g180 := hook_of_evF (okc0 _ w7_3) kg180
theorem w7_4 : ∀ h ∈ s7_4, HookOk Tryz.prog h := snocG (l := s7_3) w7_3 okg180
theorem okg181 : HookOk Tryz.prog g181 := hook_of_evF (okc0 _ w7_4) kg181
theorem w7_5 : ∀ h ∈ s7_5, HookOk Tryz.prog h := snocG (l := s7_4) w7_4 okg181
theorem okg182 : HookOk Tryz.prog g182 := hook_of_evF (okc0 _ w7_5) kg182
theorem w7_6 : ∀ h ∈ s7_6, HookOk Tryz.prog h := snocG (l := s7_5) w7_5 okg182
theorem okg183 : HookOk Tryz.prog g183 := hook_of_evF (okc0 _ w7_6) kg183
theorem w7_7 : ∀ h ∈ s7_7, HookOk Tryz.prog h := snocG (l := s7_6) w7_6 okg183
theorem okg184 : HookOk Tryz.prog g184 := hook_of_evF (okc0 _ w7_7) kg184
theorem w7_8 : ∀ h ∈ s7_8, HookOk Tryz.prog h := snocG (l := s7_7) w7_7 okg184
theorem okg185 : HookOk Tryz.prog g185 := hook_of_evF (okc0 _ w7_8) kg185
theorem w7_9 : ∀ h ∈ s7_9, HookOk Tryz.prog h := snocG (l := s7_8) w7_8 okg185
theorem okg186 : HookOk Tryz.prog g186 := hook_of_evF (okc0 _ w7_9) kg186
theorem w7_10 : ∀ h ∈ s7_10, HookOk Tryz.prog h := snocG (l := s7_9) w7_9 okg186
theorem okg187 : HookOk Tryz.prog g187 := hook_of_evF (okc0 _ w7_10) kg187
theorem w7_11 : ∀ h ∈ s7_11, HookOk Tryz.prog h := snocG (l := s7_10) w7_10 okg187
theorem okg188 : HookOk Tryz.prog g188 := hook_of_evF (okc0 _ w7_11) kg188
theorem w7_12 : ∀ h ∈ s7_12, HookOk Tryz.prog h := snocG (l := s7_11) w7_11 okg188
theorem okg189 : HookOk Tryz.prog g189 := hook_of_evF (okc0 _ w7_12) kg189
theorem w7_13 : ∀ h ∈ s7_13, HookOk Tryz.prog h := snocG (l := s7_12) w7_12 okg189
theorem okg190 : HookOk Tryz.prog g190 := hook_of_evF (okc0 _ w7_13) kg190
theorem w7_14 : ∀ h ∈ s7_14, HookOk Tryz.prog h := snocG (l := s7_13) w7_13 okg190
theorem okg191 : HookOk Tryz.prog g191 := hook_of_evF (okc0 _ w7_14) kg191
theorem w7_15 : ∀ h ∈ s7_15, HookOk Tryz.prog h := snocG (l := s7_14) w7_14 okg191
theorem okg192 : HookOk Tryz.prog g192 := hook_of_evF (okc0 _ w7_15) kg192
theorem w7_16 : ∀ h ∈ s7_16, HookOk Tryz.prog h := snocG (l := s7_15) w7_15 okg192
theorem okg193 : HookOk Tryz.prog g193 := hook_of_evF (okc0 _ w7_16) kg193
theorem w7_17 : ∀ h ∈ s7_17, HookOk Tryz.prog h := snocG (l := s7_16) w7_16 okg193
theorem okg194 : HookOk Tryz.prog g194 := hook_of_evF (okc0 _ w7_17) kg194
theorem w7_18 : ∀ h ∈ s7_18, HookOk Tryz.prog h := snocG (l := s7_17) w7_17 okg194
theorem okg195 : HookOk Tryz.prog g195 := hook_of_evF (okc0 _ w7_18) kg195
theorem w7_19 : ∀ h ∈ s7_19, HookOk Tryz.prog h := snocG (l := s7_18) w7_18 okg195
theorem okg196 : HookOk Tryz.prog g196 := hook_of_evF (okc0 _ w7_19) kg196
theorem w7_20 : ∀ h ∈ s7_20, HookOk Tryz.prog h := snocG (l := s7_19) w7_19 okg196
theorem okg197 : HookOk Tryz.prog g197 := hook_of_evF (okc0 _ w7_20) kg197
theorem w7_21 : ∀ h ∈ s7_21, HookOk Tryz.prog h := snocG (l := s7_20) w7_20 okg197
theorem okg198 : HookOk Tryz.prog g198 := hook_of_evF (okc0 _ w7_21) kg198
theorem w7_22 : ∀ h ∈ s7_22, HookOk Tryz.prog h := snocG (l := s7_21) w7_21 okg198
theorem okg199 : HookOk Tryz.prog g199 := hook_of_evF (okc0 _ w7_22) kg199
theorem w7_23 : ∀ h ∈ s7_23, HookOk Tryz.prog h := snocG (l := s7_22) w7_22 okg199
theorem okg200 : HookOk Tryz.prog g200 := hook_of_evF (okc0 _ w7_23) kg200
theorem w7_24 : ∀ h ∈ s7_24, HookOk Tryz.prog h := snocG (l := s7_23) w7_23 okg200
theorem okg201 : HookOk Tryz.prog g201 := hook_of_evF (okc0 _ w7_24) kg201
theorem w7_25 : ∀ h ∈ s7_25, HookOk Tryz.prog h := snocG (l := s7_24) w7_24 okg201
theorem okR7 : CfgOk Tryz.prog (mkc s7_25) := okc _ w7_25
theorem okg202 : HookOk Tryz.prog g202 := hook_of_evF (okc0 _ hs0) kg202
theorem w8_1 : ∀ h ∈ s8_1, HookOk Tryz.prog h := snocG (l := []) hs0 okg202
theorem okg203 : HookOk Tryz.prog g203 := hook_of_evF (okc0 _ w8_1) kg203
theorem w8_2 : ∀ h ∈ s8_2, HookOk Tryz.prog h := snocG (l := s8_1) w8_1 okg203
theorem okg204 : HookOk Tryz.prog g204 := hook_of_evF (okc0 _ w8_2) kg204
theorem w8_3 : ∀ h ∈ s8_3, HookOk Tryz.prog h := snocG (l := s8_2) w8_2 okg204
theorem okg205 : HookOk Tryz.prog g205 := hook_of_evF (okc0 _ w8_3) kg205
theorem w8_4 : ∀ h ∈ s8_4, HookOk Tryz.prog h := snocG (l := s8_3) w8_3 okg205
theorem okg206 : HookOk Tryz.prog g206 := hook_of_evF (okc0 _ w8_4) kg206
theorem w8_5 : ∀ h ∈ s8_5, HookOk Tryz.prog h := snocG (l := s8_4) w8_4 okg206
theorem okg207 : HookOk Tryz.prog g207 := hook_of_evF (okc0 _ w8_5) kg207
theorem w8_6 : ∀ h ∈ s8_6, HookOk Tryz.prog h := snocG (l := s8_5) w8_5 okg207
theorem okg208 : HookOk Tryz.prog g208 := hook_of_evF (okc0 _ w8_6) kg208
theorem w8_7 : ∀ h ∈ s8_7, HookOk Tryz.prog h := snocG (l := s8_6) w8_6 okg208
theorem okg209 : HookOk Tryz.prog g209 := hook_of_evF (okc0 _ w8_7) kg209
theorem w8_8 : ∀ h ∈ s8_8, HookOk Tryz.prog h := snocG (l := s8_7) w8_7 okg209
theorem okg210 : HookOk Tryz.prog g210 := hook_of_evF (okc0 _ w8_8) kg210
theorem w8_9 : ∀ h ∈ s8_9, HookOk Tryz.prog h := snocG (l := s8_8) w8_8 okg210
theorem okg211 : HookOk Tryz.prog g211 := hook_of_evF (okc0 _ w8_9) kg211
theorem w8_10 : ∀ h ∈ s8_10, HookOk Tryz.prog h := snocG (l := s8_9) w8_9 okg211
theorem okg212 : HookOk Tryz.prog g212 := hook_of_evF (okc0 _ w8_10) kg212
theorem w8_11 : ∀ h ∈ s8_11, HookOk Tryz.prog h := snocG (l := s8_10) w8_10 okg212
theorem okg213 : HookOk Tryz.prog g213 := hook_of_evF (okc0 _ w8_11) kg213
theorem w8_12 : ∀ h ∈ s8_12, HookOk Tryz.prog h := snocG (l := s8_11) w8_11 okg213
theorem okg214 : HookOk Tryz.prog g214 := hook_of_evF (okc0 _ w8_12) kg214
theorem w8_13 : ∀ h ∈ s8_13, HookOk Tryz.prog h := snocG (l := s8_12) w8_12 okg214
theorem okg215 : HookOk Tryz.prog g215 := hook_of_evF (okc0 _ w8_13) kg215
theorem w8_14 : ∀ h ∈ s8_14, HookOk Tryz.prog h := snocG (l := s8_13) w8_13 okg215
theorem okg216 : HookOk Tryz.prog g216 := hook_of_evF (okc0 _ w8_14) kg216
theorem w8_15 : ∀ h ∈ s8_15, HookOk Tryz.prog h := snocG (l := s8_14) w8_14 okg216
theorem okg217 : HookOk Tryz.prog g217 := hook_of_evF (okc0 _ w8_15) kg217
theorem w8_16 : ∀ h ∈ s8_16, HookOk Tryz.prog h := snocG (l := s8_15) w8_15 okg217
theorem okg218 : HookOk Tryz.prog g218 := hook_of_evF (okc0 _ w8_16) kg218
theorem w8_17 : ∀ h ∈ s8_17, HookOk Tryz.prog h := snocG (l := s8_16) w8_16 okg218
theorem okg219 : HookOk Tryz.prog g219 := hook_of_evF (okc0 _ w8_17) kg219
theorem w8_18 : ∀ h ∈ s8_18, HookOk Tryz.prog h := snocG (l := s8_17) w8_17 okg219
theorem okg220 : HookOk Tryz.prog g220 := hook_of_evF (okc0 _ w8_18) kg220
theorem w8_19 : ∀ h ∈ s8_19, HookOk Tryz.prog h := snocG (l := s8_18) w8_18 okg220
theorem okg221 : HookOk Tryz.prog g221 := hook_of_evF (okc0 _ w8_19) kg221
theorem w8_20 : ∀ h ∈ s8_20, HookOk Tryz.prog h := snocG (l := s8_19) w8_19 okg221
theorem okg222 : HookOk Tryz.prog g222 := hook_of_evF (okc0 _ w8_20) kg222
theorem w8_21 : ∀ h ∈ s8_21, HookOk Tryz.prog h := snocG (l := s8_20) w8_20 okg222
theorem okg223 : HookOk Tryz.prog g223 := hook_of_evF (okc0 _ w8_21) kg223
theorem w8_22 : ∀ h ∈ s8_22, HookOk Tryz.prog h := snocG (l := s8_21) w8_21 okg223
theorem okg224 : HookOk Tryz.prog g224 := hook_of_evF (okc0 _ w8_22) kg224
theorem w8_23 : ∀ h ∈ s8_23, HookOk Tryz.prog h := snocG (l := s8_22) w8_22 okg224
theorem okg225 : HookOk Tryz.prog g225 := hook_of_evF (okc0 _ w8_23) kg225
theorem w8_24 : ∀ h ∈ s8_24, HookOk Tryz.prog h := snocG (l := s8_23) w8_23 okg225
theorem okg226 : HookOk Tryz.prog g226 := hook_of_evF (okc0 _ w8_24) kg226
theorem w8_25 : ∀ h ∈ s8_25, HookOk Tryz.prog h := snocG (l := s8_24) w8_24 okg226
theorem okg227 : HookOk Tryz.prog g227 := hook_of_evF (okc0 _ w8_25) kg227
theorem w8_26 : ∀ h ∈ s8_26, HookOk Tryz.prog h := snocG (l := s8_25) w8_25 okg227
theorem okg228 : HookOk Tryz.prog g228 := hook_of_evF (okc0 _ w8_26) kg228
theorem w8_27 : ∀ h ∈ s8_27, HookOk Tryz.prog h := snocG (l := s8_26) w8_26 okg228
theorem okR8 : CfgOk Tryz.prog (mkc s8_27) := okc _ w8_27
theorem w9_1 : ∀ h ∈ s9_1, HookOk Tryz.prog h := snocG (l := []) hs0 okg202
theorem okg229 : HookOk Tryz.prog g229 := hook_of_evF (okc0 _ w9_1) kg229
theorem w9_2 : ∀ h ∈ s9_2, HookOk Tryz.prog h := snocG (l := s9_1) w9_1 okg229
theorem okg230 : HookOk Tryz.prog g230 := hook_of_evF (okc0 _ w9_2) kg230
theorem w9_3 : ∀ h ∈ s9_3, HookOk Tryz.prog h := snocG (l := s9_2) w9_2 okg230
theorem okg231 : HookOk Tryz.prog g231 := hook_of_evF (okc0 _ w9_3) kg231
theorem w9_4 : ∀ h ∈ s9_4, HookOk Tryz.prog h := snocG (l := s9_3) w9_3 okg231
theorem okg232 : HookOk Tryz.prog g232 := hook_of_evF (okc0 _ w9_4) kg232
theorem w9_5 : ∀ h ∈ s9_5, HookOk Tryz.prog h := snocG (l := s9_4) w9_4 okg232
theorem okg233 : HookOk Tryz.prog g233 := hook_of_evF (okc0 _ w9_5) kg233
theorem w9_6 : ∀ h ∈ s9_6, HookOk Tryz.prog h := snocG (l := s9_5) w9_5 okg233
theorem okg234 : HookOk Tryz.prog g234 := hook_of_evF (okc0 _ w9_6) kg234
theorem w9_7 : ∀ h ∈ s9_7, HookOk Tryz.prog h := snocG (l := s9_6) w9_6 okg234
theorem okg235 : HookOk Tryz.prog g235 := hook_of_evF (okc0 _ w9_7) kg235
theorem w9_8 : ∀ h ∈ s9_8, HookOk Tryz.prog h := snocG (l := s9_7) w9_7 okg235
theorem okg236 : HookOk Tryz.prog g236 := hook_of_evF (okc0 _ w9_8) kg236
theorem w9_9 : ∀ h ∈ s9_9, HookOk Tryz.prog h := snocG (l := s9_8) w9_8 okg236
theorem okg237 : HookOk Tryz.prog g237 := hook_of_evF (okc0 _ w9_9) kg237
theorem w9_10 : ∀ h ∈ s9_10, HookOk Tryz.prog h := snocG (l := s9_9) w9_9 okg237
theorem okg238 : HookOk Tryz.prog g238 := hook_of_evF (okc0 _ w9_10) kg238
theorem w9_11 : ∀ h ∈ s9_11, HookOk Tryz.prog h := snocG (l := s9_10) w9_10 okg238
theorem okg239 : HookOk Tryz.prog g239 := hook_of_evF (okc0 _ w9_11) kg239
theorem w9_12 : ∀ h ∈ s9_12, HookOk Tryz.prog h := snocG (l := s9_11) w9_11 okg239
theorem okg240 : HookOk Tryz.prog g240 := hook_of_evF (okc0 _ w9_12) kg240
theorem w9_13 : ∀ h ∈ s9_13, HookOk Tryz.prog h := snocG (l := s9_12) w9_12 okg240
theorem okg241 : HookOk Tryz.prog g241 := hook_of_evF (okc0 _ w9_13) kg241
theorem w9_14 : ∀ h ∈ s9_14, HookOk Tryz.prog h := snocG (l := s9_13) w9_13 okg241
theorem okg242 : HookOk Tryz.prog g242 := hook_of_evF (okc0 _ w9_14) kg242
theorem w9_15 : ∀ h ∈ s9_15, HookOk Tryz.prog h := snocG (l := s9_14) w9_14 okg242
theorem okg243 : HookOk Tryz.prog g243 := hook_of_evF (okc0 _ w9_15) kg243
theorem w9_16 : ∀ h ∈ s9_16, HookOk Tryz.prog h := snocG (l := s9_15) w9_15 okg243
theorem okg244 : HookOk Tryz.prog g244 := hook_of_evF (okc0 _ w9_16) kg244
theorem w9_17 : ∀ h ∈ s9_17, HookOk Tryz.prog h := snocG (l := s9_16) w9_16 okg244
theorem okg245 : HookOk Tryz.prog g245 := hook_of_evF (okc0 _ w9_17) kg245
theorem w9_18 : ∀ h ∈ s9_18, HookOk Tryz.prog h := snocG (l := s9_17) w9_17 okg245
theorem okg246 : HookOk Tryz.prog g246 := hook_of_evF (okc0 _ w9_18) kg246
theorem w9_19 : ∀ h ∈ s9_19, HookOk Tryz.prog h := snocG (l := s9_18) w9_18 okg246
theorem okg247 : HookOk Tryz.prog g247 := hook_of_evF (okc0 _ w9_19) kg247
theorem w9_20 : ∀ h ∈ s9_20, HookOk Tryz.prog h := snocG (l := s9_19) w9_19 okg247
theorem okg248 : HookOk Tryz.prog g248 := hook_of_evF (okc0 _ w9_20) kg248
theorem w9_21 : ∀ h ∈ s9_21, HookOk Tryz.prog h := snocG (l := s9_20) w9_20 okg248
theorem okg249 : HookOk Tryz.prog g249 := hook_of_evF (okc0 _ w9_21) kg249
theorem w9_22 : ∀ h ∈ s9_22, HookOk Tryz.prog h := snocG (l := s9_21) w9_21 okg249
theorem okg250 : HookOk Tryz.prog g250 := hook_of_evF (okc0 _ w9_22) kg250
theorem w9_23 : ∀ h ∈ s9_23, HookOk Tryz.prog h := snocG (l := s9_22) w9_22 okg250
theorem okg251 : HookOk Tryz.prog g251 := hook_of_evF (okc0 _ w9_23) kg251
theorem w9_24 : ∀ h ∈ s9_24, HookOk Tryz.prog h := snocG (l := s9_23) w9_23 okg251
theorem okg252 : HookOk Tryz.prog g252 := hook_of_evF (okc0 _ w9_24) kg252
theorem w9_25 : ∀ h ∈ s9_25, HookOk Tryz.prog h := snocG (l := s9_24) w9_24 okg252
theorem okR9 : CfgOk Tryz.prog (mkc s9_25) := okc _ w9_25
theorem w10_1 : ∀ h ∈ s10_1, HookOk Tryz.prog h := snocG (l := []) hs0 okg202
theorem okg253 : HookOk Tryz.prog g253 := hook_of_evF (okc0 _ w10_1) kg253
theorem w10_2 : ∀ h ∈ s10_2, HookOk Tryz.prog h := snocG (l := s10_1) w10_1 okg253
theorem okg254 : HookOk Tryz.prog g254 := hook_of_evF (okc0 _ w10_2) kg254
theorem w10_3 : ∀ h ∈ s10_3, HookOk Tryz.prog h := snocG (l := s10_2) w10_2 okg254
theorem okg255 : HookOk Tryz.prog g255 := hook_of_evF (okc0 _ w10_3) kg255
theorem w10_4 : ∀ h ∈ s10_4, HookOk Tryz.prog h := snocG (l := s10_3) w10_3 okg255
theorem okg256 : HookOk Tryz.prog g256 := hook_of_evF (okc0 _ w10_4) kg256
theorem w10_5 : ∀ h ∈ s10_5, HookOk Tryz.prog h := snocG (l := s10_4) w10_4 okg256
theorem okg257 : HookOk Tryz.prog g257 := hook_of_evF (okc0 _ w10_5) kg257
theorem w10_6 : ∀ h ∈ s10_6, HookOk Tryz.prog h := snocG (l := s10_5) w10_5 okg257
theorem okg258 : HookOk Tryz.prog g258 := hook_of_evF (okc0 _ w10_6) kg258
theorem w10_7 : ∀ h ∈ s10_7, HookOk Tryz.prog h := snocG (l := s10_6) w10_6 okg258
theorem okg259 : HookOk Tryz.prog g259 := hook_of_evF (okc0 _ w10_7) kg259
theorem w10_8 : ∀ h ∈ s10_8, HookOk Tryz.prog h := snocG (l := s10_7) w10_7 okg259
theorem okg260 : HookOk Tryz.prog g260 := hook_of_evF (okc0 _ w10_8) kg260
theorem w10_9 : ∀ h ∈ s10_9, HookOk Tryz.prog h := snocG (l := s10_8) w10_8 okg260
theorem okg261 : HookOk Tryz.prog g261 := hook_of_evF (okc0 _ w10_9) kg261
theorem w10_10 : ∀ h ∈ s10_10, HookOk Tryz.prog h := snocG (l := s10_9) w10_9 okg261
theorem okg262 : HookOk Tryz.prog g262 := hook_of_evF (okc0 _ w10_10) kg262
theorem w10_11 : ∀ h ∈ s10_11, HookOk Tryz.prog h := snocG (l := s10_10) w10_10 okg262
theorem okg263 : HookOk Tryz.prog g263 := hook_of_evF (okc0 _ w10_11) kg263
theorem w10_12 : ∀ h ∈ s10_12, HookOk Tryz.prog h := snocG (l := s10_11) w10_11 okg263
theorem okg264 : HookOk Tryz.prog g264 := hook_of_evF (okc0 _ w10_12) kg264
theorem w10_13 : ∀ h ∈ s10_13, HookOk Tryz.prog h := snocG (l := s10_12) w10_12 okg264
theorem okg265 : HookOk Tryz.prog g265 := hook_of_evF (okc0 _ w10_13) kg265
theorem w10_14 : ∀ h ∈ s10_14, HookOk Tryz.prog h := snocG (l := s10_13) w10_13 okg265
theorem okg266 : HookOk Tryz.prog g266 := hook_of_evF (okc0 _ w10_14) kg266
theorem w10_15 : ∀ h ∈ s10_15, HookOk Tryz.prog h := snocG (l := s10_14) w10_14 okg266
theorem okg267 : HookOk Tryz.prog g267 := hook_of_evF (okc0 _ w10_15) kg267
theorem w10_16 : ∀ h ∈ s10_16, HookOk Tryz.prog h := snocG (l := s10_15) w10_15 okg267
theorem okg268 : HookOk Tryz.prog g268 := hook_of_evF (okc0 _ w10_16) kg268
theorem w10_17 : ∀ h ∈ s10_17, HookOk Tryz.prog h := snocG (l := s10_16) w10_16 okg268
theorem okg269 : HookOk Tryz.prog g269 := hook_of_evF (okc0 _ w10_17) kg269
theorem w10_18 : ∀ h ∈ s10_18, HookOk Tryz.prog h := snocG (l := s10_17) w10_17 okg269
theorem okg270 : HookOk Tryz.prog g270 := hook_of_evF (okc0 _ w10_18) kg270
theorem w10_19 : ∀ h ∈ s10_19, HookOk Tryz.prog h := snocG (l := s10_18) w10_18 okg270
theorem okg271 : HookOk Tryz.prog g271 := hook_of_evF (okc0 _ w10_19) kg271
theorem w10_20 : ∀ h ∈ s10_20, HookOk Tryz.prog h := snocG (l := s10_19) w10_19 okg271
theorem okg272 : HookOk Tryz.prog g272 := hook_of_evF (okc0 _ w10_20) kg272
theorem w10_21 : ∀ h ∈ s10_21, HookOk Tryz.prog h := snocG (l := s10_20) w10_20 okg272
theorem okg273 : HookOk Tryz.prog g273 := hook_of_evF (okc0 _ w10_21) kg273
theorem w10_22 : ∀ h ∈ s10_22, HookOk Tryz.prog h := snocG (l := s10_21) w10_21 okg273
theorem okg274 : HookOk Tryz.prog g274 := hook_of_evF (okc0 _ w10_22) kg274
theorem w10_23 : ∀ h ∈ s10_23, HookOk Tryz.prog h := snocG (l := s10_22) w10_22 okg274
theorem okg275 : HookOk Tryz.prog g275 := hook_of_evF (okc0 _ w10_23) kg275
theorem w10_24 : ∀ h ∈ s10_24, HookOk Tryz.prog h := snocG (l := s10_23) w10_23 okg275
theorem okg276 : HookOk Tryz.prog g276 := hook_of_evF (okc0 _ w10_24) kg276
theorem w10_25 : ∀ h ∈ s10_25, HookOk Tryz.prog h := snocG (l := s10_24) w10_24 okg276
theorem okg277 : HookOk Tryz.prog g277 := hook_of_evF (okc0 _ w10_25) kg277
theorem w10_26 : ∀ h ∈ s10_26, HookOk Tryz.prog h := snocG (l := s10_25) w10_25 okg277
theorem okg278 : HookOk Tryz.prog g278 := hook_of_evF (okc0 _ w10_26) kg278
theorem w10_27 : ∀ h ∈ s10_27, HookOk Tryz.prog h := snocG (l := s10_26) w10_26 okg278
theorem okR10 : CfgOk Tryz.prog (mkc s10_27) := okc _ w10_27
theorem w11_1 : ∀ h ∈ s11_1, HookOk Tryz.prog h := snocG (l := []) hs0 okg202
theorem okg279 : HookOk Tryz.prog g279 := hook_of_evF (okc0 _ w11_1) kg279
theorem w11_2 : ∀ h ∈ s11_2, HookOk Tryz.prog h := snocG (l := s11_1) w11_1 okg279
theorem okg280 : HookOk Tryz.prog g280 := hook_of_evF (okc0 _ w11_2) kg280
theorem w11_3 : ∀ h ∈ s11_3, HookOk Tryz.prog h := snocG (l := s11_2) w11_2 okg280
theorem okg281 : HookOk Tryz.prog g281 := hook_of_evF (okc0 _ w11_3) kg281
theorem w11_4 : ∀ h ∈ s11_4, HookOk Tryz.prog h := snocG (l := s11_3) w11_3 okg281
theorem okg282 : HookOk Tryz.prog g282 := hook_of_evF (okc0 _ w11_4) kg282
theorem w11_5 : ∀ h ∈ s11_5, HookOk Tryz.prog h := snocG (l := s11_4) w11_4 okg282
theorem okg283 : HookOk Tryz.prog g283 := hook_of_evF (okc0 _ w11_5) kg283
theorem w11_6 : ∀ h ∈ s11_6, HookOk Tryz.prog h := snocG (l := s11_5) w11_5 okg283
theorem okg284 : HookOk Tryz.prog g284 := hook_of_evF (okc0 _ w11_6) kg284
theorem w11_7 : ∀ h ∈ s11_7, HookOk Tryz.prog h := snocG (l := s11_6) w11_6 okg284
theorem okg285 : HookOk Tryz.prog g285 := hook_of_evF (okc0 _ w11_7) kg285
theorem w11_8 : ∀ h ∈ s11_8, HookOk Tryz.prog h := snocG (l := s11_7) w11_7 okg285
theorem okg286 : HookOk Tryz.prog g286 := hook_of_evF (okc0 _ w11_8) kg286
theorem w11_9 : ∀ h ∈ s11_9, HookOk Tryz.prog h := snocG (l := s11_8) w11_8 okg286
theorem okg287 : HookOk Tryz.prog g287 := hook_of_evF (okc0 _ w11_9) kg287
theorem w11_10 : ∀ h ∈ s11_10, HookOk Tryz.prog h := snocG (l := s11_9) w11_9 okg287
theorem okg288 : HookOk Tryz.prog g288 := hook_of_evF (okc0 _ w11_10) kg288
theorem w11_11 : ∀ h ∈ s11_11, HookOk Tryz.prog h := snocG (l := s11_10) w11_10 okg288
theorem okg289 : HookOk Tryz.prog g289 := hook_of_evF (okc0 _ w11_11) kg289
theorem w11_12 : ∀ h ∈ s11_12, HookOk Tryz.prog h := snocG (l := s11_11) w11_11 okg289
theorem okg290 : HookOk Tryz.prog g290 := hook_of_evF (okc0 _ w11_12) kg290
theorem w11_13 : ∀ h ∈ s11_13, HookOk Tryz.prog h := snocG (l := s11_12) w11_12 okg290
theorem okg291 : HookOk Tryz.prog g291 := hook_of_evF (okc0 _ w11_13) kg291
theorem w11_14 : ∀ h ∈ s11_14, HookOk Tryz.prog h := snocG (l := s11_13) w11_13 okg291
theorem okg292 : HookOk Tryz.prog g292 := hook_of_evF (okc0 _ w11_14) kg292
theorem w11_15 : ∀ h ∈ s11_15, HookOk Tryz.prog h := snocG (l := s11_14) w11_14 okg292
theorem okg293 : HookOk Tryz.prog g293 := hook_of_evF (okc0 _ w11_15) kg293
theorem w11_16 : ∀ h ∈ s11_16, HookOk Tryz.prog h := snocG (l := s11_15) w11_15 okg293
theorem okg294 : HookOk Tryz.prog g294 := hook_of_evF (okc0 _ w11_16) kg294
theorem w11_17 : ∀ h ∈ s11_17, HookOk Tryz.prog h := snocG (l := s11_16) w11_16 okg294
theorem okg295 : HookOk Tryz.prog g295 := hook_of_evF (okc0 _ w11_17) kg295
theorem w11_18 : ∀ h ∈ s11_18, HookOk Tryz.prog h := snocG (l := s11_17) w11_17 okg295
theorem okg296 : HookOk Tryz.prog g296 := hook_of_evF (okc0 _ w11_18) kg296
theorem w11_19 : ∀ h ∈ s11_19, HookOk Tryz.prog h := snocG (l := s11_18) w11_18 okg296
theorem okg297 : HookOk Tryz.prog g297 := hook_of_evF (okc0 _ w11_19) kg297
theorem w11_20 : ∀ h ∈ s11_20, HookOk Tryz.prog h := snocG (l := s11_19) w11_19 okg297
theorem okg298 : HookOk Tryz.prog g298 := hook_of_evF (okc0 _ w11_20) kg298
theorem w11_21 : ∀ h ∈ s11_21, HookOk Tryz.prog h := snocG (l := s11_20) w11_20 okg298
theorem okg299 : HookOk Tryz.prog g299 := hook_of_evF (okc0 _ w11_21) kg299
theorem w11_22 : ∀ h ∈ s11_22, HookOk Tryz.prog h := snocG (l := s11_21) w11_21 okg299
theorem okg300 : HookOk Tryz.prog g300 := hook_of_evF (okc0 _ w11_22) kg300
theorem w11_23 : ∀ h ∈ s11_23, HookOk Tryz.prog h := snocG (l := s11_22) w11_22 okg300
theorem okg301 : HookOk Tryz.prog g301 := hook_of_evF (okc0 _ w11_23) kg301
theorem w11_24 : ∀ h ∈ s11_24, HookOk Tryz.prog h := snocG (l := s11_23) w11_23 okg301
theorem okg302 : HookOk Tryz.prog g302 := hook_of_evF (okc0 _ w11_24) kg302
theorem w11_25 : ∀ h ∈ s11_25, HookOk Tryz.prog h := snocG (l := s11_24) w11_24 okg302
theorem okR11 : CfgOk Tryz.prog (mkc s11_25) := okc _ w11_25
end Go.Proofs.YtaadcblcpojhhaaGreatDoor.turnDeep
