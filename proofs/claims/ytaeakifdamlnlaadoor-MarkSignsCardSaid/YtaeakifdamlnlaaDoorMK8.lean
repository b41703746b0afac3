import Derived.Test.YtaeakifdamlnlaaDoorMK7
set_option linter.unusedVariables false
set_option linter.unusedSimpArgs false
set_option maxRecDepth 100000
namespace Go.Proofs.YtaeakifdamlnlaaDoor.markSigns
open Go.RowKit Go.Proofs.YtaeakifdamlnlaaDoor.Ev
def D0 (W : World) (v : Value) : Prop := ∃ μ, RS W.heap.size W μ st1 W ∧ vr μ rNew v
def D1 (s : ByteArray) (W : World) (v : Value) : Prop := ∃ μ, RS W.heap.size W μ (st2 s.data.toList.length (enc s.data.toList)) W ∧ vr μ rDisk v
theorem D0.on {W W' : World} {v : Value} (h : D0 W v) (hb : Below W.heap.size W W') : D0 W' v := by
  obtain ⟨μ, h1, h2⟩ := h
  refine ⟨μ, RS_on h1 hb fun p hp => ?_, h2⟩
  simp only [List.mem_cons, List.mem_nil_iff, or_false] at hp
  subst hp
  exact ⟨_, _, _, true, _, rfl, by kernel_rfl⟩
theorem D1.on {s : ByteArray} {W W' : World} {v : Value} (h : D1 s W v) (hb : Below W.heap.size W W') : D1 s W' v := by
  obtain ⟨μ, h1, h2⟩ := h
  refine ⟨μ, RS_on h1 hb fun p hp => ?_, h2⟩
  simp only [List.mem_cons, List.mem_nil_iff, or_false] at hp
  rcases hp with rfl | rfl | rfl
  · exact ⟨_, _, _, true, _, rfl, by kernel_rfl⟩
  · exact ⟨_, _, _, true, _, rfl, by kernel_rfl⟩
  · exact ⟨_, _, _, true, _, rfl, by kernel_rfl⟩
theorem newC (W : World) : Calls Tryd.prog 18 #[.int .i64 5, .int .i64 5] W fun e w' => ∃ v, e = .returned v ∧ D0 w' v ∧ Below W.heap.size W w' := by
  refine (calls_of_st cfgOk0 Tryd.func18 (by kernel_rfl) new_res (RS.empty W (Below.refl _ _)) (vs := #[.int .i64 5, .int .i64 5]) ?_).mono fun e w' ⟨v, he, μ', hp, hv⟩ => ⟨v, he, ⟨μ', RS_sub hp.rs new_next.symm fun p hp => ?_, hv⟩, hp.rs.below⟩
  · exact vrL_cons.2 ⟨by simp only [vr], vrL_cons.2 ⟨by simp only [vr], by simp only [vrL]⟩⟩
  · simp only [List.mem_cons, List.mem_nil_iff, or_false] at hp
    subst hp
    exact ⟨_, _, _, false, _, rfl, new_get⟩
theorem makeC (s : ByteArray) (W : World) (v : Value) (h : D0 W v) : Calls Tryd.prog 17 #[v, .int .i64 1, .string s, .agg #[.int .i64 0, .int .i64 1, .int .i64 0, .int .i64 0, .int .i64 0, .slice none 0 0, .string ⟨#[]⟩, .slice none 0 0]] W fun e w' =>
    ∃ A c, e = .returned (.tuple #[diskV 5 5 3 A 2 c, .int .i64 2, .int .i64 0]) ∧ D1 s w' (diskV 5 5 3 A 2 c) ∧ Below W.heap.size W w' := by
  obtain ⟨μ, h1, h2⟩ := h
  refine (calls_of_st cfgOk0 Tryd.func17 (by kernel_rfl) (make_res s.data.toList.length (enc s.data.toList)) h1 ?_).mono fun e w' ⟨u, he, μ', hp, hv⟩ => ?_
  · refine vrL_cons.2 ⟨h2, vrL_cons.2 ⟨by simp only [vr], vrL_cons.2 ⟨?_, vrL_cons.2 ⟨?_, by simp only [vrL]⟩⟩⟩⟩
    · simp only [vr]
      obtain ⟨⟨l⟩⟩ := s
      exact ⟨l, rfl, rfl, rfl⟩
    · simp only [vr, nodeA]
      refine ⟨_, rfl, ?_⟩
      simp only [vrL_cons, vrL_nil, vr]
      and_intros <;> first | trivial | rfl | exact ⟨[], rfl, rfl, rfl⟩
  · subst he
    simp only [vr] at hv
    obtain ⟨xs, rfl, hv⟩ := hv
    simp only [vrL] at hv
    obtain ⟨v1, r1, rfl, g1, v2, r2, rfl, rfl, v3, r3, rfl, rfl, rfl⟩ := hv
    have gd := g1
    simp only [rDisk, vr, vrL] at g1
    obtain ⟨ys, rfl, a1, q1, rfl, rfl, a2, q2, rfl, rfl, a3, q3, rfl, rfl, a4, q4, rfl, ⟨p, c, hp0, _, rfl, _⟩, rfl⟩ := g1
    refine ⟨_, c, rfl, ⟨μ', RS_sub hp.rs (make_next _ _).symm fun p hp => ?_, gd⟩, hp.rs.below⟩
    simp only [List.mem_cons, List.mem_nil_iff, or_false] at hp
    rcases hp with rfl | rfl | rfl
    · exact ⟨_, _, _, false, _, rfl, make_33 _ _⟩
    · exact ⟨_, _, _, false, _, rfl, make_68 _ _⟩
    · exact ⟨_, _, _, false, _, rfl, make_70 _ _⟩
theorem getC (s : ByteArray) (W : World) (v : Value) (h : D1 s W v) : Calls Tryd.prog 33 #[v, .int .i64 1] W (Got s W) := by
  obtain ⟨μ, h1, h2⟩ := h
  refine (calls_of_st cfgOk0 Tryd.func33 (by kernel_rfl) (get_res s.data.toList.length (enc s.data.toList)) h1 (vs := #[v, .int .i64 1]) ?_).mono fun e w' ⟨u, he, μ', hp, hv⟩ => ?_
  · exact vrL_cons.2 ⟨h2, vrL_cons.2 ⟨by simp only [vr], by simp only [vrL]⟩⟩
  · subst he
    simp only [rGet, vr, vrL] at hv
    obtain ⟨xs, rfl, v1, r1, rfl, ⟨ys, rfl, a1, q1, rfl, rfl, a2, q2, rfl, rfl, a3, q3, rfl, rfl, a4, q4, rfl, rfl, a5, q5, rfl, rfl, a6, q6, rfl, rfl, a7, q7, rfl, ⟨l7, rfl, g7, g7'⟩, a8, q8, rfl, ⟨p, c, hp0, hlo, rfl, hesz, _⟩, rfl⟩, v2, r2, rfl, rfl, rfl⟩ := hv
    obtain ⟨cs, el, fr, k1, k2, k3, k4, k5⟩ := hp.rs.obj 82 p _ hp0 (get_82 _ _)
    have hl0 : p.lo = 0 := by omega
    have c0 := k5 0 (by omega) (by decide)
    have c1 := k5 1 (by omega) (by decide)
    obtain ⟨u0, e0, w0⟩ := c0
    obtain ⟨u1, e1, w1⟩ := c1
    have w0 : vr μ' (.s s.data.toList.length (enc s.data.toList)) u0 := w0
    have w1 : vr μ' (.i .i64 (.ofNat 2)) u1 := w1
    simp only [vr] at w0 w1
    obtain ⟨l, rfl, hl, henc⟩ := w0
    subst w1
    have hls : l = s.data.toList := enc_inj l _ hl henc
    subst hls
    refine ⟨493, 1, 0, none, 0, 0, _, p.blk, p.at_ 0, c, rfl, fun j hj => ?_, ?_, hp.rs.below⟩
    · obtain rfl : j = 0 := by omega
      have hat : p.at_ 1 = p.at_ 0 + 1 := by unfold Place.at_; omega
      rw [hat] at e1
      refine ⟨?_, ?_⟩
      · unfold World.cell?
        simp [k1, e0]
      · unfold World.cell?
        simp [k1, e1]
    · exact hp.rs.blk 82 p hp0
end Go.Proofs.YtaeakifdamlnlaaDoor.markSigns
