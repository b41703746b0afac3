import Derived.Test.YtaeakifdamlnlaaDoorMGK
import Derived.Test.YtaeakifdamlnlaaDoorMK6
set_option linter.unusedVariables false
set_option linter.unusedSimpArgs false
set_option maxRecDepth 100000
namespace Go.Proofs.YtaeakifdamlnlaaDoor.markSigns
open Go.RowKit Go.Proofs.YtaeakifdamlnlaaDoor.Ev
def outSt (o : Option (AV × St)) : St := match o with | some p => p.2 | none => .mk .e 0 0
/-- an object that is read alone -/
def Ro (ob : AObj) (o : Option AObj) : Prop := ∃ c lim esz ro tw, ob = .cells c lim esz true tw ∧ o = some (.cells c lim esz ro tw)
theorem RS_sub {n0 : Nat} {w0 w : World} {μ : Mu} {st : St} (hr : RS n0 w0 μ st w) {l : List (Nat × AObj)} {nx : Nat} (hn : nx = st.next) (hl : ∀ p ∈ l, Ro p.2 (st.heap.get p.1)) :
    RS w.heap.size w μ (.mk (mkH l) nx nx) w := by
  subst hn
  have hin : ∀ o ob, (mkH l).get o = some ob → Ro ob (st.heap.get o) := fun o ob hg => hl _ (mkH_get _ _ _ hg)
  refine ⟨fun o ho => hr.fresh o ho, hr.blk, fun o p ob hp hg => ?_, fun o p ob hp hg hfr => ?_, fun o o' p p' ob ob' hne hp hp' hg hg' hl hl' hb => ?_, Below.refl _ _, Nat.le_refl _, Nat.le_refl _⟩
  · obtain ⟨c, lim, esz, ro, tw, rfl, h1⟩ := hin o ob hg
    obtain ⟨cs, el, fr, g1, g2, g3, g4, g5⟩ := hr.obj o p _ hp h1
    exact ⟨cs, el, fr, g1, g2, g3, fun e => (by cases e), g5⟩
  · obtain ⟨c, lim, esz, ro, tw, rfl, h1⟩ := hin o ob hg
    cases hfr
  · obtain ⟨c, lim, esz, ro, tw, rfl, h1⟩ := hin o ob hg
    obtain ⟨c', lim', esz', ro', tw', rfl, h1'⟩ := hin o' ob' hg'
    exact hr.apart o o' p p' (.cells c lim esz ro tw) (.cells c' lim' esz' ro' tw') hne hp hp' h1 h1' rfl rfl hb
theorem RS_on {w w' : World} {μ : Mu} {l : List (Nat × AObj)} {nx : Nat} (hr : RS w.heap.size w μ (.mk (mkH l) nx nx) w) (hb : Below w.heap.size w w') (hl : ∀ p ∈ l, Ro p.2 ((mkH l).get p.1)) :
    RS w'.heap.size w' μ (.mk (mkH l) nx nx) w' := RS_sub (hr.beyond hb) (by rfl) hl
theorem calls_of_st {P : Program} {g : Cfg} (hg : CfgOk P g) {n : Nat} {f : FuncId} {fn : Func} (hf : P.funcs[f]? = some fn) (hb : fn.body.isNone = false) {args : List AV} {r : AV} {st st' : St}
    (hev : callF P g n f args st = some (r, st')) {vs : Array Value} {μ : Mu} {w : World} (hr : RS w.heap.size w μ st w) (hv : vrL μ args vs.toList) :
    Calls P f vs w fun e w' => ∃ v, e = .returned v ∧ ∃ μ', Post w.heap.size w μ st μ' st' w' ∧ vr μ' r v := by
  obtain ⟨c, hc⟩ : ∃ c, fn.body = some c := by
    cases h : fn.body with
    | some c => exact ⟨c, rfl⟩
    | none => rw [h] at hb; cases hb
  have h := callF_sound hg (fun cf hc => evDraw_sound hg.mixed hc) n f args st r st' hev w.heap.size w μ w vs hr hv
  rcases h with ⟨v, w', h1, _⟩ | ⟨_, h2⟩
  · rw [run_callFunc_enter hf hc (hg.ng f fn c hf hc)] at h1
    cases h1
  · exact h2
/-! ## what is run -/
def nodes1 (ro : Bool) : AObj := .cells (.n (some (.i .i64 (.ofNat 1))) (.n (some (.i .i64 (.ofNat 2))) (.n (some (.i .i64 (.ofNat 1))) (.n (some (.nils)) .e .e) .e) (.n (some (.nils)) .e .e)) (.n (some (.i .i64 (.ofNat 493))) (.n (some (.i .i64 (.ofNat 0))) .e .e) (.n (some (.s 0 0)) .e .e))) 8 8 ro 0
def rNew : AV := .agg [.i .i64 (.ofNat 5), .i .i64 (.ofNat 5), .i .i64 (.ofNat 2), .sl 1 0 1 1 true 8]
def nodeA : AV := .agg [.i .i64 (.ofNat 0), .i .i64 (.ofNat 1), .i .i64 (.ofNat 0), .i .i64 (.ofNat 0), .i .i64 (.ofNat 0), .nils, .s 0 0, .nils]
def rDisk : AV := .agg [.i .i64 (.ofNat 5), .i .i64 (.ofNat 5), .i .i64 (.ofNat 3), .sl 70 0 2 2 false 8]
def none33 (ro : Bool) : AObj := .cells .e 0 2 ro 0
def names68 (n c : Nat) (ro : Bool) : AObj := .cells (.n (some (.s n c)) (.n (some (.i .i64 (.ofNat 2))) .e .e) .e) 2 2 ro 0
def nodes70 (ro : Bool) : AObj := .cells (.n (some (.i .i64 (.ofNat 1))) (.n (some (.i .i64 (.ofNat 2))) (.n (some (.i .i64 (.ofNat 1))) (.n (some (.sl 68 0 1 1 false 2)) (.n (some (.sl 33 0 0 0 true 2)) .e .e) .e) (.n (some (.i .i64 (.ofNat 1))) .e .e)) (.n (some (.nils)) (.n (some (.i .i64 (.ofNat 1))) .e .e) (.n (some (.nils)) .e .e))) (.n (some (.i .i64 (.ofNat 493))) (.n (some (.i .i64 (.ofNat 0))) (.n (some (.i .i64 (.ofNat 2))) .e .e) (.n (some (.i .i64 (.ofNat 0))) .e .e)) (.n (some (.s 0 0)) (.n (some (.i .i64 (.ofNat 0))) .e .e) (.n (some (.s 0 0)) .e .e)))) 16 8 ro 70
noncomputable def runNew : Option (AV × St) := callF Tryd.prog cfg0 1000 18 [.i .i64 5, .i .i64 5] st00
theorem new_res : runNew = some (rNew, outSt runNew) := by kernel_rfl
theorem new_next : (outSt runNew).next = 2 := by kernel_rfl
theorem new_get : (outSt runNew).heap.get 1 = some (nodes1 false) := by kernel_rfl
noncomputable def st1 : St := .mk (mkH [(1, nodes1 true)]) 2 2
noncomputable def runMake (n c : Nat) : Option (AV × St) := callF Tryd.prog cfg0 1000 17 [rNew, .i .i64 1, .s n c, nodeA] st1
theorem make_res (n c : Nat) : runMake n c = some (.tup [rDisk, .i .i64 2, .i .i64 0], outSt (runMake n c)) := by kernel_rfl
theorem make_next (n c : Nat) : (outSt (runMake n c)).next = 71 := by kernel_rfl
theorem make_33 (n c : Nat) : (outSt (runMake n c)).heap.get 33 = some (none33 false) := by kernel_rfl
theorem make_68 (n c : Nat) : (outSt (runMake n c)).heap.get 68 = some (names68 n c false) := by kernel_rfl
theorem make_70 (n c : Nat) : (outSt (runMake n c)).heap.get 70 = some (nodes70 false) := by kernel_rfl
noncomputable def st2 (n c : Nat) : St := .mk (mkH [(33, none33 true), (68, names68 n c true), (70, nodes70 true)]) 71 71
noncomputable def runGet (n c : Nat) : Option (AV × St) := callF Tryd.prog cfg0 1000 33 [rDisk, .i .i64 1] (st2 n c)
def rGet : AV := .tup [.agg [.i .i64 (.ofNat 1), .i .i64 (.ofNat 2), .i .i64 (.ofNat 493), .i .i64 (.ofNat 1), .i .i64 (.ofNat 0), .nils, .s 0 0, .sl 82 0 1 1 false 2], .b true]
theorem get_res (n c : Nat) : runGet n c = some (rGet, outSt (runGet n c)) := by kernel_rfl
theorem get_82 (n c : Nat) : (outSt (runGet n c)).heap.get 82 = some (names68 n c false) := by kernel_rfl
end Go.Proofs.YtaeakifdamlnlaaDoor.markSigns
