import Derived.Test.YtaadcblcpojhhaaGreatDoorEvMain
import Derived.Test.YtaadcblcpojhhaaGreatDoorEvDraw3
namespace Go.Proofs.YtaadcblcpojhhaaGreatDoor.Ev
open Go.RowKit

def st00 : St := .mk .e 0 0
theorem RS.empty (w : World) (hb : Below w.heap.size w w) : RS w.heap.size w (fun _ => none) st00 w :=
  ⟨(fun _ _ => rfl), (fun o p h => by cases h), (fun o p ob h => by cases h), (fun o p ob h => by cases h), (fun o o' p p' ob ob' _ h => by cases h), hb, Nat.le_refl _, Nat.le_refl _⟩

theorem calls_of_ev {P : Program} {g : Cfg} (hg : CfgOk P g) {n : Nat} {f : FuncId} {fn : Func} {c : Code} (hf : P.funcs[f]? = some fn) (hb : fn.body = some c) {args : List AV} {r : AV} {st' : St}
    (hev : evCall P g n f args st00 = some (r, st')) {vs : Array Value} {w : World} (hbl : Below w.heap.size w w) (hv : vrL (fun _ => none) args vs.toList) :
    Calls P f vs w fun e w' => ∃ v, e = .returned v ∧ Below w.heap.size w w' ∧ ∃ μ', vr μ' r v := by
  have h := evCall_sound hg (fun cf hc => evDraw_sound hg.mixed hc) n f args st00 r st' hev w.heap.size w (fun _ => none) w vs (RS.empty w hbl) hv
  rcases h with ⟨v, w', h1, _⟩ | ⟨_, h2⟩
  · rw [run_callFunc_enter hf hb (hg.ng f fn c hf hb)] at h1
    cases h1
  · exact h2.mono fun e w' ⟨v, h3, μ', h4, h5⟩ => ⟨v, h3, h4.rs.below, μ', h5⟩
end Go.Proofs.YtaadcblcpojhhaaGreatDoor.Ev
