/- What functions of the program compute, written down; read off their code. -/
import Derived.Test.YtkccnomdfkhfnaaEvAct4
import Derived.Test.YtkccnomdfkhfnaaEvSemP
set_option linter.unusedSimpArgs false
set_option linter.unusedVariables false
namespace Go.Proofs.Ytkccnomdfkhfnaa.Ev
open Go.RowKit
section
variable {P : Program} {n0 : Nat} {w0 : World} {μ : Mu} {st st' : St} {w : World}

theorem zinfo {e : TypeId} {za : AV} (hz : zeroT P e = some za) : ∃ i z, P.info? e = some i ∧ i.zero = some z ∧ cv 6 z = some za := by
  unfold zeroT at hz
  split at hz
  · rename_i i hi
    split at hz
    · rename_i z hzz
      exact ⟨i, z, hi, hzz, hz⟩
    · cases hz
  · cases hz

theorem appendZ_elim {e : TypeId} {size : Nat} {z s x : AV} {r : AV × St} (hs : appendZ P st e size z s x = some r) : ∃ k n, x = .i k (.ofNat n) ∧ n ≤ 1048576 ∧ aAppendCells P st e size s (zerosOf (acells z) n) n = some r := by
  unfold appendZ at hs
  split at hs
  · obtain ⟨d1, hs⟩ := need_some hs
    rw [ble_iff] at d1
    exact ⟨_, _, rfl, d1, hs⟩
  · cases hs

theorem append2_sound (h : RS n0 w0 μ st w) {t xt ty : TypeId} {s x a : AV} {sv xv : Value} (hs : append2 P st t xt s x = some (a, st')) (hv : vr μ s sv) (hx : vr μ x xv) :
    ∃ μ' w' v, (Builtin.append_ #[t, xt] ty #[sv, xv]).run P w = .ok v w' ∧ Post n0 w0 μ st μ' st' w' ∧ vr μ' a v := by
  unfold append2 at hs
  split at hs
  · rename_i e hu
    obtain ⟨size, hsize, hs⟩ := obind_elim hs
    obtain ⟨za, hz, hs⟩ := obind_elim hs
    obtain ⟨c1, hs⟩ := need_some hs
    obtain ⟨c2, hs⟩ := need_some hs
    obtain ⟨c3, hs⟩ := need_some hs
    rw [beq_iff', lenA_eq] at c1
    rw [ble_iff] at c2
    obtain ⟨i, z, hi, hiz, hcv⟩ := zinfo hz
    have hzr : vrL μ (acells za) z.cells.toList := acells_vr (cv_vr _ _ _ hcv) (allOk_ne_top c3)
    have hzs : z.cells.size = size := by rw [← c1, ← vrL_length _ _ hzr]; simp
    have hsz : i.size = size := by
      unfold sizeT at hsize
      rw [hi] at hsize
      simpa using hsize
    have hX : ∀ dx, P.underlying xt = some dx → (dx = .string ∨ ∃ e', dx = .slice e') → appendX P st e size s x = some (a, st') →
        ∃ μ' w' v, (Builtin.append_ #[t, xt] ty #[sv, xv]).run P w = .ok v w' ∧ Post n0 w0 μ st μ' st' w' ∧ vr μ' a v := fun dx hd hnz hs => by
      unfold appendX at hs
      obtain ⟨n, hn, hs⟩ := obind_elim hs
      obtain ⟨new, hnew, hs⟩ := obind_elim hs
      obtain ⟨d1, hs⟩ := need_some hs
      rw [beq_iff', lenA_eq, mul_eq'] at d1
      exact aAppendCells_sound h hi hsz hzs (appX_at h hu hi hiz hd hnz hsz hn hnew hx) d1 hs hv
    split at hs
    · rename_i kd hd
      obtain ⟨k, n, rfl, d1, hs⟩ := appendZ_elim hs
      simp only [vr] at hx; subst hx
      refine aAppendCells_sound h hi hsz hzs (app0_at hu hi hiz hd d1 (by omega) (by omega) hzr) ?_ hs hv
      rw [← vrL_length (zerosOf (acells za) n) (repL z.cells.toList n) (zerosOf_vr hzr n), repL_length]
      simp [hzs]
    · rename_i hd; exact hX _ hd (.inl rfl) hs
    · rename_i e' hd; exact hX _ hd (.inr ⟨_, rfl⟩) hs
    · cases hs
  · cases hs

theorem aAppend_sound (h : RS n0 w0 μ st w) {ts : Array TypeId} {ty : TypeId} {args : List AV} {vs : Array Value} {a : AV} (hs : aAppend P st ts.toList args = some (a, st')) (hv : vrL μ args vs.toList) :
    ∃ μ' w' v, (Builtin.append_ ts ty vs).run P w = .ok v w' ∧ Post n0 w0 μ st μ' st' w' ∧ vr μ' a v := by
  unfold aAppend at hs
  split at hs
  · rename_i t xt s x ht
    obtain ⟨vs⟩ := vs
    obtain ⟨ts⟩ := ts
    dsimp only at ht hv
    subst ht
    simp only [vrL] at hv
    obtain ⟨v1, r1, rfl, g1, v2, r2, rfl, g2, rfl⟩ := hv
    exact append2_sound h hs g1 g2
  · cases hs

theorem aCopy_sound (h : RS n0 w0 μ st w) {ts : Array TypeId} {ty : TypeId} {args : List AV} {vs : Array Value} {a : AV} (hs : aCopy P st ts.toList args = some (a, st')) (hv : vrL μ args vs.toList) :
    ∃ μ' w' v, (Builtin.copy_ ts ty vs).run P w = .ok v w' ∧ Post n0 w0 μ st μ' st' w' ∧ vr μ' a v := by
  unfold aCopy at hs
  split at hs
  · rename_i t r d s ht
    obtain ⟨vs⟩ := vs
    obtain ⟨ts⟩ := ts
    dsimp only at ht hv
    subst ht
    simp only [vrL] at hv
    obtain ⟨dv, r1, rfl, g1, sv, r2, rfl, g2, rfl⟩ := hv
    split at hs
    · rename_i e hu
      split at hs
      · rename_i size ls hsize hl
        have hlen := lenOf_sound hl g2
        -- none is copied
        have hzero : ∀ (base : Option Addr) (dl dc : Nat), dv = .slice base dl dc → Nat.min ls dl = 0 → (aLenOf s = some ls) →
            (Builtin.copy_ ⟨t :: r⟩ ty ⟨[dv, sv]⟩).run P w = .ok (.int .i64 0) w := fun base dl dc hdv h0 _ => by
          subst hdv
          have hf : (Builtin.firstCells size 0 sv).run P w = .ok ⟨[]⟩ w := by
            unfold aLenOf at hl
            split at hl
            · simp only [vr] at g2; obtain ⟨p, c, _, _, rfl, _⟩ := g2; simp [Builtin.firstCells, loadCells, loadCellsFrom]
            · simp only [vr] at g2; obtain ⟨p, c, off, _, rfl⟩ := g2; simp [Builtin.firstCells, loadCells, loadCellsFrom]
            · simp only [vr] at g2; subst g2; rfl
            · simp only [vr] at g2; obtain ⟨l, rfl, _, _⟩ := g2; simp [Builtin.firstCells]
            · cases hl
          have h0' : min ls dl = 0 := h0
          cases base <;> simp [Builtin.copy_, run_underlying hu, hlen, h0', run_sizeOf hsize, hf, storeCells, goInt] <;> rfl
        split at hs
        · cases hs
          simp only [vr] at g1
          exact ⟨μ, w, _, hzero none 0 0 g1 (Nat.min_zero _) hl, Post.refl h, by simp only [vr]⟩
        · cases hs
          simp only [vr] at g1
          obtain ⟨p, c, off, _, g1⟩ := g1
          exact ⟨μ, w, _, hzero _ 0 c g1 (Nat.min_zero _) hl, Post.refl h, by simp only [vr]⟩
        · rename_i o k dl dcap dkn dsz
          simp only [vr] at g1
          obtain ⟨p, c, hp, hk, rfl, _⟩ := g1
          cases hb : Nat.beq (Nat.min ls dl) 0 with
          | true =>
            rw [hb] at hs
            cases hs
            rw [beq_iff'] at hb
            exact ⟨μ, w, _, hzero _ dl c rfl hb hl, Post.refl h, by simp only [vr]⟩
          | false =>
            rw [hb] at hs
            simp only [cond_false] at hs
            split at hs
            · rename_i cs hcs
              split at hs
              · rename_i st2 hst
                cases hs
                obtain ⟨ys, f1, f2⟩ := aCells_sound (P := P) h hcs g2
                obtain ⟨w', s1, s2⟩ := stCells_sound (P := P) h hst hp hk f2
                refine ⟨μ, w', .int .i64 (Int.ofNat (Nat.min ls dl)), ?_, s2, by simp only [vr]⟩
                have f1' : (Builtin.firstCells size (min ls dl) sv).run P w = .ok ys.toArray w := f1
                simp [Builtin.copy_, run_underlying hu, hlen, run_sizeOf hsize, f1', s1, goInt]
              · cases hs
            · cases hs
        · cases hs
      · cases hs
    · cases hs
  · cases hs

theorem aClear_sound (h : RS n0 w0 μ st w) {ts : Array TypeId} {ty : TypeId} {args : List AV} {vs : Array Value} {a : AV} (hs : aClear P st ts.toList args = some (a, st')) (hv : vrL μ args vs.toList) :
    ∃ μ' w' v, (Builtin.clear_ ts ty vs).run P w = .ok v w' ∧ Post n0 w0 μ st μ' st' w' ∧ vr μ' a v := by
  unfold aClear at hs
  split at hs
  · rename_i t d ht
    obtain ⟨vs⟩ := vs
    obtain ⟨ts⟩ := ts
    dsimp only at ht hv
    subst ht
    simp only [vrL] at hv
    obtain ⟨dv, r1, rfl, g1, rfl⟩ := hv
    have hun : vr μ undefA (.tuple #[]) := undefA_vr μ
    split at hs
    · rename_i e hu
      split at hs
      · cases hs
        simp only [vr] at g1; subst g1
        exact ⟨μ, w, _, by simp [Builtin.clear_, run_underlying hu], Post.refl h, hun⟩
      · cases hs
        simp only [vr] at g1
        obtain ⟨p, c, off, _, rfl⟩ := g1
        exact ⟨μ, w, _, by simp [Builtin.clear_, run_underlying hu], Post.refl h, hun⟩
      · cases hs
        simp only [vr] at g1
        obtain ⟨p, c, hp, hk, rfl, _⟩ := g1
        exact ⟨μ, w, _, by simp [Builtin.clear_, run_underlying hu], Post.refl h, hun⟩
      · rename_i o k n cap kn es za hn hz
        simp only [vr] at g1
        obtain ⟨p, c, hp, hk, rfl, _⟩ := g1
        split at hs
        · rename_i st2 hst
          cases hs
          obtain ⟨i, z, hi, hiz, hcv⟩ := zinfo hz
          have hn0 : n ≠ 0 := fun e => hn e
          have hzt : za ≠ .top := fun e => zeroT_ne_top (e ▸ hz)
          have hzr : vrL μ (acells za) z.cells.toList := acells_vr (cv_vr _ _ _ hcv) hzt
          by_cases h0 : z.cells.size = 0
          · have e1 : acells za = [] := List.eq_nil_of_length_eq_zero (by rw [← vrL_length _ _ hzr]; simp [h0])
            have e2 : ∀ n, zerosOf (acells za) n = [] := fun n => by
              rw [e1]
              induction n with
              | zero => rfl
              | succ n ih => rw [zerosOf, ih]; rfl
            rw [e2] at hst
            obtain ⟨w', s1, s2⟩ := stCells_sound (P := P) (xs := []) h hst hp hk (by simp only [vrL])
            refine ⟨μ, w', .tuple #[], ?_, s2, hun⟩
            have e3 : (Builtin.zeroCells z.cells n).toList = [] := by simp [Builtin.zeroCells, h0]
            simp [Builtin.clear_, run_underlying hu, zeroValue, typeInfo, hi, hiz, hn0, e3, s1]
          · obtain ⟨w', s1, s2⟩ := stCells_sound (P := P) h hst hp hk (zerosOf_vr hzr n)
            refine ⟨μ, w', .tuple #[], ?_, s2, hun⟩
            have e3 : (Builtin.zeroCells z.cells n).toList = repL z.cells.toList n := by rw [zeroCells_eq z n (by omega)]
            simp [Builtin.clear_, run_underlying hu, zeroValue, typeInfo, hi, hiz, hn0, e3, s1]
        · cases hs
      · cases hs
    · cases hs
  · cases hs

/-! ### iteration over a string -/
theorem run_setObj_iter {r : Nat} {s : ByteArray} {pos : Nat} (o : Obj) (hb : w.heap[r]? = some (.stringIter s pos)) : (setObj r o).run P w = .ok () (setBlk w r o) := by
  simp [setObj, Sem.run, hb, setBlk]
theorem run_getObj_iter {r : Nat} {s : ByteArray} {pos : Nat} (hb : w.heap[r]? = some (.stringIter s pos)) : (getObj r).run P w = .ok (.stringIter s pos) w := by
  simp [getObj, Sem.run, hb]

theorem aRangeS_sound (h : RS n0 w0 μ st w) {t : TypeId} (hu : P.underlying t = some .string) {x a : AV} {v : Value} (hs : aRangeS st x = some (a, st')) (hv : vr μ x v) :
    ∃ μ' w' u, (Instr.range t v).run P w = .ok u w' ∧ Post n0 w0 μ st μ' st' w' ∧ vr μ' a u := by
  unfold aRangeS at hs
  split at hs
  · rename_i len code
    cases hs
    simp only [vr] at hv
    obtain ⟨l, rfl, h1, h2⟩ := hv
    subst h1; subst h2
    rw [dec_enc, List.append_nil]
    refine ⟨_, _, .pointer (some ⟨w.heap.size, 0, none⟩), ?_, h.push (p := ⟨w.heap.size, 0, 0, 0, 0⟩) (b := .stringIter ⟨⟨l⟩⟩ 0) rfl fun μ' _ => ⟨rfl, rfl, pushed_new _ _⟩, ?_⟩
    · unfold Instr.range
      rw [run_bind_ok (run_underlying hu w)]
      rfl
    · simp only [vr]
      exact ⟨_, Mu.add_same _ _ _, Nat.zero_le _, rfl⟩
  · cases hs
theorem aRangeM_sound (h : RS n0 w0 μ st w) {t kt et : TypeId} (hu : P.underlying t = some (.map kt et)) {x a : AV} {v : Value} (hs : aRangeM st x = some (a, st')) (hv : vr μ x v) :
    ∃ μ' w' u, (Instr.range t v).run P w = .ok u w' ∧ Post n0 w0 μ st μ' st' w' ∧ vr μ' a u := by
  unfold aRangeM at hs
  split at hs
  · cases hs
    simp only [vr] at hv
    subst hv
    refine ⟨_, _, .pointer (some ⟨w.heap.size, 0, none⟩), ?_, h.push (p := ⟨w.heap.size, 0, 0, 0, 0⟩) (b := .mapIter none 0 #[] 0) rfl fun μ' _ => ⟨rfl, rfl, 0, #[], 0, pushed_new _ _⟩, ?_⟩
    · unfold Instr.range
      rw [run_bind_ok (run_underlying hu w)]
      rfl
    · simp only [vr]
      exact ⟨_, Mu.add_same _ _ _, Nat.zero_le _, rfl⟩
  · rename_i r
    split at hs
    · rename_i es clock hob
      cases hs
      simp only [vr] at hv
      obtain ⟨q, hq, rfl⟩ := hv
      obtain ⟨ms, e1, e2⟩ := h.obj r q _ hq hob
      have hg : (getObj q.blk).run P w = .ok (.map ⟨ms⟩ clock) w := by simp [getObj, Sem.run, e1]
      refine ⟨_, _, .pointer (some ⟨w.heap.size, 0, none⟩), ?_, h.push (p := ⟨w.heap.size, 0, 0, 0, 0⟩) (b := .mapIter (some q.blk) clock #[] clock) rfl fun μ' hx => ⟨rfl, rfl, q, [], hx r q hq, pushed_new _ _, List.nodup_nil, rfl⟩, ?_⟩
      · unfold Instr.range
        rw [run_bind_ok (run_underlying hu w)]
        simp only [Sem.run_bind, hg, Result.andThen]
        rfl
      · simp only [vr]
        exact ⟨_, Mu.add_same _ _ _, Nat.zero_le _, rfl⟩
    · cases hs
  · cases hs
theorem aRange_sound (h : RS n0 w0 μ st w) {t : TypeId} {x a : AV} {v : Value} (hs : aRange P st t x = some (a, st')) (hv : vr μ x v) :
    ∃ μ' w' u, (Instr.range t v).run P w = .ok u w' ∧ Post n0 w0 μ st μ' st' w' ∧ vr μ' a u := by
  unfold aRange at hs
  cases hu : P.underlying t with
  | none => rw [hu] at hs; cases hs
  | some d =>
    rw [hu] at hs
    cases d <;> first | (cases hs; done) | exact aRangeS_sound h hu hs hv | exact aRangeM_sound h hu hs hv

theorem nodup_sub : ∀ {l m : List Nat}, l.Nodup → (∀ a ∈ l, a ∈ m) → l.length ≤ m.length
  | [], m, _, _ => Nat.zero_le _
  | x :: l, m, hn, hs => by
    obtain ⟨h1, h2⟩ := List.nodup_cons.1 hn
    have hx : x ∈ m := hs x (by simp)
    have := nodup_sub (l := l) (m := m.erase x) h2 fun a ha => (List.mem_erase_of_ne (fun e => h1 (by rw [← e]; exact ha))).2 (hs a (by simp [ha]))
    rw [List.length_erase_of_mem hx] at this
    have hpos : 0 < m.length := List.length_pos_of_mem hx
    rw [List.length_cons]
    omega
/-- the next entry of a map, whichever -/
theorem nextM_sound (h : RS n0 w0 μ st w) {r m since clock : Nat} {bs gs : List Nat} {es : List (AV × AV × Nat)} {p : Place} {a : AV} {ty : TypeId} (hp : μ r = some p)
    (hob : st.heap.get r = some (.miter (some (.mk m since bs gs)))) (hm : st.heap.get m = some (.map es clock)) (hs : nextM st r m since bs gs es clock = some (a, st')) :
    ∃ μ' w' u, (Instr.next (.pointer (some ⟨p.blk, 0, none⟩)) false ty).run P w = .ok u w' ∧ Post n0 w0 μ st μ' st' w' ∧ vr μ' a u := by
  obtain ⟨e1, e2, q, seen, e3, e4, e5, e6⟩ := h.obj r p _ hp hob
  obtain ⟨ms, f1, f2⟩ := h.obj m q _ e3 hm
  unfold nextM need at hs
  rcases bsel_some hs with ⟨hok, hs2⟩ | ⟨_, hs2⟩
  case inr => cases hs2
  clear hs
  obtain ⟨rfl, rfl, k3, k4, k5, k6⟩ := okM_elim hok
  have hb := entsRel_borns f2
  have hlen := seenRel_length _ _ e6
  have hold : ∀ x ∈ (⟨ms⟩ : Array MapEntry).toList, x.born < clock := fun x hx => k3 _ (by rw [← hb]; exact List.mem_map_of_mem hx)
  rcases run_next_at (P := P) w ty p.blk q.blk clock clock ⟨seen⟩ ⟨ms⟩ clock e4 f1 hold (Nat.le_refl _) with ⟨l0, hrun⟩ | ⟨e, he, w1, hw1, hrun⟩
  · -- all were told
    have hall : ∀ x ∈ ms, x.born ∈ seen := fun x hx => by
      have : leftOf ⟨ms⟩ ⟨seen⟩ = #[] := Array.eq_empty_of_size_eq_zero l0
      unfold leftOf at this
      rw [Array.filter_eq_empty_iff] at this
      have := this x (by simpa using hx)
      simpa using this
    have hle : (borns es).length ≤ seen.length := nodup_sub k4 fun b hb' => by
      rw [← hb] at hb'
      obtain ⟨x, hx, rfl⟩ := List.mem_map.1 hb'
      exact hall x hx
    have hbl : Nat.blt (lenN gs) (lenN (borns es)) = false := by
      rw [← Bool.not_eq_true, blt_iff, lenN_eq, lenN_eq]; omega
    rw [hbl, bsel_false] at hs2
    cases hs2
    refine ⟨μ, w, _, hrun, Post.refl h, ?_⟩
    simp only [vr]
    exact ⟨_, rfl, vrL_cons.2 ⟨by simp only [vr], by simp only [vrL]⟩⟩
  · have hem : e ∈ ms ∧ e.born ∉ seen := by
      unfold leftOf at he
      simp at he
      exact he
    have hlt : seen.length < (borns es).length := by
      have := nodup_sub (l := e.born :: seen) (m := borns es) (List.nodup_cons.2 ⟨hem.2, e5⟩) fun b hb' => by
        rcases List.mem_cons.1 hb' with rfl | hb'
        · rw [← hb]; exact List.mem_map_of_mem hem.1
        · exact seenRel_mem _ _ e6 b hb'
      rw [List.length_cons] at this
      omega
    have hbl : Nat.blt (lenN gs) (lenN (borns es)) = true := by
      rw [blt_iff, lenN_eq, lenN_eq]; omega
    rw [hbl, bsel_true] at hs2
    rcases bsel_some hs2 with ⟨hwm, hs3⟩ | ⟨_, hs3⟩
    case inr => cases hs3
    clear hs2
    rw [ble_iff] at hwm
    cases hs3
    obtain ⟨i, hi⟩ := List.mem_iff_getElem?.1 hem.1
    obtain ⟨x, i1, i2, i3, i4⟩ := entsRel_at f2 hi
    have hn : μ st.next = none := h.fresh _ (Nat.le_refl _)
    have hne : r ≠ st.next := fun e => by rw [e, hn] at hp; cases hp
    have hblk : p.blk < w.heap.size := h.blk r p hp
    have h1 : RS n0 w0 μ st w1 := by
      rcases hw1 with rfl | rfl
      · exact h
      · exact h.drawn _
    have hblk1 : p.blk < w1.heap.size := h1.blk r p hp
    have G := h1.ghost (p := ⟨p.blk, i, 0, 0, 0⟩) hblk1
    have hobn : (newObj st .dead).heap.get r = some (.miter (some (.mk m clock (borns es) gs))) := by rw [newObj_heap, Tr.get_set, if_neg hne]; exact hob
    have hbi : (borns es)[i]? = some e.born := by rw [← hb, List.getElem?_map, hi]; rfl
    have T := G.rs.turn (o := r) (p := p) (ob' := .miter (some (.mk m clock (borns es) (gs ++ [st.next])))) (b := .mapIter (some q.blk) clock ⟨seen ++ [e.born]⟩ clock) (tw := 0)
      (G.ext r p hp) hobn rfl rfl rfl (by rw [newObj_wmin]; exact hwm) (.inl rfl)
      ⟨e1, e2, q, seen ++ [e.born], G.ext m q e3, by rw [setBlk_get hblk1, if_pos rfl], by
          rw [List.nodup_append]
          exact ⟨e5, (by simp), fun a ha b hb' => by rw [List.mem_singleton] at hb'; subst hb'; intro e'; subst e'; exact hem.2 ha⟩,
        seenRel_snoc (p := ⟨p.blk, i, 0, 0, 0⟩) (Mu.add_same _ _ _) hbi _ _ (seenRel_ext G.ext _ _ e6)⟩
    have hst : setHeap (newObj st .dead) (killTwin ((newObj st .dead).heap.set r (.miter (some (.mk m clock (borns es) (gs ++ [st.next]))))) 0) = stepM st r m clock (borns es) gs := by cases st; rfl
    rw [hst] at T
    refine ⟨μ.add st.next ⟨p.blk, i, 0, 0, 0⟩, _, _, hrun, ?_, ?_⟩
    · have hpush : ((⟨seen⟩ : Array Nat).push e.born) = ⟨seen ++ [e.born]⟩ := by apply Array.toList_inj.1; simp
      rw [hpush]
      exact G.trans T
    · obtain ⟨v1, v2⟩ := entry_vr (μ := μ.add st.next ⟨p.blk, i, 0, 0, 0⟩) (r := r) ⟨Mu.add_same _ _ _, p, G.ext r p hp⟩ rfl i1 (vr_ext G.ext _ _ i2) (vr_ext G.ext _ _ i3) k5 k6
      simp only [vr] at v1 v2 ⊢
      exact ⟨_, rfl, vrL_cons.2 ⟨by simp only [vr], vrL_cons.2 ⟨by simp only [vr]; exact v1, vrL_cons.2 ⟨by simp only [vr]; exact v2, by simp only [vrL]⟩⟩⟩⟩

theorem aNextM_sound (h : RS n0 w0 μ st w) {it a : AV} {v : Value} {ty : TypeId} (hs : aNextM st it = some (a, st')) (hv : vr μ it v) :
    ∃ μ' w' u, (Instr.next v false ty).run P w = .ok u w' ∧ Post n0 w0 μ st μ' st' w' ∧ vr μ' a u := by
  unfold aNextM at hs
  split at hs
  · rename_i r
    simp only [vr] at hv
    obtain ⟨p, hp, hk, rfl⟩ := hv
    split at hs
    · rename_i hob
      obtain ⟨e1, e2, x, y, z, e3⟩ := h.obj r p _ hp hob
      have hat : p.at_ 0 = 0 := by simp [Place.at_, e1, e2]
      rw [hat]
      cases hs
      refine ⟨μ, w, .tuple #[.bool false], ?_, Post.refl h, ?_⟩
      · unfold Instr.next
        simp [getObj, Sem.run, e3]
      · simp only [vr]
        exact ⟨_, rfl, vrL_cons.2 ⟨by simp only [vr], by simp only [vrL]⟩⟩
    · rename_i m since bs gs hob
      obtain ⟨e1, e2, q, x, e3, e4, e5, e6⟩ := h.obj r p _ hp hob
      have hat : p.at_ 0 = 0 := by simp [Place.at_, e1, e2]
      rw [hat]
      split at hs
      · rename_i clock hm
        obtain ⟨ms, f1, f2⟩ := h.obj m q _ e3 hm
        have f2 : ms = [] := f2
        subst f2
        cases hs
        refine ⟨μ, w, .tuple #[.bool false], ?_, Post.refl h, ?_⟩
        · unfold Instr.next
          simp [getObj, Sem.run, e4, f1, choose, Question.forced]
        · simp only [vr]
          exact ⟨_, rfl, vrL_cons.2 ⟨by simp only [vr], by simp only [vrL]⟩⟩
      · rename_i es clock _ hm
        exact nextM_sound h hp hob hm hs
      · cases hs
    · cases hs
  · cases hs

theorem aNext_sound (h : RS n0 w0 μ st w) {it a : AV} {v : Value} {ty : TypeId} (hs : aNext st it = some (a, st')) (hv : vr μ it v) :
    ∃ μ' w' u, (Instr.next v true ty).run P w = .ok u w' ∧ Post n0 w0 μ st μ' st' w' ∧ vr μ' a u := by
  unfold aNext at hs
  split at hs
  · rename_i r
    simp only [vr] at hv
    obtain ⟨p, hp, hk, rfl⟩ := hv
    split at hs
    · rename_i s pos hob
      have ho := h.obj r p _ hp hob
      obtain ⟨e1, e2, e3⟩ := ho
      have hat : p.at_ 0 = 0 := by simp [Place.at_, e1, e2]
      rw [hat]
      cases hb : (!(Nat.ble st.wmin r)) with
      | true => rw [hb] at hs; cases hs
      | false =>
        rw [hb] at hs
        simp only [cond_false] at hs
        have hwm : st.wmin ≤ r := by
          rw [Bool.not_eq_false', ble_iff] at hb; exact hb
        cases hlt : Nat.blt pos s.size with
        | true =>
          rw [hlt] at hs
          simp only [cond_true] at hs
          rw [blt_iff] at hlt
          cases hs
          have hblk : p.blk < w.heap.size := h.blk r p hp
          have hturn := h.turn (tw := 0) (ob' := .iter s (Nat.add pos (Utf8.decode s pos).2)) (b := .stringIter s (pos + (Utf8.decode s pos).2)) hp hob rfl rfl rfl hwm (.inl rfl)
            ⟨e1, e2, by rw [setBlk_get hblk, if_pos rfl]; rfl⟩
          refine ⟨μ, _, .tuple #[.bool true, goInt pos, .int .i32 (Utf8.decode s pos).1], ?_, hturn, ?_⟩
          · unfold Instr.next
            simp only []
            rw [run_bind_ok (run_getObj_iter e3)]
            simp only []
            rw [if_pos hlt, run_bind_ok (run_setObj_iter _ e3)]
            rfl
          · simp only [vr]
            exact ⟨_, rfl, vrL_cons.2 ⟨by simp only [vr], vrL_cons.2 ⟨by simp only [vr]; rfl, vrL_cons.2 ⟨by simp only [vr], by simp only [vrL]⟩⟩⟩⟩
        | false =>
          rw [hlt] at hs
          cases hs
          have hge : ¬ pos < s.size := fun g => by rw [blt_iff.2 g] at hlt; cases hlt
          refine ⟨μ, w, .tuple #[.bool false], ?_, Post.refl h, ?_⟩
          · unfold Instr.next
            simp only []
            rw [run_bind_ok (run_getObj_iter e3)]
            simp only []
            rw [if_neg hge]
            rfl
          · simp only [vr]
            exact ⟨_, rfl, vrL_cons.2 ⟨by simp only [vr], by simp only [vrL]⟩⟩
    · cases hs
  · cases hs

theorem aConvert_sound (h : RS n0 w0 μ st w) {sT dT : TypeId} {x a : AV} {v : Value} (hs : aConvert P st dT x = some (a, st')) (hsrc : P.underlying sT = some .string) (hv : vr μ x v) :
    ∃ μ' w' u, (convert sT dT v).run P w = .ok u w' ∧ Post n0 w0 μ st μ' st' w' ∧ vr μ' a u := by
  unfold aConvert at hs
  split at hs
  · rename_i e len code hd
    split at hs
    · rename_i he hsz
      simp only [vr] at hv
      obtain ⟨l, rfl, h1, h2⟩ := hv
      subst h1; subst h2
      have hrun := Lib.run_convert_string_bytes (P := P) w sT dT e ⟨⟨l⟩⟩ hsrc hd he
      unfold growTo at hs
      cases hs
      have hcap := grownCap_ge w l.length 0 e
      have hw : Lib.bytesWorld w e ⟨⟨l⟩⟩ = pushed w.drew (.cells (Lib.bytesCells w e ⟨⟨l⟩⟩) e ((Lib.bytesCells w e ⟨⟨l⟩⟩).size, (Lib.bytesCells w e ⟨⟨l⟩⟩).size + 1)) := by
        have hm : ∀ (a : Array Obj) (x : Obj) (f : Obj → Obj), (a.push x).modify a.size f = a.push (f x) := by
          intro a x f
          apply Array.ext
          · simp
          · intro i h1 h2
            simp only [Array.getElem_modify, Array.getElem_push]
            by_cases h : a.size = i
            · subst h
              simp
            · have hi : i < a.size := by simp at h1; omega
              simp [h, hi]
        unfold Lib.bytesWorld World.freeze
        rw [if_neg (by decide)]
        show ({ w.drew.alloc (.cells _ e) with heap := (w.heap.push (.cells _ e)).modify w.heap.size _ } : World) = _
        rw [hm]
        rfl
      have hlen : (Lib.bytesCells w e ⟨⟨l⟩⟩).size = grownCap w l.length 0 e := by
        have : (⟨⟨l⟩⟩ : ByteArray).size = l.length := rfl
        simp [Lib.bytesCells, this]; omega
      have hp := newCells_sound (vs := strCells l.length (enc l) []) (esz := 1) (cs := Lib.bytesCells w e ⟨⟨l⟩⟩) (el := e) (fr := ((Lib.bytesCells w e ⟨⟨l⟩⟩).size, (Lib.bytesCells w e ⟨⟨l⟩⟩).size + 1)) h.drew
        ⟨fun off h1 h2 => by omega, fun h => by omega, Nat.le_succ _⟩ (by
          have := vrL_length _ _ (strCells_vr (μ := μ) l [] [] (by simp only [vrL]))
          simp at this; omega) fun i a v ha hv' => by
        obtain ⟨v2, h1, h2⟩ := vrL_get _ _ (strCells_vr (μ := μ) l [] [] (by simp only [vrL])) i a ha
        have hi : i < l.length := by simpa using (List.getElem?_eq_some_iff.1 h1).1
        unfold Lib.bytesCells at hv'
        rw [Array.getElem?_append_left (by simpa using hi)] at hv'
        have e3 : (List.map (fun b : UInt8 => Value.int .u8 (Int.ofNat b.toNat)) l)[i]? = some v := by
          rw [← hv']; simp
        rw [List.append_nil] at h1
        rw [h1] at e3; cases e3; exact h2
      refine ⟨_, _, _, hrun, by rw [hw]; exact hp, ?_⟩
      simp only [vr]
      exact ⟨_, grownCap w l.length 0 e, Mu.add_same _ _ _, Nat.zero_le _, rfl, rfl, hcap, (fun e => by cases e), hcap, by simp only [Place.at_, hlen]; omega⟩
    · cases hs
  · cases hs
theorem aMark_sound (h : RS n0 w0 μ st w) {s d : TypeId} {x a : AV} {v : Value} (hs : aMark P st s d x = some (a, st')) (hv : vr μ x v) :
    ∃ μ' w' u, (convert s d v).run P w = .ok u w' ∧ Post n0 w0 μ st μ' st' w' ∧ vr μ' a u := by
  unfold aMark at hs
  split at hs
  case h_2 => cases hs
  rename_i o k len cap kn e
  cases hd : P.underlying d with
  | none => rw [hd] at hs; cases hs
  | some dd =>
    rw [hd] at hs
    cases dd <;> try (cases hs; done)
    rename_i el
    dsimp only at hs
    cases he : P.underlying el with
    | none => rw [he] at hs; cases hs
    | some de =>
      rw [he] at hs
      cases de <;> try (cases hs; done)
      rename_i ik
      cases ik <;> try (cases hs; done)
      dsimp only at hs
      split at hs
      · rename_i c lim esz hob
        obtain ⟨b1, hs⟩ := need_some hs
        obtain ⟨b2, hs⟩ := need_some hs
        obtain ⟨b3, hs⟩ := need_some hs
        cases hs
        rw [beq_iff'] at b1 b2
        rw [ble_iff] at b3
        subst b1; subst b2
        have hv0 := hv
        simp only [vr] at hv
        obtain ⟨p, cc, hp, hlo, rfl, _⟩ := hv
        obtain ⟨cs, ty, fr, g1, g2, g3, g4, g5⟩ := h.obj o p _ hp hob
        have hblk := h.blk o p hp
        have hturn := h.turn (tw := 0) (ob' := .cells c lim 1 false 0) (b := .cells cs ty (markFr fr cs.size)) hp hob rfl rfl rfl b3 (.inl rfl)
          ⟨cs, ty, markFr fr cs.size, by rw [setBlk_get hblk, if_pos rfl], g2, g3, fun _ => markFr_ok (g4 rfl), g5⟩
        refine ⟨μ, _, _, ?_, hturn, hv0⟩
        have hsh : w.shape? p.blk = some (ty, cs.size) := by unfold World.shape?; rw [g1]
        rw [← freeze_blk g1]
        simp [convert, run_underlying hd, run_underlying he, markStringish, hsh]
      · cases hs
theorem aConvA_sound (h : RS n0 w0 μ st w) {s d : TypeId} {x a : AV} {v : Value} (hs : aConvA P st s d x = some (a, st')) (hv : vr μ x v) :
    ∃ μ' w' u, (convert s d v).run P w = .ok u w' ∧ Post n0 w0 μ st μ' st' w' ∧ vr μ' a u := by
  unfold aConvA at hs
  cases hu : P.underlying s with
  | none => rw [hu] at hs; cases hs
  | some ds =>
    rw [hu] at hs
    cases ds <;> first | (cases hs; done) | exact aConvert_sound h hs hu hv | exact aMark_sound h hs hv
end
end Go.Proofs.Ytkccnomdfkhfnaa.Ev
