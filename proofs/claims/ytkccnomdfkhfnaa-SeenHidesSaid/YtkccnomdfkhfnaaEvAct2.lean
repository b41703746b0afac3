/- What functions of the program compute, written down; read off their code. -/
import Derived.Test.YtkccnomdfkhfnaaEvAct
set_option linter.unusedSimpArgs false
set_option linter.unusedVariables false
namespace Go.Proofs.Ytkccnomdfkhfnaa.Ev
open Go.RowKit
section
variable {P : Program} {n0 : Nat} {w0 : World} {μ : Mu} {st st' : St} {w : World}

/-! ### maps -/
theorem run_setObj_map' {r : Nat} {es : Array MapEntry} {clock : Nat} (o : Obj) (hb : w.heap[r]? = some (.map es clock)) : (setObj r o).run P w = .ok () (setBlk w r o) := by
  simp [setObj, Sem.run, hb, setBlk]

theorem aMakeMap_sound (h : RS n0 w0 μ st w) {t : TypeId} {a : AV} (hs : aMakeMap P st t = some (a, st')) :
    ∃ μ' w' v, (Instr.makeMap t none).run P w = .ok v w' ∧ Post n0 w0 μ st μ' st' w' ∧ vr μ' a v := by
  unfold aMakeMap at hs
  split at hs
  · cases hs
    refine ⟨_, _, .map (some w.heap.size), rfl, h.push (p := ⟨w.heap.size, 0, 0, 0, 0⟩) (b := .map #[] 0) rfl fun μ' _ => ⟨[], pushed_new _ _, rfl⟩, ?_⟩
    simp only [vr]
    exact ⟨_, Mu.add_same _ _ _, rfl⟩
  · cases hs

theorem entsRel_snoc {μ : Mu} {e : AV × AV × Nat} {m : MapEntry} (he : entRel μ e m) : ∀ (es : List (AV × AV × Nat)) (ms : List MapEntry), entsRel μ es ms → entsRel μ (es ++ [e]) (ms ++ [m])
  | [], ms, h => by simp only [entsRel] at h; subst h; exact ⟨m, [], rfl, he, rfl⟩
  | x :: es, ms, h => by
    obtain ⟨y, r, rfl, h1, h2⟩ := h
    exact ⟨y, r ++ [m], rfl, h1, entsRel_snoc he es r h2⟩
theorem entsRel_set {μ : Mu} {a : AV} {v : Value} (hv : vr μ a v) : ∀ (es : List (AV × AV × Nat)) (ms : List MapEntry) (i : Nat) (key : Value), entsRel μ es ms → (∀ m, ms[i]? = some m → key = m.key) →
    entsRel μ (mapSet es i a) (ms.modify i fun e => { e with key, val := v })
  | [], ms, i, key, h, _ => by simp only [entsRel] at h; subst h; cases i <;> simp [mapSet, entsRel]
  | x :: es, ms, 0, key, h, hk => by
    obtain ⟨y, r, rfl, ⟨h1, h2, h3⟩, h4⟩ := h
    have := hk y (by simp)
    subst this
    exact ⟨_, r, rfl, ⟨h1, hv, h3⟩, h4⟩
  | x :: es, ms, i + 1, key, h, hk => by
    obtain ⟨y, r, rfl, h1, h2⟩ := h
    refine ⟨y, _, by rw [List.modify_succ_cons], h1, entsRel_set hv es r i key h2 fun m hm => hk m (by simpa using hm)⟩

/-- a key that is there stays, or its like, which is it -/
theorem run_keyThatStays {μ : Mu} {kt : TypeId} {d : TypeDesc} {key : AV} {kv k' : Value} (hd : P.underlying kt = some d) (hp : plainKey P kt key = true) (hk : vr μ key kv) (hs : Instr.sameNow d kv k' = some true) (w : World) :
    (Instr.keyThatStays k' kv).run P w = .ok kv w ∧ kv = k' := by
  have hb : ∀ n, Instr.sameBits n k' kv = true ∧ kv = k' := by
    intro n
    unfold plainKey at hp
    rw [hd] at hp
    split at hp
    · rename_i hd'
      cases hd'
      simp only [vr] at hk; subst hk
      cases k' <;> simp [Instr.sameNow] at hs
      obtain ⟨rfl, rfl⟩ := hs
      cases n <;> simp [Instr.sameBits]
    · rename_i hd'
      cases hd'
      obtain ⟨x, rfl, _, _⟩ := vr_s.1 hk
      cases k' <;> simp [Instr.sameNow] at hs
      rw [Go.MapKept.bytes_beq] at hs
      subst hs
      refine ⟨?_, rfl⟩
      cases n <;> (simp only [Instr.sameBits]; rw [Go.MapKept.bytes_beq])
    · cases hp
  refine ⟨?_, (hb 0).2⟩
  unfold Instr.keyThatStays
  rw [if_pos (hb 10000).1]
  rfl

theorem aMapUpdate_sound (h : RS n0 w0 μ st w) {t : TypeId} {m key x : AV} {v kv u : Value} (hs : aMapUpdate P st t m key x = some st') (hm : vr μ m v) (hk : vr μ key kv) (hx : vr μ x u) :
    ∃ w', (Instr.mapUpdate t v kv u).run P w = .ok () w' ∧ Post n0 w0 μ st μ st' w' := by
  unfold aMapUpdate at hs
  split at hs
  · rename_i kt et hu
    cases hp : plainKey P kt key with
    | false => rw [hp] at hs; cases hs
    | true =>
      rw [hp] at hs
      simp only [cond_true] at hs
      split at hs
      · rename_i r
        split at hs
        · rename_i es clock hr
          cases hw : Nat.ble st.wmin r with
          | false => rw [hw] at hs; cases hs
          | true =>
            rw [hw] at hs
            simp only [Bool.not_true, cond_false] at hs
            rw [ble_iff] at hw
            simp only [vr] at hm
            obtain ⟨p, hp1, rfl⟩ := hm
            obtain ⟨ms, g1, g2⟩ := h.obj r p _ hp1 hr
            obtain ⟨c1, d, hd⟩ := run_checkKey' hp hk false w
            have hblk := h.blk r p hp1
            have start : ∀ K, (Instr.mapUpdate t (.map (some p.blk)) kv u).run P w = K → True := fun _ _ => trivial
            have turn : ∀ (ob' : AObj) (b : Obj), ORel μ p ob' (setBlk w p.blk b).heap → (ob'.live = true → ob'.free = true) → Post n0 w0 μ st μ (setHeap st (st.heap.set r ob')) (setBlk w p.blk b) := fun ob' b ho hf' =>
              h.turn (tw := 0) hp1 hr rfl rfl rfl hw (.inl rfl) ho hf'
            split at hs
            · rename_i i a' hf
              cases hs
              obtain ⟨v', m', q1, q2, _, q4, q5, q6⟩ := aFind_sound hd hp hk es ms 0 _ hf g2
              obtain ⟨s1, s2⟩ := run_keyThatStays hd hp hk q6 w
              have q4' : ms[i]? = some m' := by simpa using q4
              refine ⟨setBlk w p.blk (.map ((⟨ms⟩ : Array MapEntry).modify i fun e => { e with key := kv, val := u }) clock), ?_, turn _ _ ?_ (fun _ => rfl)⟩
              · unfold Instr.mapUpdate
                rw [run_bind_ok (run_underlying hu w)]
                simp only []
                rw [run_bind_ok (run_getObj_map' g1)]
                simp only []
                rw [run_bind_ok c1, run_bind_ok (run_findKey' hd q1)]
                simp only []
                have e1 : ((((⟨ms⟩ : Array MapEntry)[i]?).map (·.key)).getD kv) = m'.key := by
                  rw [show (⟨ms⟩ : Array MapEntry)[i]? = some m' from by simpa using q4']; rfl
                rw [e1, run_bind_ok s1]
                exact run_setObj_map' _ g1
              · refine ⟨ms.modify i fun e => { e with key := kv, val := u }, ?_, entsRel_set hx es ms i kv g2 fun m hm => ?_⟩
                · rw [setBlk_get hblk, if_pos rfl]
                  congr 2
                  apply Array.toList_inj.1
                  simp
                · rw [q4'] at hm; cases hm; exact s2
            · rename_i hf
              cases hs
              have q1 := aFind_sound hd hp hk es ms 0 _ hf g2
              refine ⟨setBlk w p.blk (.map ((⟨ms⟩ : Array MapEntry).push { key := kv, val := u, born := clock }) (clock + 1)), ?_, turn _ _ ?_ (fun _ => rfl)⟩
              · unfold Instr.mapUpdate
                rw [run_bind_ok (run_underlying hu w)]
                simp only []
                rw [run_bind_ok (run_getObj_map' g1)]
                simp only []
                rw [run_bind_ok c1, run_bind_ok (run_findKey' hd q1)]
                exact run_setObj_map' _ g1
              · refine ⟨ms ++ [{ key := kv, val := u, born := clock }], ?_, entsRel_snoc ⟨hk, hx, rfl⟩ es ms g2⟩
                rw [setBlk_get hblk, if_pos rfl]
                congr 2
                apply Array.toList_inj.1
                simp
            · cases hs
        · cases hs
      · cases hs
  · cases hs

end
end Go.Proofs.Ytkccnomdfkhfnaa.Ev
