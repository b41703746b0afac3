/- What functions of the program compute, written down; read off their code. -/
import Derived.Test.YtkccnomdfkhfnaaEvAct3
set_option linter.unusedSimpArgs false
set_option linter.unusedVariables false
namespace Go.Proofs.Ytkccnomdfkhfnaa.Ev
open Go.RowKit
section
variable {P : Program} {n0 : Nat} {w0 : World} {μ : Mu} {st st' : St} {w : World}

/-- what append does, where what is appended is told -/
structure AppAt (P : Program) (μ : Mu) (t xt ty e : TypeId) (i : TypeInfo) (z x : Value) (n : Nat) (new : List AV) (w : World) : Prop where
  nothing : n = 0 → ∀ base sLen sCap, sLen ≤ sCap → (Builtin.append_ #[t, xt] ty #[.slice base sLen sCap, x]).run P w = .ok (.slice base sLen sCap) w
  fits : 0 < n → n * i.bytes ≤ 281474976710656 → ∃ ys, vrL μ new ys ∧ ∀ a sLen sCap w', sLen + n ≤ sCap → (storeCells (Addr.add a (sLen * i.size)) ys).run P w = .ok () w' →
    (Builtin.append_ #[t, xt] ty #[.slice (some a) sLen sCap, x]).run P w = .ok (.slice (some a) (sLen + n) sCap) w'
  grows : 0 < n → n * i.bytes ≤ 281474976710656 → ∃ ys, vrL μ new ys ∧ ∀ base sLen sCap (os : List Value), ¬ sLen + n ≤ sCap → ((sLen + n : Nat) : Int) ≤ 9223372036854775807 →
    Builtin.nextslicecap (sLen + n) sCap * i.bytes ≤ 281474976710656 → (Builtin.firstCells i.size sLen (.slice base sLen sCap)).run P w.drew = .ok os.toArray w.drew →
    (Builtin.append_ #[t, xt] ty #[.slice base sLen sCap, x]).run P w =
      .ok (.slice (some ⟨w.heap.size, 0, none⟩) (sLen + n) (grownCap w (sLen + n) sCap e)) (w.drew.alloc (.cells (os.toArray ++ ys.toArray ++ Builtin.zeroCells z.cells (grownCap w (sLen + n) sCap e - (sLen + n))) e))

theorem RS.drew (h : RS n0 w0 μ st w) : RS n0 w0 μ st w.drew := h.drawn _

theorem lenOf_sound {x : AV} {v : Value} {n : Nat} (h : aLenOf x = some n) (hv : vr μ x v) : Builtin.lenOf v = pure n := by
  unfold aLenOf at h
  split at h
  · cases h; simp only [vr] at hv; obtain ⟨p, c, _, _, rfl, _⟩ := hv; rfl
  · cases h; simp only [vr] at hv; obtain ⟨p, c, off, _, rfl⟩ := hv; rfl
  · cases h; simp only [vr] at hv; subst hv; rfl
  · cases h; simp only [vr] at hv; obtain ⟨l, rfl, h1, _⟩ := hv; rw [← h1]; rfl
  · cases h

theorem strCells_vr : ∀ (l : List UInt8) (acc : List AV) (vs : List Value), vrL μ acc vs → vrL μ (strCells l.length (enc l) acc) (l.map (fun b => Value.int .u8 (Int.ofNat b.toNat)) ++ vs) := by
  intro l
  induction hn : l.length generalizing l with
  | zero => intro acc vs h; have : l = [] := List.eq_nil_of_length_eq_zero hn; subst this; simpa [strCells] using h
  | succ n ih =>
    intro acc vs h
    obtain ⟨l', b, rfl⟩ : ∃ l' b, l = l' ++ [b] := ⟨l.dropLast, l.getLast (by intro e; subst e; simp at hn), by rw [List.dropLast_concat_getLast]⟩
    have hl : l'.length = n := by simpa using hn
    have e1 : enc (l' ++ [b]) = enc l' * 256 + b.toNat := by simp [enc]
    have hb : b.toNat < 256 := b.toNat_lt
    rw [strCells, e1]
    have e2 : Nat.div (enc l' * 256 + b.toNat) 256 = enc l' := by show (enc l' * 256 + b.toNat) / 256 = _; omega
    have e3 : Nat.mod (enc l' * 256 + b.toNat) 256 = b.toNat := by show (enc l' * 256 + b.toNat) % 256 = _; omega
    rw [e2, e3]
    have := ih l' hl (.i .u8 (.ofNat b.toNat) :: acc) (.int .u8 (.ofNat b.toNat) :: vs) (vrL_cons.2 ⟨by simp only [vr], h⟩)
    simpa using this

/-- the first elements of what is appended or copied -/
theorem aCells_sound (h : RS n0 w0 μ st w) {size n : Nat} {x : AV} {l : List AV} {v : Value} (hs : aCells st size n x = some l) (hv : vr μ x v) :
    ∃ ys, (Builtin.firstCells size n v).run P w = .ok ⟨ys⟩ w ∧ vrL μ l ys := by
  unfold aCells at hs
  split at hs
  · simp only [vr] at hv
    obtain ⟨p, c, hp, hk, rfl, _⟩ := hv
    exact ldCells_sound h hs hp hk
  · simp only [vr] at hv
    obtain ⟨p, c, off, hp, rfl⟩ := hv
    cases hb : Nat.beq n 0 with
    | false => rw [hb] at hs; cases hs
    | true =>
      rw [hb] at hs; cases hs
      rw [beq_iff'] at hb; subst hb
      exact ⟨[], by simp [Builtin.firstCells, loadCells, loadCellsFrom], by simp only [vrL]⟩
  · simp only [vr] at hv
    subst hv
    cases hb : Nat.beq n 0 with
    | false => rw [hb] at hs; cases hs
    | true => rw [hb] at hs; cases hs; exact ⟨[], rfl, by simp only [vrL]⟩
  · simp only [vr] at hv
    obtain ⟨b, rfl, h1, h2⟩ := hv
    cases hs
    subst h1; subst h2
    refine ⟨(b.take n).map fun b => Value.int .u8 (Int.ofNat b.toNat), ?_, ?_⟩
    · unfold Builtin.firstCells
      rw [run_pure]
      congr 1
      apply Array.toList_inj.1
      simp [ByteArray.extract, ByteArray.copySlice]
      try rfl
    · have := vrL_take n _ _ (strCells_vr (μ := μ) b [] [] (by simp only [vrL]))
      simpa [List.map_take] using this
  · cases hs


theorem ldCells_len {o k n : Nat} {l : List AV} (h : ldCells st o k n = some l) : l.length = n := by
  unfold ldCells at h
  obtain ⟨ob, _, h⟩ := obind_elim h
  cases ob with
  | cells c lim esz ro tw =>
    dsimp only at h
    rcases bsel_some h with ⟨_, h⟩ | ⟨_, h⟩
    · cases h; exact rd_length _ _ _
    · cases h
  | map es clock => cases h
  | iter s pos => cases h
  | dead => cases h
  | miter m => cases h
theorem aCells_zero {size : Nat} {x : AV} {l : List AV} (h : aCells st size 0 x = some l) : l = [] := by
  unfold aCells at h
  split at h
  · exact List.eq_nil_of_length_eq_zero (by rw [ldCells_len h]; simp)
  · cases h; rfl
  · cases h; rfl
  · cases h; simp
  · cases h

theorem appX_at (h : RS n0 w0 μ st w) {t xt ty e : TypeId} {i : TypeInfo} {z : Value} {dx : TypeDesc} {x : AV} {v : Value} {n size : Nat} {new : List AV} (ht : P.underlying t = some (.slice e)) (hi : P.info? e = some i) (hz : i.zero = some z)
    (hx : P.underlying xt = some dx) (hnz : dx = .string ∨ ∃ e', dx = .slice e') (hsz : i.size = size) (hl : aLenOf x = some n) (hc : aCells st size n x = some new) (hv : vr μ x v) : AppAt P μ t xt ty e i z v n new w := by
  have hn := lenOf_sound hl hv
  obtain ⟨ys, g1, g2⟩ := aCells_sound (P := P) h hc hv
  obtain ⟨ys', g1', g2'⟩ := aCells_sound (P := P) h.drew hc hv
  subst hsz
  refine ⟨fun h0 base sLen sCap hle => ?_, fun _ _ => ⟨ys, g2, fun a sLen sCap w' hroom hst => app_fits ht hi hx hnz hn hroom g1 hst⟩,
    fun _ _ => ⟨ys', g2', fun base sLen sCap os hg h63 hfit hfo => app_grows ht hi hz hx hnz hn hg h63 hfit hfo g1'⟩⟩
  subst h0
  have := aCells_zero hc
  subst this
  simp only [vrL] at g2
  subst g2
  exact app_none ht hi hx hnz hn hle g1 base

theorem zeroCells_eq (z : Value) (n : Nat) (hs : 0 < z.cells.size) : Builtin.zeroCells z.cells n = ⟨repL z.cells.toList n⟩ := by
  unfold Builtin.zeroCells
  exact range_rep z.cells n hs

theorem app0_at {t xt ty e : TypeId} {i : TypeInfo} {z : Value} {kd k : IntKind} {n : Nat} {za : AV} (ht : P.underlying t = some (.slice e)) (hi : P.info? e = some i) (hz : i.zero = some z)
    (hx : P.underlying xt = some (.int kd)) (hn : n ≤ 1048576) (hs : 0 < z.cells.size) (hsz : i.size = z.cells.size) (hza : vrL μ (acells za) z.cells.toList) : AppAt P μ t xt ty e i z (.int k (Int.ofNat n)) n (zerosOf (acells za) n) w := by
  have hw : IntKind.i64.wrap (Int.ofNat n) = Int.ofNat n := by
    rw [← wrapI_eq]; unfold wrapI; simp only []
    rw [show Nat.blt n 9223372036854775808 = true from blt_iff.2 (by omega)]; rfl
  have hrel := zerosOf_vr hza n
  have h0 : 0 < n → n * i.size ≠ 0 := fun h => by rw [hsz]; exact Nat.ne_of_gt (Nat.mul_pos h hs)
  refine ⟨fun h0 base sLen sCap hle => ?_, fun hp hb => ⟨_, hrel, fun a sLen sCap w' hroom hst => ?_⟩, fun hp hb => ⟨_, hrel, fun base sLen sCap os hg h63 hfit hfo => ?_⟩⟩
  · subst h0
    exact app_none0 ht hi hx hle base fun a _ => by simp [storeCells]
  · refine app_fits0 ht hi hz hx hw hb hroom (h0 hp) ?_
    rw [zeroCells_eq z n hs]; exact hst
  · have := app_grows0 (ty := ty) (k := k) ht hi hz hx hw hb (h0 hp) hg h63 hfit hfo
    rw [this, zeroCells_eq z n hs]

/-- a new row: what is known of it, and more behind -/
theorem growTo_sound (h : RS n0 w0 μ st w) {e : TypeId} {z : Value} {size m cap : Nat} {vs : List AV} {xs : List Value} {a : AV} (hs : growTo st vs size m = some (a, st')) (hv : vrL μ vs xs) (hlen : vs.length = m * size)
    (hz : z.cells.size = size) (hcap : m ≤ cap) :
    ∃ μ', Post n0 w0 μ st μ' st' (w.drew.alloc (.cells (xs.toArray ++ Builtin.zeroCells z.cells (cap - m)) e)) ∧ vr μ' a (.slice (some ⟨w.heap.size, 0, none⟩) m cap) := by
  unfold growTo at hs
  cases hs
  have hl := vrL_length _ _ hv
  have hsize : (xs.toArray ++ Builtin.zeroCells z.cells (cap - m)).size = cap * size := by
    have : (cap - m) * size + m * size = cap * size := by rw [← Nat.add_mul, Nat.sub_add_cancel hcap]
    simp [size_zeroCells, hl, hlen, hz]; omega
  have hp := newCells_sound (vs := vs) (esz := size) (cs := xs.toArray ++ Builtin.zeroCells z.cells (cap - m)) (el := e) (fr := (0, 0)) h.drew (noFrz_none _ _) (by simp [hl]) fun i a v ha hv' => by
    obtain ⟨v2, h1, h2⟩ := vrL_get _ _ hv i a ha
    have hi : i < xs.length := (List.getElem?_eq_some_iff.1 h1).1
    rw [Array.getElem?_append_left (by simpa using hi)] at hv'
    simp at hv'
    rw [h1] at hv'; cases hv'; exact h2
  refine ⟨_, hp, ?_⟩
  simp only [vr]
  exact ⟨_, cap, Mu.add_same _ _ _, Nat.zero_le _, rfl, rfl, hcap, (fun e => by cases e), hcap, by simp only [Place.at_, hsize]; omega⟩

theorem growShare_eq (st : St) (o : Nat) (c : Tr AV) (lim esz tw : Nat) (c' : Tr AV) (lim' : Nat) : growShare st o c lim esz tw c' lim' =
    .mk (((killTwin st.heap tw).set o (.cells c lim esz false (Nat.succ st.next))).set st.next (.cells c' lim' esz false (Nat.succ o))) (Nat.succ st.next) st.wmin st.x := by cases st; rfl

/-- the cells known before, told again of the reader's world -/
theorem rd_read (h : RS n0 w0 μ st w) {o k n : Nat} {p : Place} {c : Tr AV} {lim esz tw : Nat} {ro : Bool} (hp : μ o = some p) (hk : p.lo ≤ k) (hob : st.heap.get o = some (.cells c lim esz ro tw)) (hn : k + n ≤ lim) :
    ∃ xs, (loadCells ⟨p.blk, p.at_ k, none⟩ n).run P w = .ok ⟨xs⟩ w ∧ vrL μ (rd c k n) xs := by
  refine ldCells_sound h (l := rd c k n) (o := o) (n := n) ?_ hp hk
  unfold ldCells
  rw [hob, obind_some]
  show bsel (Nat.ble (Nat.add k n) lim) (some (rd c k n)) (bad 1) = _
  rw [show Nat.ble (Nat.add k n) lim = true from ble_iff.2 hn, bsel_true]

theorem aAppendCells_sound (h : RS n0 w0 μ st w) {t xt ty e : TypeId} {i : TypeInfo} {z x sv : Value} {n size : Nat} {new : List AV} {s a : AV} (hi : P.info? e = some i)
    (hsz : i.size = size) (hzs : z.cells.size = size) (happ : AppAt P μ t xt ty e i z x n new w) (hlen : new.length = n * size)
    (hs : aAppendCells P st e size s new n = some (a, st')) (hv : vr μ s sv) :
    ∃ μ' w' v, (Builtin.append_ #[t, xt] ty #[sv, x]).run P w = .ok v w' ∧ Post n0 w0 μ st μ' st' w' ∧ vr μ' a v := by
  have hby : P.bytesOf e = i.bytes := by simp [Program.bytesOf, hi]
  unfold aAppendCells at hs
  split at hs
  · -- of nil
    simp only [vr] at hv; subst hv
    rcases bsel_some hs with ⟨hb, hs⟩ | ⟨hb, hs⟩
    · cases hs
      rw [beq_iff'] at hb
      exact ⟨μ, w, _, happ.nothing hb none 0 0 (Nat.le_refl _), Post.refl h, by simp only [vr]⟩
    · have hn : 0 < n := by rcases Nat.eq_zero_or_pos n with e | e <;> first | (rw [e] at hb; cases hb; done) | exact e
      obtain ⟨c1, hs⟩ := need_some hs
      obtain ⟨c2, hs⟩ := need_some hs
      rw [ble_iff] at c1
      rw [ble_iff, mul_eq', hby] at c2
      obtain ⟨ys, g1, g2⟩ := happ.grows hn (by omega)
      have hfit := growslice_fits (need := 0 + n) (old := 0) (bytes := i.bytes) (by omega) (by rw [Nat.zero_add]; omega)
      have hrun := g2 none 0 0 [] (by omega) (by omega) hfit rfl
      have hc := grownCap_ge w (0 + n) 0 e
      rw [Nat.zero_add] at hrun hc
      obtain ⟨μ', p1, p2⟩ := growTo_sound (e := e) (z := z) h hs g1 hlen hzs hc
      refine ⟨μ', _, _, hrun, ?_, p2⟩
      simpa using p1
  · -- of a row
    rename_i o k len cap kn size'
    simp only [vr] at hv
    obtain ⟨p, c, hp, hk, rfl, hpe, hcap, hkn, hlc, hroom⟩ := hv
    obtain ⟨c1, hs⟩ := need_some hs
    obtain ⟨c2, hs⟩ := need_some hs
    obtain ⟨c3, hs⟩ := need_some hs
    rw [beq_iff'] at c1
    rw [ble_iff, add_eq'] at c2
    rw [ble_iff, mul_eq', add_eq', hby] at c3
    subst c1
    have hnb : n * i.bytes ≤ 281474976710656 := by rw [Nat.add_mul] at c3; omega
    -- the new elements' place
    have hk0 : p.lo ≤ k + len * size' := by omega
    have hat : (⟨p.blk, p.at_ k, none⟩ : Addr).add (len * i.size) = ⟨p.blk, p.at_ (k + len * size'), none⟩ := by rw [add_off, hsz, p.at_add hk]
    have hfitsz : len + n ≤ c → p.at_ (k + len * size') + n * size' ≤ p.size := fun hle => by
      have h1 : (len + n) * size' ≤ c * size' := Nat.mul_le_mul_right _ hle
      rw [Nat.add_mul] at h1
      rw [p.at_add hk]; omega
    -- it does not fit
    have hgrow : ¬ len + n ≤ c → ∀ {lim esz tw : Nat} {ro : Bool} {cc : Tr AV}, st.heap.get o = some (.cells cc lim esz ro tw) → k + len * size' ≤ lim →
        ∃ os ys, vrL μ (rd cc k (len * size')) os ∧ vrL μ new ys ∧ (Builtin.append_ #[t, xt] ty #[.slice (some ⟨p.blk, p.at_ k, none⟩) len c, x]).run P w =
          .ok (.slice (some ⟨w.heap.size, 0, none⟩) (len + n) (grownCap w (len + n) c e)) (w.drew.alloc (.cells ((os ++ ys).toArray ++ Builtin.zeroCells z.cells (grownCap w (len + n) c e - (len + n))) e)) := fun hg {lim esz tw ro cc} hob hlim => by
      have hn : 0 < n := by omega
      obtain ⟨ys, g1, g2⟩ := happ.grows hn hnb
      obtain ⟨os, o1, o2⟩ := rd_read (P := P) h.drew hp hk hob hlim
      have hfit := growslice_fits (need := len + n) (old := c) (bytes := i.bytes) (by omega) (by omega)
      refine ⟨os, ys, o2, g1, ?_⟩
      have := g2 (some ⟨p.blk, p.at_ k, none⟩) len c os hg (by omega) hfit (by rw [hsz]; exact o1)
      rw [this]
      simp
    rcases bsel_some hs with ⟨hb, hs⟩ | ⟨hb, hs⟩
    · -- it fits
      rw [ble_iff, add_eq'] at hb
      unfold appendIn at hs
      rcases bsel_some hs with ⟨h0, hs⟩ | ⟨h0, hs⟩
      · cases hs
        rw [beq_iff'] at h0
        refine ⟨μ, w, _, happ.nothing h0 _ len c hlc, Post.refl h, ?_⟩
        simp only [vr]
        exact ⟨p, c, hp, hk, rfl, hpe, hcap, hkn, hlc, hroom⟩
      · have hn : 0 < n := by rcases Nat.eq_zero_or_pos n with e | e <;> first | (rw [e] at h0; cases h0; done) | exact e
        obtain ⟨ob, hob, hs⟩ := obind_elim hs
        unfold appendIn1 at hs
        split at hs
        · rename_i cc lim esz tw
          obtain ⟨d1, hs⟩ := need_some hs
          obtain ⟨d2, hs⟩ := need_some hs
          obtain ⟨d3, hs⟩ := need_some hs
          obtain ⟨d4, hs⟩ := need_some hs
          cases hs
          rw [ble_iff, add_eq', mul_eq'] at d1
          rw [ble_iff] at d3
          rw [twinOk_iff] at d4
          obtain ⟨ys, g1, g2⟩ := happ.fits hn hnb
          have hl := vrL_length _ _ g1
          obtain ⟨b, r1, r2, _⟩ := store_app (P := P) h hp hob hk0 d1 g1 d2 (by rw [hl, hlen]; exact hfitsz (by omega))
          have hturn := h.turn (tw := tw) hp hob rfl rfl rfl d3 d4 (by
            have := r2 0
            rw [hlen] at this
            exact this)
          refine ⟨μ, _, _, g2 _ len c _ (by omega) (by rw [hat]; exact r1), hturn, ?_⟩
          simp only [vr]
          exact ⟨p, c, hp, hk, rfl, hpe, hcap, hkn, by simp only [add_eq']; omega, hroom⟩
        · cases hs
    · -- it does not fit, or may not
      have hb' : cap < len + n := by
        rcases Nat.lt_or_ge cap (len + n) with h1 | h1
        · exact h1
        · rw [show Nat.ble (Nat.add len n) cap = true from ble_iff.2 h1] at hb; cases hb
      unfold appendNew at hs
      obtain ⟨ob, hob, hs⟩ := obind_elim hs
      unfold appendNew1 at hs
      split at hs
      · rename_i cc lim esz ro tw
        obtain ⟨d1, hs⟩ := need_some hs
        rw [ble_iff, add_eq', mul_eq'] at d1
        rcases bsel_some hs with ⟨hkt, hs⟩ | ⟨_, hs⟩
        · -- the capacity is known
          have hg : ¬ len + n ≤ c := by rw [hkn hkt]; omega
          obtain ⟨os, ys, o1, o2, hrun⟩ := hgrow hg hob d1
          rw [appA_eq] at hs
          obtain ⟨μ', p1, p2⟩ := growTo_sound (e := e) (z := z) h hs (vrL_app _ _ _ _ o1 o2) (by simp [rd_length, hlen, Nat.add_mul]) hzs (grownCap_ge w (len + n) c e)
          exact ⟨μ', _, _, hrun, p1, p2⟩
        · unfold appendShare at hs
          have hro : ro = false := by
            obtain ⟨e1, _⟩ := need_some hs
            cases ro with
            | true => cases e1
            | false => rfl
          subst hro
          obtain ⟨_, hs⟩ := need_some hs
          obtain ⟨e2, hs⟩ := need_some hs
          obtain ⟨e3, hs⟩ := need_some hs
          obtain ⟨e4, hs⟩ := need_some hs
          obtain ⟨e5, hs⟩ := need_some hs
          obtain ⟨e6, hs⟩ := need_some hs
          obtain ⟨e7, hs⟩ := need_some hs
          cases hs
          rw [beq_iff'] at e2
          rw [ble_iff] at e3 e5
          rw [twinOk_iff] at e6
          subst e2
          rw [Nat.zero_add] at d1
          have hlo : p.lo = 0 := by omega
          have hmin : Nat.min lim (Nat.mul len size') = len * size' := by rw [mul_eq']; exact Nat.min_eq_right d1
          have hobj := h.obj o p _ hp hob
          obtain ⟨cs0, el0, fr0, q1, q2, q3, q4, q5⟩ := hobj
          have hon : o < st.next := by
            rcases Nat.lt_or_ge o st.next with h1 | h1
            · exact h1
            · rw [h.fresh o h1] at hp; cases hp
          have hne7 : tw ≠ o + 1 := fun e => by
            rw [show Nat.beq tw (Nat.succ o) = true from beq_iff'.2 e] at e7; cases e7
          have hstEq : ∀ (ob1 ob2 : AObj) (a : Nat), (((killTwin (st.heap.set o ob1) tw).set o ob2).set st.next (.cells (wr cc (Nat.mul len size') new) (Nat.add (Nat.mul len size') (Nat.mul n size')) esz false (Nat.succ o))).get a =
              (((killTwin st.heap tw).set o ob2).set st.next (.cells (wr cc (Nat.mul len size') new) (Nat.add (Nat.mul len size') (Nat.mul n size')) esz false (Nat.succ o))).get a := fun ob1 ob2 a => by
            rw [Tr.get_set, Tr.get_set, Tr.get_set, Tr.get_set, killTwin_get, killTwin_get, Tr.get_set]
            by_cases g1 : a = st.next
            · rw [if_pos g1, if_pos g1]
            · rw [if_neg g1, if_neg g1]
              by_cases g2 : a = o
              · rw [if_pos g2, if_pos g2]
              · rw [if_neg g2, if_neg g2, if_neg g2]
          have hget2 : (setHeap st (killTwin (st.heap.set o (.cells cc (len * size') esz false 0)) tw)).heap.get o = some (.cells cc (len * size') esz false 0) := by
            rw [setHeap_heap, killTwin_get, Tr.get_set_same, if_neg hne7]
          by_cases hfit : len + n ≤ c
          · -- in place
            obtain ⟨ys, g1, g2⟩ := happ.fits e3 hnb
            have hl := vrL_length _ _ g1
            rw [Nat.zero_add] at hk0 hat hfitsz
            obtain ⟨b, r1, r2, r3⟩ := store_app (P := P) h (k0 := len * size') hp hob hk0 d1 g1 e4 (by rw [hl, hlen]; exact hfitsz hfit)
            have hturn := h.turn (tw := tw) hp hob rfl rfl rfl e5 e6 (r3 0)
            have htw := hturn.rs.twin (q := p) (c2 := wr cc (len * size') new) (lim2 := len * size' + n * size') (esz2 := esz) hp hget2 (by rw [setHeap_wmin]; exact e5) rfl (by
              have hx : Ext μ (μ.add (setHeap st (killTwin (st.heap.set o (.cells cc (len * size') esz false 0)) tw)).next p) := Mu.add_ext _ (by rw [setHeap_next]; exact h.fresh _ (Nat.le_refl _))
              refine ORel_ext hx (ORel_lim (r2 (o + 1)) ?_)
              rw [hlen]; exact Nat.le_max_right _ _)
            have hall := (hturn.trans htw).congr (b := growShare st o cc (Nat.min lim (Nat.mul len size')) esz tw (wr cc (Nat.mul len size') new) (Nat.add (Nat.mul len size') (Nat.mul n size'))) (by
              rw [growShare_eq, hmin]
              refine ⟨fun a => ?_, by rw [setHeap_next], by rw [setHeap_wmin], by simp only [setHeap_x]⟩
              rw [setHeap_heap, setHeap_next]
              exact hstEq _ _ a)
            refine ⟨_, _, _, g2 _ len c _ hfit (by rw [hat]; exact r1), hall, ?_⟩
            simp only [vr]
            exact ⟨p, c, by rw [setHeap_next]; exact Mu.add_same _ _ _, Nat.le_of_eq hlo, rfl, hpe, hfit, (fun e => by cases e), hfit, hroom⟩
          · -- a new row
            obtain ⟨os, ys, o1, o2, hrun⟩ := hgrow hfit hob (by omega)
            have hself := setBlk_self q1
            have hturn := h.turn (tw := tw) (ob' := .cells cc (len * size') esz false 0) (b := .cells cs0 el0 fr0) hp hob rfl rfl rfl e5 e6 (by rw [hself]; exact ORel_lim (tw := tw) ⟨cs0, el0, fr0, q1, q2, q3, q4, q5⟩ d1)
            rw [hself] at hturn
            have hd := hturn.rs.drew
            have hl1 : os.length = len * size' := by rw [vrL_length _ _ o1, rd_length]
            have hl2 : ys.length = n * size' := by rw [vrL_length _ _ o2, hlen]
            have hcap2 := grownCap_ge w (len + n) c e
            have hsize : ((os ++ ys).toArray ++ Builtin.zeroCells z.cells (grownCap w (len + n) c e - (len + n))).size = grownCap w (len + n) c e * size' := by
              have h1 : (grownCap w (len + n) c e - (len + n)) * size' + (len + n) * size' = grownCap w (len + n) c e * size' := by rw [← Nat.add_mul, Nat.sub_add_cancel hcap2]
              have h2 : (len + n) * size' = len * size' + n * size' := Nat.add_mul _ _ _
              simp [size_zeroCells, hl1, hl2, hzs]; omega
            have hpush := hd.push (p := ⟨w.heap.size, 0, 0, size', grownCap w (len + n) c e * size'⟩) (ob := .cells (wr cc (len * size') new) (len * size' + n * size') esz false (o + 1))
              (b := .cells ((os ++ ys).toArray ++ Builtin.zeroCells z.cells (grownCap w (len + n) c e - (len + n))) e) rfl (fun μ' hx => by
                refine ⟨_, e, (0, 0), pushed_new _ _, hsize, by rw [q3, hpe], fun _ => noFrz_none _ _, fun j _ hj => ?_⟩
                have e0 : (⟨w.heap.size, 0, 0, size', grownCap w (len + n) c e * size'⟩ : Place).at_ j = j := by simp [Place.at_]
                have hrel := vrL_app _ _ _ _ o1 o2
                have hjl : j < (os ++ ys).length := by simp [hl1, hl2]; exact hj
                have ha : (rd cc 0 (len * size') ++ new)[j]? = some (((wr cc (len * size') new).get j).getD .top) := by
                  rw [wr_get]
                  by_cases g : j < len * size'
                  · rw [List.getElem?_append_left (by rw [rd_length]; exact g), rd_get _ _ _ _ g, Nat.zero_add, if_neg (by omega)]
                  · have hjn : j - len * size' < new.length := by rw [hlen]; omega
                    rw [List.getElem?_append_right (by rw [rd_length]; omega), rd_length, if_pos (by omega), List.getElem?_eq_getElem hjn]; rfl
                obtain ⟨v, v1, v2⟩ := vrL_get _ _ hrel j _ ha
                refine ⟨v, ?_, vr_ext hx _ _ v2⟩
                rw [e0, Array.getElem?_append_left (by simpa using hjl)]
                simpa using v1)
            have hnx : (setHeap st (killTwin (st.heap.set o (.cells cc (len * size') esz false 0)) tw)).next = st.next := setHeap_next _ _
            have hre := hpush.rs.retwin (o := o) (tw := st.next + 1) (c := cc) (lim := len * size') (esz := esz) (by
              rw [newObj_heap, Tr.get_set_ne _ _ (by rw [hnx]; omega)]; exact hget2) (by rw [newObj_wmin, setHeap_wmin]; exact e5)
            have hturn' : Post n0 w0 μ st μ (setHeap st (killTwin (st.heap.set o (.cells cc (len * size') esz false 0)) tw)) w.drew := ⟨hturn.ext, hturn.old, hd, hturn.next, hturn.wm, hturn.bar⟩
            have hall := ((hturn'.trans hpush).trans hre).congr (b := growShare st o cc (Nat.min lim (Nat.mul len size')) esz tw (wr cc (Nat.mul len size') new) (Nat.add (Nat.mul len size') (Nat.mul n size'))) (by
              rw [growShare_eq, hmin]
              refine ⟨fun a => ?_, by rw [setHeap_next, newObj_next, setHeap_next], by rw [setHeap_wmin, newObj_wmin, setHeap_wmin], by simp only [setHeap_x, newObj_x]⟩
              rw [setHeap_heap, newObj_heap, setHeap_heap, setHeap_next]
              rw [← hstEq (.cells cc (len * size') esz false 0)]
              show _ = (((killTwin (st.heap.set o (.cells cc (len * size') esz false 0)) tw).set o _).set st.next _).get a
              rw [Tr.get_set, Tr.get_set, Tr.get_set, Tr.get_set]
              by_cases g1 : a = st.next
              · rw [if_neg (by omega), if_pos g1, if_pos g1]; rfl
              · rw [if_neg g1, if_neg g1])
            refine ⟨_, _, _, hrun, hall, ?_⟩
            simp only [vr]
            exact ⟨_, grownCap w (len + n) c e, by rw [hnx]; exact Mu.add_same _ _ _, Nat.zero_le _, by simp [Place.at_], rfl, hcap2, (fun e => by cases e), hcap2, by simp [Place.at_]⟩
      · cases hs
  · cases hs
end
end Go.Proofs.Ytkccnomdfkhfnaa.Ev
