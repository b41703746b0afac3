/- What functions of the program compute, written down; read off their code. -/
import Derived.Test.YtkccnomdfkhfnaaEvDraw2
set_option linter.unusedVariables false
set_option linter.unusedSimpArgs false
namespace Go.Proofs.Ytkccnomdfkhfnaa.Ev
open Go.RowKit

theorem clsD_cls {P : Program} {o : Op} {c : Nat} (h : clsD P o = c) (h3 : c ≠ 3) : cls P o = c := by
  cases o <;> first | exact h | exact absurd h.symm h3
theorem clsD_le (P : Program) (o : Op) : clsD P o ≤ 3 := by
  unfold clsD
  split
  · omega
  · omega
  · rcases cls_cases P o with h | h | h <;> omega
theorem clsR_cls {P : Program} {o : Oper} {c : Nat} (h : clsR P o = c) (h3 : c ≠ 3) : cls P o.op = c := by
  unfold clsR at h
  split at h
  · exact clsD_cls h h3
  · split at h
    · rename_i hop
      rw [hop]
      rcases bsel_cases (p := fun z => z = c) h with ⟨_, g⟩ | ⟨_, g⟩
      · exact absurd g.symm h3
      · exact g
    · exact h
theorem clsR_le (P : Program) (o : Oper) : clsR P o ≤ 3 := by
  unfold clsR
  split
  · exact clsD_le _ _
  · split
    · rename_i parts _
      cases allC parts.toList
      · exact (by omega : (2 : Nat) ≤ 3)
      · exact (by omega : (3 : Nat) ≤ 3)
    · rcases cls_cases P o.op with h | h | h <;> rw [h] <;> omega
theorem clsR_3 {P : Program} {o : Oper} (h : clsR P o = 3) : clsD P o.op = 3 := by
  unfold clsR at h
  split at h
  · exact h
  · split at h
    · rename_i hop; rw [hop]; rfl
    · rcases cls_cases P o.op with h' | h' | h' <;> rw [h'] at h <;> omega
theorem between_mem {S : List St} {lo hi k : Nat} {s : St} (h : S[k]? = some s) (h1 : lo ≤ k) (h2 : k ≤ hi) : s ∈ between S lo hi := by
  unfold between
  rw [List.mem_iff_getElem?]
  refine ⟨k - lo, ?_⟩
  rw [List.getElem?_take, if_pos (by show k - lo < Nat.succ (hi - lo); omega), List.getElem?_drop, show lo + (k - lo) = k from by omega]
  exact h
theorem cEq_ok {a b : List AV} (h : AllP (cEq a b)) : a = b := by
  unfold cEq at h
  cases hv : veqL 8 a b with
  | true => exact veqL_eq _ _ _ hv
  | false => rw [hv] at h; exact h _ List.mem_cons_self
theorem andC_elim {a b : Option (List Prop)} {c : List Prop} (h : andC a b = some c) (hc : AllP c) : (∃ x, a = some x ∧ AllP x) ∧ ∃ y, b = some y ∧ AllP y := by
  unfold andC at h
  obtain ⟨x, h1, h⟩ := obind_elim h
  obtain ⟨y, h2, h⟩ := obind_elim h
  cases h
  exact ⟨⟨x, h1, hc.app.1⟩, y, h2, hc.app.2⟩
theorem rereads_mem {P : Program} {op : Op} {ev : Od → Option AV} {ds : List Od} {u : AV} : ∀ (l : List St) (c : List Prop), rereads P op ev ds u l = some c → AllP c → ∀ s ∈ l, ∃ v0 c, semR2 P op ev ds s = some (v0, c) ∧ FxP v0 u
  | [], _, _, _, s, hs => by cases hs
  | x :: l, c, h, hc, s, hs => by
    simp only [rereads] at h
    obtain ⟨⟨q, h1, h2⟩, y, h3, h4⟩ := andC_elim h hc
    rcases List.mem_cons.1 hs with e | hs
    · subst e
      obtain ⟨v, c', h5, h6⟩ := obind2_elim h1
      cases h6
      refine ⟨v, c', h5, ?_⟩
      have h7 := h2.app.1
      unfold cEqB at h7
      split at h7
      · exact .inr ⟨_, _, rfl, rfl, h7 _ List.mem_cons_self⟩
      · have := cEq_ok h7
        cases this
        exact .inl rfl
    · exact rereads_mem l y h3 h4 s hs
theorem refresh_mem {z : List AV} {v : AV} : ∀ (l : List St), refresh z v l = true → ∀ s ∈ l, freshObj z s v = true
  | [], _, s, hs => by cases hs
  | x :: l, h, s, hs => by
    simp only [refresh, Bool.and_eq_true] at h
    rcases List.mem_cons.1 hs with e | hs
    · subst e; exact h.1
    · exact refresh_mem l h.2 s hs

theorem refreshRow_mem {cs : List AV} {size : Nat} {v : AV} : ∀ (l : List St) (c : List Prop), refreshRow cs size v l = some c → AllP c → ∀ s ∈ l, ∃ c, freshRow cs size s v = some c ∧ AllP c
  | [], _, _, _, s, hs => by cases hs
  | x :: l, c, h, hc, s, hs => by
    simp only [refreshRow] at h
    obtain ⟨h1, y, h3, h4⟩ := andC_elim h hc
    rcases List.mem_cons.1 hs with e | hs
    · subst e; exact h1
    · exact refreshRow_mem l y h3 h4 s hs

section
variable {P : Program} {cf : CallF} {X nt n0 : Nat} {w0 : World} {μ0 : Mu} {st : St} {tm : Tr AV} {a0 : Act} {ops : Array Oper} {st0 : St} {V0 Vf : Tr AV} {stf : St} {S : List St}
variable {listed : Array Bool} {k : Nat} {s : St} {μ : Mu} {a : Act} {w : World} {Q : Exit → Act → World → Prop}

theorem ready_step (hcf : CFSound P cf) (G : Given P cf X nt n0 w0 μ0 st tm ops st0 V0 Vf stf S) (I : Inv P X nt n0 w0 μ0 st tm a0 ops st0 Vf S listed k s μ a w) {i : Nat} (hi : i ∈ Region.ready .any ops listed)
    {K : Act → World → Prop} (hnext : ∀ k' s' μ' a' w', Inv P X nt n0 w0 μ0 st tm a0 ops st0 Vf S (listed.setIfInBounds i true) k' s' μ' a' w' → K a' w') : wpOp P ops Q i K a w := by
  obtain ⟨hl0, o, ho, hafter⟩ := mem_ready.1 hi
  have hlt : i < ops.size := (Array.getElem?_eq_some_iff.1 ho).1
  obtain ⟨d, hd, hdi⟩ := G.ord.all i hlt
  subst hdi
  have F := plan_facts hd
  have hod : o = d.o := by have := F.op; rw [ho] at this; exact Option.some.inj this
  subst hod
  have hun : listed.getD d.idx false = false := by
    have h1 : d.idx < listed.size := by rw [I.size]; exact hlt
    simp [h1] at hl0 ⊢; exact hl0
  have haft : ∀ j, bit d.aft j = true → listed.getD j false = true := fun j hj => by
    rw [F.aft] at hj
    obtain ⟨e, he, hb, rfl⟩ := aftMask_bit hj
    exact hafter e he hb
  have hanc : ∀ j, bit d.anc j = true → listed.getD j false = true := plan_closed (L := fun j => listed.getD j false = true) I.down hd haft
  have hcl3 : d.cl ≤ 3 := by rw [F.cl]; exact clsR_le _ _
  -- how many heavy ones are done
  have hlow : d.low ≤ k := by
    rw [F.low]
    exact count_le _ _ fun j e h1 h2 => (I.heads j e h1).1 (hanc _ h2)
  have hhigh : k ≤ d.high := by
    rw [F.high]
    refine count_ge _ _ I.kle fun j e h1 h2 => ?_
    have h3 := (I.heads j e h1).2 h2
    have hemem : e ∈ plan P ops := by
      have := List.mem_of_getElem? h1
      unfold heavies at this
      exact (List.mem_filter.1 this).1
    rw [Bool.and_eq_true, Bool.not_eq_true', Bool.not_eq_true']
    constructor
    · cases hb : Nat.beq e.idx d.idx with
      | false => rfl
      | true => rw [beq_iff'.1 hb, hun] at h3; cases h3
    · cases hb : bit e.anc d.idx with
      | false => rfl
      | true =>
        have := plan_closed (L := fun j => listed.getD j false = true) I.down hemem (I.down e hemem h3) _ hb
        rw [hun] at this; cases this
  unfold wpOp
  simp only [ho]
  by_cases h3 : d.cl = 3
  · -- a new variable
    obtain ⟨g2, lv, g4, g3, g5, g6⟩ := G.laid.each d hd h3
    have hVf := G.grow _ _ g4
    obtain ⟨cr, hre, hcr⟩ := G.again d hd
    have hgt : evGd (evOdD Vf tm) d.gd = some true := by
      unfold recheck at hre
      simp only [h3] at hre
      split at hre
      · assumption
      · cases hre
    have hw : Region.wanted d.o (yielded ops a.tmps) = true := gdD_sound (I.od G hd hun haft (V := Vf) (fun _ _ h => h)) (by rw [← F.gd]; exact hgt)
    rw [if_pos hw]
    left
    have hon : μ (obOf lv) = none := I.wait d hd h3 hun lv hVf
    have hwait : ∀ (pl : Place), ∀ e ∈ plan P ops, e.cl = 3 → e.idx ≠ d.idx → listed.getD e.idx false = false → ∀ u, Vf.get e.idx = some u → (μ.add (obOf lv) pl) (obOf u) = none := by
      intro pl e he h4 h5 h6 u ho'
      obtain ⟨q1, v', q2, q3, q4, q5⟩ := G.laid.each e he h4
      have := G.grow _ _ q2
      rw [ho'] at this
      cases this
      have hne : obOf u ≠ obOf lv := fun g => h5 (G.laid.inj e he d hd h4 h3 u lv q2 g4 g)
      rw [Mu.add_ne _ _ hne]
      exact I.wait e he h4 h6 _ ho'
    unfold recheck at hre
    rcases g3 with ⟨t, z, g1, hz0, hlv⟩ | ⟨t, n, parts, size, g1, hlv⟩
    · -- a variable
      simp only [h3, hgt, g1, hz0, hVf] at hre
      have hre : refresh (acells z) lv (between S d.low d.high) = true := by
        unfold okC0 at hre
        rcases bsel_some hre with ⟨q, _⟩ | ⟨_, q⟩
        · exact q
        · cases q
      have hfr := refresh_mem _ hre s (between_mem I.at_ hlow hhigh)
      rw [hlv] at hfr
      unfold freshObj at hfr
      simp only [] at hfr
      split at hfr
      · rename_i c lim esz hobj
        simp only [Bool.and_eq_true, beq_iff'] at hfr
        obtain ⟨⟨⟨k1, k2⟩, k3⟩, k4⟩ := hfr
        have hz := veqL_eq _ _ _ k4
        obtain ⟨zv, e1, e2⟩ := run_zeroValue hz0 μ w
        have hc := acells_vr e2 (allOk_ne_top k3)
        have hsz : zv.cells.size = lim := by rw [k1, lenA_eq, ← vrL_length _ _ hc]; simp
        have hrs := I.post.rs.adopt (o := obOf lv) (c := c) (esz := esz) (cs := zv.cells) (el := t) hon (by have := I.nx; omega) (by rw [hsz]; exact hobj) (by rw [hsz, hz]; exact hc)
        have hx : Ext μ (μ.add (obOf lv) ⟨w.heap.size, 0, 0, esz, zv.cells.size⟩) := Mu.add_ext _ hon
        have hrun : (execOp a.eval d.o).run P w = .ok (.value (.pointer (some ⟨w.heap.size, 0, none⟩))) (pushed w (.cells zv.cells t)) := by
          have : execOp a.eval d.o = (do pure (.value (← Instr.alloc t true (.tuple #[]))) : Sem Next) := by
            unfold execOp; rw [g1]
          rw [this]
          refine run_value ?_
          unfold Instr.alloc
          rw [run_bind_ok e1]
          simp only []
          rfl
        unfold Oper.wp
        rw [hrun]
        refine hnext _ _ _ _ _ (I.step G hd hun haft (.inr ⟨by omega, rfl⟩) I.at_ ⟨I.post.ext.trans hx, fun x hx2 => ?_, hrs, I.post.next, I.post.wm, I.post.bar⟩ (Nat.le_refl _) hx hVf ?_ (hwait _))
        · rw [Mu.add_ne _ _ (by omega)]; exact I.post.old x hx2
        · rw [hlv]; simp only [vr]; exact ⟨_, Mu.add_same _ _ _, Nat.zero_le _, rfl⟩
      · cases hfr
    · -- a row
      simp only [h3, hgt, g1, hVf] at hre
      cases hcs : csOf P tm Vf d with
      | none => rw [hcs] at hre; cases hre
      | some g =>
        rw [hcs] at hre
        obtain ⟨cs, size'⟩ := g
        obtain ⟨cf0, hfr, hcf0⟩ := refreshRow_mem _ _ hre hcr s (between_mem I.at_ hlow hhigh)
        rw [hlv] at hfr
        unfold freshRow at hfr
        simp only [] at hfr
        split at hfr
        · rename_i c lim esz hobj
          rcases bsel_some hfr with ⟨hb0, hfr0⟩ | ⟨_, hfr0⟩
          case inr => cases hfr0
          cases hfr0
          simp only [Bool.and_eq_true, beq_iff'] at hb0
          obtain ⟨⟨k1, k2⟩, k3⟩ := hb0
          have hz := cEq_ok hcf0
          unfold csOf at hcs
          rw [g1] at hcs
          dsimp only at hcs
          obtain ⟨args, ha1, ha2⟩ := obind_elim hcs
          have hr2 := I.od G hd hun haft (V := Vf) (fun _ _ h => h)
          rw [F.ods, g1] at ha1
          have hl := many_elim hr2 (parts.toList.map (·.2)) args (by simpa [Op.operands] using ha1)
          obtain ⟨ys, el, e1, e2, e3⟩ := buildCs_run (P := P) (qs := parts.map fun p => (p.1, a.eval p.2)) ha2 (by
            have := parts_map parts.toList (l := args) (ρ := a.eval) (μ := μ) (by rw [List.map_map] at hl; exact hl)
            simpa using this) w
          have hsz : ys.length = lim := by rw [k1, lenA_eq, ← vrL_length _ _ e2]
          have hrs := I.post.rs.adopt (o := obOf lv) (c := c) (esz := esz) (cs := ⟨ys⟩) (el := el) hon (by have := I.nx; omega) (by rw [show (⟨ys⟩ : Array Value).size = lim from hsz]; exact hobj) (by rw [show (⟨ys⟩ : Array Value).size = lim from hsz, hz]; exact e2)
          have hx : Ext μ (μ.add (obOf lv) ⟨w.heap.size, 0, 0, esz, (⟨ys⟩ : Array Value).size⟩) := Mu.add_ext _ hon
          have hrun : (execOp a.eval d.o).run P w = .ok (.value (.slice (some ⟨w.heap.size, 0, none⟩) n n)) (pushed w (.cells ⟨ys⟩ el)) := by
            have : execOp a.eval d.o = (do pure (.value (← Instr.buildSlice t n (parts.map fun p => (p.1, a.eval p.2)))) : Sem Next) := by
              unfold execOp; rw [g1]
            rw [this]
            exact run_value e1
          unfold Oper.wp
          rw [hrun]
          refine hnext _ _ _ _ _ (I.step G hd hun haft (.inr ⟨by omega, rfl⟩) I.at_ ⟨I.post.ext.trans hx, fun x hx2 => ?_, hrs, I.post.next, I.post.wm, I.post.bar⟩ (Nat.le_refl _) hx hVf ?_ (hwait _))
          · rw [Mu.add_ne _ _ (by omega)]; exact I.post.old x hx2
          · rw [hlv]
            simp only [vr]
            exact ⟨_, n, Mu.add_same _ _ _, Nat.zero_le _, rfl, k2.trans k3.symm, Nat.le_refl _, fun _ => rfl, Nat.le_refl _, by simp [Place.at_, e3, k3]⟩
        · cases hfr
  · -- the others
    obtain ⟨pre, q, hsplit⟩ := List.append_of_mem hd
    obtain ⟨C, hCC, V, g, hV, hg, hf, ht⟩ := G.each pre d q hsplit h3
    have hr := I.od G hd hun haft hV
    have hwd : Region.wanted d.o (yielded ops a.tmps) = g := gdD_sound hr (by rw [← F.gd]; exact hg)
    -- the place of a heavy one
    have hrank : d.cl = 2 → (heavies pre).length = k ∧ (heavies (plan P ops))[k]? = some d := fun h2 => by
      have hh : heavies (plan P ops) = heavies pre ++ d :: heavies q := by rw [hsplit, heavies_app, heavies_cons, if_pos h2]
      have hget : (heavies (plan P ops))[(heavies pre).length]? = some d := by rw [hh]; simp
      have hge : k ≤ (heavies pre).length := by
        rcases Nat.lt_or_ge (heavies pre).length k with g | g
        · have := (I.heads _ _ hget).2 g
          rw [hun] at this; cases this
        · exact g
      have hle : (heavies pre).length ≤ k := by
        rcases Nat.lt_or_ge k (heavies pre).length with g | g
        · exfalso
          have hpos : (heavies pre).length - 1 < (heavies (plan P ops)).length := by rw [hh]; simp; omega
          have hb := chainOk_get _ G.chain ((heavies pre).length - 1) _ d (List.getElem?_eq_getElem hpos) (by rw [show (heavies pre).length - 1 + 1 = (heavies pre).length from by omega]; exact hget)
          have := (I.heads _ _ (List.getElem?_eq_getElem hpos)).1 (hanc _ hb)
          omega
        · exact g
      have : (heavies pre).length = k := Nat.le_antisymm hle hge
      exact ⟨this, by rw [← this]; exact hget⟩
    cases g with
    | false =>
      rw [hwd, if_neg (by simp)]
      obtain ⟨f1, f2⟩ := hf rfl
      by_cases h2 : d.cl = 2
      · obtain ⟨r1, r2⟩ := hrank h2
        obtain ⟨s1, q1, q2⟩ := f2 h2
        rw [r1] at q1 q2
        rw [I.at_] at q1; cases q1
        exact hnext _ _ _ _ _ (I.step G hd hun haft (.inl ⟨h2, r2, rfl⟩) q2 I.post (Nat.le_refl _) (Ext.refl _) f1 (undefA_vr μ) fun e he h4 h5 h6 o' ho' => I.wait e he h4 h6 o' ho')
      · exact hnext _ _ _ _ _ (I.step G hd hun haft (.inr ⟨h2, rfl⟩) I.at_ I.post (Nat.le_refl _) (Ext.refl _) f1 (undefA_vr μ) fun e he h4 h5 h6 o' ho' => I.wait e he h4 h6 o' ho')
    | true =>
      rw [hwd, if_pos rfl]
      left
      obtain ⟨u, hu, t0, t1, t2⟩ := ht rfl
      have h012 : d.cl = 0 ∨ d.cl = 1 ∨ d.cl = 2 := by omega
      rcases h012 with h0 | h0 | h0
      · obtain ⟨v0, c0, hs, hsub, hfx⟩ := t0 h0
        rw [F.ods] at hs
        obtain ⟨v, e1, e2⟩ := semP2_sound hr hs (fun p hp => hCC p (hsub p hp)) w
        have e2 := (hfx.holds hCC).vr e2
        unfold Oper.wp; rw [e1]
        exact hnext _ _ _ _ _ (I.step G hd hun haft (.inr ⟨by omega, rfl⟩) I.at_ I.post (Nat.le_refl _) (Ext.refl _) hu e2 fun e he h4 h5 h6 o' ho' => I.wait e he h4 h6 o' ho')
      · have hcls : cls P d.o.op = 1 := clsR_cls (by rw [← F.cl, h0]) (by omega)
        have key : ∃ W v0 c, (∀ j u, W.get j = some u → Vf.get j = some u) ∧ semR2 P d.o.op (evOdD W tm) d.ods s = some (v0, c) ∧ FxP v0 u := by
          obtain ⟨s1, v1, c1, q1, q2, q5⟩ := t1 h0
          by_cases hk : k = d.low
          · rw [← hk, I.at_] at q1; cases q1
            exact ⟨V, v1, c1, hV, q2, q5.holds hCC⟩
          · obtain ⟨cr, hre, hcr⟩ := G.again d hd
            unfold recheck at hre
            simp only [h0] at hre
            cases hb : Nat.ble d.high d.low with
            | true => rw [ble_iff] at hb; omega
            | false =>
              rw [hb, cond_false] at hre
              cases hg2 : evGd (evOdD Vf tm) d.gd with
              | none => rw [hg2] at hre; cases hre
              | some b =>
                have hr2 := I.od G hd hun haft (V := Vf) (fun _ _ h => h)
                have := gdD_sound hr2 (o := d.o) (r := b) (by rw [← F.gd]; exact hg2)
                rw [hwd] at this
                subst this
                rw [hg2, hu] at hre
                obtain ⟨v1, c2, q3, q4⟩ := rereads_mem _ _ hre hcr s (between_mem I.at_ (by show d.low + 1 ≤ k; omega) hhigh)
                exact ⟨Vf, v1, c2, fun _ _ h => h, q3, q4⟩
        obtain ⟨W, v1, c2, hW, hs, hfx⟩ := key
        rw [F.ods] at hs
        obtain ⟨v, e1, e2⟩ := semR2_sound I.post.rs (I.od G hd hun haft hW) hs hcls
        have e2 := hfx.vr e2
        unfold Oper.wp; rw [e1]
        exact hnext _ _ _ _ _ (I.step G hd hun haft (.inr ⟨by omega, rfl⟩) I.at_ I.post (Nat.le_refl _) (Ext.refl _) hu e2 fun e he h4 h5 h6 o' ho' => I.wait e he h4 h6 o' ho')
      · have hcls : cls P d.o.op = 2 := clsR_cls (by rw [← F.cl, h0]) (by omega)
        obtain ⟨r1, r2⟩ := hrank h0
        obtain ⟨s1, s', v1, q1, q2, q3, q4, q5⟩ := t2 h0
        rw [r1] at q1 q2
        rw [I.at_] at q1; cases q1
        rw [F.ods] at q3
        refine semA2_sound hcf I.post.rs hr q3 (q4.all G.okf) hcls fun μ' w' v hp hv => ?_
        have hv := (q5.holds hCC).vr hv
        refine hnext _ _ _ _ _ (I.step G hd hun haft (.inl ⟨h0, r2, rfl⟩) q2 (I.post.trans hp) hp.next hp.ext hu hv fun e he h4 h5 h6 o' ho' => ?_)
        obtain ⟨p1, v', p2, p3, p4, p5⟩ := G.laid.each e he h4
        have := G.grow _ _ p2
        rw [ho'] at this
        cases this
        rw [hp.old (obOf o') (by have := I.nx; omega)]
        exact I.wait e he h4 h6 _ ho'

theorem first_unlisted {f : DOp → Bool} : ∀ (l : List DOp) (d : DOp), d ∈ l → f d = false → ∃ pre e q, l = pre ++ e :: q ∧ (∀ x ∈ pre, f x = true) ∧ f e = false
  | [], d, hd, _ => by cases hd
  | x :: l, d, hd, hf => by
    cases hx : f x with
    | false => exact ⟨[], x, l, rfl, (fun y hy => by cases hy), hx⟩
    | true =>
      rcases List.mem_cons.1 hd with e | hd
      · subst e; rw [hx] at hf; cases hf
      · obtain ⟨pre, e, q, rfl, h1, h2⟩ := first_unlisted l d hd hf
        refine ⟨x :: pre, e, q, rfl, fun y hy => ?_, h2⟩
        rcases List.mem_cons.1 hy with g | hy
        · subst g; exact hx
        · exact h1 y hy

theorem any_order (hcf : CFSound P cf) (G : Given P cf X nt n0 w0 μ0 st tm ops st0 V0 Vf stf S)
    (hQ : ∀ (listed : Array Bool) μ a w, Inv P X nt n0 w0 μ0 st tm a0 ops st0 Vf S listed (heavies (plan P ops)).length stf μ a w → (∀ d ∈ plan P ops, listed.getD d.idx false = true) → Q .normal a w) :
    ∀ (fuel : Nat) (listed : Array Bool) (k : Nat) (s : St) (μ : Mu) (a : Act) (w : World), Inv P X nt n0 w0 μ0 st tm a0 ops st0 Vf S listed k s μ a w →
      ((plan P ops).filter fun d => !(listed.getD d.idx false)).length ≤ fuel → wpAny P .any ops Q fuel listed a w := by
  -- at the end
  have fin : ∀ (listed : Array Bool) (k : Nat) (s : St) (μ : Mu) (a : Act) (w : World), Inv P X nt n0 w0 μ0 st tm a0 ops st0 Vf S listed k s μ a w → (∀ d ∈ plan P ops, listed.getD d.idx false = true) → Q .normal a w := by
    intro listed k s μ a w I hall
    have hk : k = (heavies (plan P ops)).length := by
      rcases Nat.lt_or_ge k (heavies (plan P ops)).length with g | g
      · have h1 := List.getElem?_eq_getElem g
        have h2 : (heavies (plan P ops))[k] ∈ plan P ops := by
          have := List.getElem_mem g
          unfold heavies at this
          exact (List.mem_filter.1 this).1
        have := (I.heads k _ h1).1 (hall _ h2)
        omega
      · exact Nat.le_antisymm I.kle g
    subst hk
    have := I.at_
    rw [G.last] at this
    cases this
    exact hQ listed μ a w I hall
  have hnil : ∀ (listed : Array Bool), listed.size = ops.size → (∀ d ∈ plan P ops, listed.getD d.idx false = true) → Region.ready .any ops listed = [] := fun listed hsz hall => by
    cases hr : Region.ready .any ops listed with
    | nil => rfl
    | cons i r =>
      exfalso
      have hi : i ∈ Region.ready .any ops listed := by rw [hr]; exact List.mem_cons_self
      obtain ⟨hl0, o, ho, _⟩ := mem_ready.1 hi
      have hlt : i < ops.size := (Array.getElem?_eq_some_iff.1 ho).1
      obtain ⟨d, hd, hdi⟩ := G.ord.all i hlt
      have h1 := hall d hd
      rw [hdi] at h1
      have h2 : i < listed.size := by rw [hsz]; exact hlt
      simp [h2] at hl0 h1
      rw [hl0] at h1; cases h1
  intro fuel
  induction fuel with
  | zero =>
    intro listed k s μ a w I hle
    have hall : ∀ d ∈ plan P ops, listed.getD d.idx false = true := fun d hd => by
      cases hl : listed.getD d.idx false with
      | true => rfl
      | false =>
        have : d ∈ (plan P ops).filter fun d => !(listed.getD d.idx false) := List.mem_filter.2 ⟨hd, by rw [hl]; rfl⟩
        have := List.length_pos_of_mem this
        omega
    exact ⟨hnil listed I.size hall, fin listed k s μ a w I hall⟩
  | succ fuel ih =>
    intro listed k s μ a w I hle
    refine ⟨fun hempty => ?_, fun i hi => ?_⟩
    · by_cases hall : ∀ d ∈ plan P ops, listed.getD d.idx false = true
      · exact fin listed k s μ a w I hall
      · exfalso
        obtain ⟨d, hd, hdl⟩ : ∃ d ∈ plan P ops, listed.getD d.idx false = false := by
          apply Classical.byContradiction
          intro hno
          apply hall
          intro d hd
          cases hl : listed.getD d.idx false with
          | true => rfl
          | false => exact absurd ⟨d, hd, hl⟩ hno
        obtain ⟨pre, e, q, hsplit, h1, h2⟩ := first_unlisted (f := fun d => listed.getD d.idx false) _ d hd hdl
        have he : e ∈ plan P ops := by rw [hsplit]; simp
        have F := plan_facts he
        have : e.idx ∈ Region.ready .any ops listed := by
          rw [mem_ready]
          have hlt : e.idx < listed.size := by rw [I.size]; exact idx_lt G he
          refine ⟨by have h2 : listed.getD e.idx false = false := h2; simp [hlt] at h2 ⊢; exact h2, e.o, F.op, fun x hx hb => ?_⟩
          obtain ⟨y, hy, hyi⟩ := G.ord.waits pre e q hsplit x.on (by rw [F.aft]; exact bit_aftMask hx hb)
          rw [← hyi]; exact h1 y hy
        rw [hempty] at this; cases this
    · refine ready_step hcf G I hi fun k' s' μ' a' w' I' => ih _ k' s' μ' a' w' I' ?_
      obtain ⟨hl0, o, ho, _⟩ := mem_ready.1 hi
      have hlt : i < ops.size := (Array.getElem?_eq_some_iff.1 ho).1
      have hls : i < listed.size := by rw [I.size]; exact hlt
      obtain ⟨d, hd, hdi⟩ := G.ord.all i hlt
      have := count_lt (p := fun d : DOp => !(listed.getD d.idx false)) (q := fun d : DOp => !((listed.setIfInBounds i true).getD d.idx false)) (d := d) (plan P ops) (fun e he => by
        rw [getD_set hls] at he
        split at he
        · cases he
        · exact he) hd (by rw [hdi]; simp [hls] at hl0 ⊢; exact hl0) (by rw [getD_set hls, if_pos hdi]; rfl)
      omega

theorem exportD_get {V : Tr AV} : ∀ (pl : List DOp) (tm tm' : Tr AV), exportD X V pl tm = some tm' → ∀ t av, tm'.get t = some av →
    (∃ d ∈ pl, d.o.dst = some t ∧ bit X t = true ∧ V.get d.idx = some av) ∨ ((∀ d ∈ pl, d.o.dst = some t → bit X t = false) ∧ tm.get t = some av)
  | [], tm, tm', h, t, av, ht => by
    simp only [exportD] at h
    cases h
    exact .inr ⟨(fun d hd => by cases hd), ht⟩
  | d :: r, tm, tm', h, t, av, ht => by
    simp only [exportD] at h
    cases hd : d.o.dst with
    | none =>
      rw [hd] at h
      rcases exportD_get r tm tm' h t av ht with ⟨e, he, g⟩ | ⟨g1, g2⟩
      · exact .inl ⟨e, List.mem_cons_of_mem _ he, g⟩
      · refine .inr ⟨fun e he het => ?_, g2⟩
        rcases List.mem_cons.1 he with q | he
        · subst q; rw [hd] at het; cases het
        · exact g1 e he het
    | some u =>
      rw [hd] at h
      dsimp only at h
      cases hb : bit X u with
      | false =>
        rw [hb, cond_false] at h
        rcases exportD_get r tm tm' h t av ht with ⟨e, he, g⟩ | ⟨g1, g2⟩
        · exact .inl ⟨e, List.mem_cons_of_mem _ he, g⟩
        · refine .inr ⟨fun e he het => ?_, g2⟩
          rcases List.mem_cons.1 he with q | he
          · subst q; rw [hd] at het; cases het; exact hb
          · exact g1 e he het
      | true =>
        rw [hb, cond_true] at h
        split at h
        · rename_i v hv
          rcases exportD_get r _ tm' h t av ht with ⟨e, he, g⟩ | ⟨g1, g2⟩
          · exact .inl ⟨e, List.mem_cons_of_mem _ he, g⟩
          · rw [Tr.get_set] at g2
            split at g2
            · rename_i e
              subst e
              cases g2
              exact .inl ⟨d, List.mem_cons_self, hd, hb, hv⟩
            · rename_i hne
              refine .inr ⟨fun e he het => ?_, g2⟩
              rcases List.mem_cons.1 he with q | he
              · subst q; rw [hd] at het; cases het; exact absurd rfl hne
              · exact g1 e he het
        · cases h
theorem recheckAll_mem {V : Tr AV} {ss : List St} : ∀ (pl : List DOp) (c : List Prop), recheckAll P tm V ss pl = some c → AllP c → ∀ d ∈ pl, ∃ c, recheck P tm V ss d = some c ∧ AllP c
  | [], _, _, _, d, hd => by cases hd
  | x :: r, c, h, hc, d, hd => by
    simp only [recheckAll] at h
    obtain ⟨h1, y, h3, h4⟩ := andC_elim h hc
    rcases List.mem_cons.1 hd with e | hd
    · subst e; exact h1
    · exact recheckAll_mem r y h3 h4 d hd
end

theorem orderF_len {P : Program} {l : List (Oper × Nat)} : ∀ (f done : Nat), (orderF P l f done).length ≤ f
  | 0, _ => Nat.le_refl _
  | f + 1, done => by
    simp only [orderF]
    split
    · simpa using orderF_len f _
    · split
      · simpa using orderF_len f _
      · simp
theorem withAnc_len : ∀ (l : List (Oper × Nat)) (acc : List (Nat × Nat)), (withAnc l acc).length = l.length
  | [], _ => rfl
  | (o, i) :: r, acc => by simp only [withAnc, List.length_cons, withAnc_len r]
theorem plan_len {P : Program} {ops : Array Oper} : (plan P ops).length ≤ ops.size := by
  unfold plan planL
  rw [List.length_map, withAnc_len]
  exact orderF_len _ _

theorem runD_gr {P : Program} {cf : CallF} (hcf : CFGrow cf) {tm : Tr AV} {gl : List Nat} : ∀ (r : List DOp) (V : Tr AV) (st : St) (ss : List St) (n : Nat) (cs : List Prop) (o : List Bool) (Vf : Tr AV) (stf : St) (ssf : List St) (C : List Prop) (of : List Bool), runD P cf tm gl r V st ss n cs o = some (Vf, stf, ssf, C, of) → Gr st stf
  | [], V, st, ss, n, cs, o, Vf, stf, ssf, C, of, h => by simp only [runD] at h; cases h; exact Gr.refl _
  | d :: r, V, st, ss, n, cs, o, Vf, stf, ssf, C, of, h => by
    simp only [runD] at h
    split at h
    · exact runD_gr hcf r _ _ _ _ _ _ _ _ _ _ _ h
    · split at h
      · cases h
      · split at h
        · exact runD_gr hcf r _ _ _ _ _ _ _ _ _ _ _ h
        · exact runD_gr hcf r _ _ _ _ _ _ _ _ _ _ _ h
      · split at h
        · split at h
          · split at h
            · exact runD_gr hcf r _ _ _ _ _ _ _ _ _ _ _ h
            · cases h
          · cases h
        · split at h
          · split at h
            · split at h
              · exact runD_gr hcf r _ _ _ _ _ _ _ _ _ _ _ h
              · cases h
            · cases h
          · cases h
        · split at h
          · rename_i hv
            split at h
            · exact (semA2_xp hcf _ _ hv).trans (runD_gr hcf r _ _ _ _ _ _ _ _ _ _ _ h)
            · cases h
          · cases h
theorem layAllocs_gr {P : Program} : ∀ (pl : List DOp) (gs : List (List AV × Nat)) (V : Tr AV) (st : St) (V0 : Tr AV) (st0 : St), layAllocs P pl gs V st = some (V0, st0) → Gr st st0
  | [], gs, V, st, V0, st0, h => by simp only [layAllocs] at h; cases h; exact Gr.refl _
  | d :: r, gs, V, st, V0, st0, h => by
    simp only [layAllocs] at h
    cases hb : Nat.beq d.cl 3 with
    | false => rw [hb] at h; exact layAllocs_gr r _ _ _ _ _ h
    | true =>
      rw [hb] at h
      simp only [cond_true] at h
      split at h
      · obtain ⟨v, st1, h1, h2⟩ := obind2_elim h
        have : Gr st st1 := by
          obtain ⟨z, _, h3⟩ := obind_elim (show obind (zeroT P _) (aNewVar st) = some (v, st1) from h1)
          exact aNewVar_xp _ _ h3
        exact this.trans (layAllocs_gr r _ _ _ _ _ h2)
      · split at h
        · exact (Gr.of_x (newCells_x _ _ _)).trans (layAllocs_gr r _ _ _ _ _ h)
        · cases h
      · cases h
theorem setOrc_gr (st : St) (o : List Bool) : Gr st (setOrc st o) := by
  obtain ⟨hp, nx, wm, rows, cs, orc⟩ := st
  exact ⟨[], rfl⟩
theorem setOrc_cs (st : St) (o : List Bool) : (setOrc st o).x.cs = st.x.cs := by
  obtain ⟨hp, nx, wm, rows, cs, orc⟩ := st
  rfl
theorem Post.setOrc {n0 : Nat} {w0 : World} {μ μ' : Mu} {st st' : St} {w : World} (h : Post n0 w0 μ st μ' st' w) (o : List Bool) : Post n0 w0 μ st μ' (Ev.setOrc st' o) w := by
  obtain ⟨hp, nx, wm, rows, cs, orc⟩ := st'
  exact h.congr ⟨fun _ => rfl, rfl, rfl, rfl⟩
theorem putC_cs {st0 st : St} (h : Gr st0 st) (c : List Prop) : ∃ d, st.x.cs = d ++ st0.x.cs ∧ (putC st0 st c).x.cs = d ++ (c ++ st0.x.cs) := by
  obtain ⟨hp, nx, wm, rows, cs, orc⟩ := st
  obtain ⟨d, h⟩ := h
  have h : cs = d ++ st0.x.cs := h
  refine ⟨d, h, ?_⟩
  show cs.take (cs.length - st0.x.cs.length) ++ (c ++ st0.x.cs) = _
  rw [h]; simp
theorem putC_gr {st0 st : St} (h : Gr st0 st) (c : List Prop) : Gr st0 (putC st0 st c) := by
  obtain ⟨d, _, e⟩ := putC_cs h c
  exact ⟨d ++ c, by rw [e, List.append_assoc]⟩
theorem putC_all {st0 st : St} (h : Gr st0 st) {c : List Prop} (k : AllP (putC st0 st c).x.cs) : AllP (c ++ st.x.cs) := by
  obtain ⟨d, e1, e2⟩ := putC_cs h c
  rw [e2] at k
  rw [e1]
  intro p hp
  refine k p ?_
  simp only [List.mem_append] at hp ⊢
  rcases hp with hp | hp | hp
  · exact .inr (.inl hp)
  · exact .inl hp
  · exact .inr (.inr hp)
theorem Post.putC {n0 : Nat} {w0 : World} {μ μ' : Mu} {st st' : St} {w : World} (h : Post n0 w0 μ st μ' st' w) (st0 : St) (c : List Prop) : Post n0 w0 μ st μ' (Ev.putC st0 st' c) w := by
  obtain ⟨hp, nx, wm, rows, cs, orc⟩ := st'
  exact h.congr ⟨fun _ => rfl, rfl, rfl, rfl⟩
theorem evDraw_gr {P : Program} {cf : CallF} (hcf : CFGrow cf) {X : Nat} {pl : List DOp} {ok : Bool} {tm : Tr AV} {st : St} : XP (evDraw P cf X pl ok tm st) st := fun tm' st' h => by
  unfold evDraw at h
  cases ok with
  | false => cases h
  | true =>
    simp only [cond_true] at h
    split at h
    · cases h
    · split at h
      · cases h
      · rename_i V0 st0 hlay
        split at h
        · cases h
        · rename_i V st1 ss cs o hrun
          obtain ⟨c2, _, h⟩ := obind_elim h
          obtain ⟨tm2, _, h⟩ := obind_elim h
          cases h
          exact (putC_gr ((layAllocs_gr _ _ _ _ _ _ hlay).trans (runD_gr hcf _ _ _ _ _ _ _ _ _ _ _ _ hrun)) _).trans (setOrc_gr _ _)

theorem evDraw_sound {P : Program} (hm : P.follows .mixedOrders = true) {cf : CallF} (hcf : CFSound P cf) : DrawSound P cf := by
  refine ⟨fun X pl ok tm st => evDraw_gr hcf.grow, ?_⟩
  intro X nt n0 w0 μ0 tm tm' st st' a0 w ops id Q h ht hev hCf hQ
  cases hd : dstsIn nt ops.toList with
  | false => rw [hd] at hev; cases hev
  | true =>
    rw [hd, bsel_true] at hev
    cases hok : planOk ops (plan P ops) with
    | false => rw [hok] at hev; cases hev
    | true =>
      rw [hok] at hev
      unfold evDraw at hev
      simp only [cond_true] at hev
      unfold planOk at hok
      simp only [Bool.and_eq_true] at hok
      obtain ⟨⟨⟨k1, k2⟩, k3⟩, k4⟩ := hok
      have hord := order_of k1
      split at hev
      · cases hev
      rename_i gs hgs
      split at hev
      · cases hev
      · rename_i V0 st0 hlay
        split at hev
        · cases hev
        · rename_i Vf stf ssf CC oo hrun
          cases hre : recheckAll P tm Vf ssf.reverse (plan P ops) with
          | none => rw [hre] at hev; cases hev
          | some c2 =>
            rw [hre, obind_some] at hev
            obtain ⟨tm2, hex, hev⟩ := obind_elim hev
            cases hev
            rw [setOrc_cs] at hCf
            replace hCf := putC_all ((layAllocs_gr _ _ _ _ _ _ hlay).trans (runD_gr hcf.grow _ _ _ _ _ _ _ _ _ _ _ _ hrun)) hCf
            have hA1 := hCf.app.2
            have hA2 := hCf.app.1.app.1
            have hA3 := hCf.app.1.app.2
            have L := layAllocs_spec (plan P ops) gs .e st V0 st0 hlay hord.apart
            have R := runD_spec hcf.grow (plan P ops) V0 st0 [st0] 0 [] _ Vf _ ssf CC oo hrun rfl rfl (fun d hd => by rw [(plan_facts hd).cl]; exact clsR_le _ _) (fun d hd h3 => by
              rw [L.keys d.idx (fun e he h4 heq => ?_)]
              · exact Tr.get_e _
              · have : e = d := by
                  rcases pairwise_of (R := fun e d => e.idx ≠ d.idx) hord.apart he hd with g | g | g
                  · exact g
                  · exact absurd heq g
                  · exact absurd heq.symm g
                rw [this] at h4; exact h3 h4) hord.apart
            have hlen : ssf.length = (heavies (plan P ops)).length + 1 := by rw [R.len]; omega
            have G : Given P cf X nt n0 w0 μ0 st tm ops st0 V0 Vf stf ssf.reverse := by
              refine ⟨hd, hord, (dstsOnce_sound _ _ k2).2, k3, L, R.grow, ?_, ?_, hA1, fun pre d q e h3 => ⟨CC, hA3, ?_⟩, recheckAll_mem _ _ hre hA2⟩
              · obtain ⟨T, hT⟩ := R.more
                rw [hT]; simp
              · rw [List.getElem?_reverse (by omega), hlen]
                have := R.last
                rw [List.head?_eq_getElem?] at this
                rw [show (heavies (plan P ops)).length + 1 - 1 - (heavies (plan P ops)).length = 0 from by omega]
                exact this
              · have := R.each pre d q e h3
                rw [Nat.zero_add] at this
                exact this
            have hfalse : ∀ j, (Array.replicate ops.size false).getD j false = false := fun j => by
              rcases Nat.lt_or_ge j ops.size with g | g <;> simp [Array.getElem?_replicate, g]
            refine wp_region_any hm (any_order (a0 := a0) hcf G ?_ ops.size _ 0 st0 μ0 a0 _ ?_ ?_)
            · intro listed μ a w' I hall
              refine hQ μ a w' ((I.post.putC _ _).setOrc _) I.defers ⟨I.tsize, fun t av hg => ?_⟩
              rcases exportD_get _ _ _ hex t av hg with ⟨d, hdm, g1, g2, g3⟩ | ⟨g1, g2⟩
              · exact ⟨g2, I.vals d hdm (hall d hdm) av t g3 g1⟩
              · have hb := (ht.rel t av g2).1
                exact I.free t av (fun e he het => by have := g1 e he het; rw [hb] at this; cases this) g2
            · refine ⟨by simp, (fun d hdm hl => by rw [hfalse] at hl; cases hl), fun i d _ => ?_, Nat.zero_le _, G.first, ⟨Ext.refl _, (fun _ _ => rfl), L.rs _ _ _ _ (h.drawn _), L.next, L.wmin, (fun o ho => L.old o (by have := h.wle; omega))⟩,
                Nat.le_refl _, rfl, ht.size, (fun d hdm hl => by rw [hfalse] at hl; cases hl), (fun t av _ hg => ht.rel t av hg), fun d hdm h3 _ o ho => ?_⟩
              · rw [hfalse]; simp
              · obtain ⟨q1, v', q2, q3, q4, q5⟩ := L.each d hdm h3
                have := R.grow _ _ q2
                rw [ho] at this
                cases this
                exact h.fresh _ q4
            · exact Nat.le_trans (List.length_filter_le _ _) plan_len
end Go.Proofs.Ytkccnomdfkhfnaa.Ev
