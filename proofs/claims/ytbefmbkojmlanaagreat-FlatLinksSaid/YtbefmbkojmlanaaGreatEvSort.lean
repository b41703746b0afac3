/- The evaluator's special for slices.SortFunc: a row whose elements a map told in whatever order, sorted by a key: each element stands where its key says. -/
import Derived.Test.YtbefmbkojmlanaaGreatEvFastW
set_option linter.unusedVariables false
set_option linter.unusedSimpArgs false
namespace Go.Proofs.YtbefmbkojmlanaaGreat.Ev
open Go.RowKit

/-- what is asked of the sort: by a key that is an int, a row of elements of k cells: the elements, their keys not falling -/
structure SortAt (P : Program) (f c key k : Nat) : Prop where
  enter : ∀ vs w, (callFunc f vs).run P w = .ok (.enter f vs) w
  told : ∀ (blk off cap n : Nat) (cs : Array Value) (el : TypeId) (fr : Nat × Nat) (w : World) (row : Nat → List Value) (kv : Nat → Int) (d : List Nat),
    w.heap[blk]? = some (.cells cs el fr) → (∀ i, i < cs.size → ¬ (fr.1 ≤ i ∧ i < fr.2)) → d.length = n → 0 < n → n ≤ 1048576 →
    (∀ x, (row x).length = k) → (∀ x, ∀ v ∈ row x, oneC v = true) → (∀ x, (row x)[key]? = some (.int .i64 (kv x))) →
    (∀ i x j, d[i]? = some x → j < k → cs[off + (i * k + j)]? = (row x)[j]?) →
    Calls P f #[.slice (some ⟨blk, off, none⟩) n cap, .func (.func c) #[] #[]] w fun e w' => e = .returned (.tuple #[]) ∧
      ∃ (d' : List Nat) (cs' : Array Value), d'.Perm d ∧ d'.Pairwise (fun a b => ¬ kv b < kv a) ∧ w'.heap[blk]? = some (.cells cs' el fr) ∧ cs'.size = cs.size ∧
        (∀ i x j, d'[i]? = some x → j < k → cs'[off + (i * k + j)]? = (row x)[j]?) ∧ (∀ t, t < off ∨ off + n * k ≤ t → cs'[t]? = cs[t]?) ∧
        (∀ b, b ≠ blk → b < w.heap.size → w'.heap[b]? = w.heap[b]?) ∧ w.heap.size ≤ w'.heap.size ∧ w'.os = w.os ∧ w'.tape = w.tape ∧ w'.output = w.output

/-! ## lists -/
theorem colsAt_get {c : Tr AV} : ∀ {n j : Nat} {ls : List (List AV)}, colsAt c j n = some ls → ls.length = n
  | 0, j, ls, h => by cases h; rfl
  | n + 1, j, ls, h => by
    unfold colsAt at h
    split at h
    · split at h
      · rename_i r hr; cases h; rw [List.length_cons, colsAt_get hr]
      · cases h
    · cases h
theorem and2 {a b : Bool} (h : (a && b) = true) : a = true ∧ b = true := by simpa using h
theorem cellIs_eq {it g : Nat} {l : List AV} {o : Option AV} (h : cellIs it g l o = true) : o = some (.alt it g l) := by
  unfold cellIs at h
  split at h
  · obtain ⟨h1, h⟩ := and2 h
    obtain ⟨h2, h3⟩ := and2 h
    rw [Nat.beq_eq] at h1 h2
    subst h1; subst h2
    rw [veqL_eq _ _ _ h3]
  · cases h
theorem rowIs_get {c : Tr AV} {it g : Nat} : ∀ {ls : List (List AV)} {j0 : Nat}, rowIs c it g j0 ls = true → ∀ {j : Nat} {l : List AV}, ls[j]? = some l → c.get (j0 + j) = some (.alt it g l)
  | [], j0, _, j, l, h => by simp at h
  | x :: ls, j0, hb, j, l, h => by
    obtain ⟨h1, h2⟩ := and2 (show (cellIs it g x (c.get j0) && rowIs c it g (Nat.succ j0) ls) = true from hb)
    cases j with
    | zero => simp at h; subst h; exact cellIs_eq h1
    | succ j => simp at h; have := rowIs_get h2 h; rw [show j0 + (j + 1) = Nat.succ j0 + j from by omega]; exact this
theorem rowsAre_get {c : Tr AV} {it k : Nat} {ls : List (List AV)} : ∀ {gs : List Nat} {j0 : Nat}, rowsAre c it k ls j0 gs = true → ∀ {i g j : Nat} {l : List AV}, gs[i]? = some g → ls[j]? = some l →
    c.get (j0 + (i * k + j)) = some (.alt it g l)
  | [], j0, _, i, g, j, l, h, _ => by simp at h
  | g' :: gs, j0, hb, i, g, j, l, h, hl => by
    obtain ⟨h1, h2⟩ := and2 (show (rowIs c it g' j0 ls && rowsAre c it k ls (Nat.add j0 k) gs) = true from hb)
    cases i with
    | zero => simp at h; subst h; rw [Nat.zero_mul, Nat.zero_add]; exact rowIs_get h1 hl
    | succ i => simp at h; have := rowsAre_get h2 h hl; rw [show j0 + ((i + 1) * k + j) = Nat.add j0 k + (i * k + j) from by rw [Nat.succ_mul, show Nat.add j0 k = j0 + k from rfl]; omega]; exact this
theorem intsOf_get : ∀ {l : List AV} {ks : List Int}, intsOf l = some ks → ∀ {i : Nat} {a : AV}, l[i]? = some a → ∃ n, ks[i]? = some n ∧ a = .i .i64 n
  | [], ks, h, i, a, ha => by simp at ha
  | x :: l, ks, h, i, a, ha => by
    unfold intsOf at h
    split at h
    · rename_i heq; cases heq
    · rename_i n r heq
      cases heq
      split at h
      · rename_i l' hl
        cases h
        cases i with
        | zero => simp at ha; subst ha; exact ⟨n, by simp, rfl⟩
        | succ i => simp at ha; simpa using intsOf_get hl ha
      · cases h
    · cases h
theorem lessAll_mem {ks : List Int} {a : Int} : ∀ {l : List Nat}, lessAll ks a l = true → ∀ y ∈ l, ∃ b, ks[y]? = some b ∧ a < b
  | [], _, y, hy => by cases hy
  | x :: l, h, y, hy => by
    obtain ⟨h1, h2⟩ := and2 (show ((match ks[x]? with | some b => ltI a b | none => false) && lessAll ks a l) = true from h)
    rcases List.mem_cons.1 hy with rfl | hy
    · cases hk : ks[y]? with
      | none => rw [hk] at h1; cases h1
      | some b => rw [hk] at h1; dsimp only at h1; exact ⟨b, rfl, by rw [ltI_eq] at h1; exact of_decide_eq_true h1⟩
    · exact lessAll_mem h2 y hy
theorem rising_pairwise {ks : List Int} : ∀ {l : List Nat}, rising ks l = true → l.Pairwise (fun x y => ∃ a b, ks[x]? = some a ∧ ks[y]? = some b ∧ a < b) ∧ ∀ x ∈ l, x < ks.length
  | [], _ => ⟨List.Pairwise.nil, fun x h => by cases h⟩
  | x :: l, h => by
    obtain ⟨h1, h2⟩ := and2 (show ((match ks[x]? with | some a => lessAll ks a l | none => false) && rising ks l) = true from h)
    obtain ⟨p, q⟩ := rising_pairwise h2
    cases hk : ks[x]? with
    | none => rw [hk] at h1; cases h1
    | some a =>
      rw [hk] at h1
      refine ⟨List.pairwise_cons.2 ⟨fun y hy => ?_, p⟩, fun y hy => ?_⟩
      · obtain ⟨b, e1, e2⟩ := lessAll_mem h1 y hy
        exact ⟨a, b, hk, e1, e2⟩
      · rcases List.mem_cons.1 hy with rfl | hy
        · exact (List.getElem?_eq_some_iff.1 hk).1
        · exact q y hy
theorem pickRow_get {x : Nat} : ∀ {ls : List (List AV)} {r : List AV}, pickRow x ls = some r → r.length = ls.length ∧ ∀ {j : Nat} {l : List AV}, ls[j]? = some l → ∃ a, l[x]? = some a ∧ r[j]? = some a
  | [], r, h => by cases h; exact ⟨rfl, fun hl => by simp at hl⟩
  | l0 :: ls, r, h => by
    unfold pickRow at h
    split at h
    · rename_i a ha
      split at h
      · rename_i r' hr
        cases h
        obtain ⟨p, q⟩ := pickRow_get hr
        refine ⟨by rw [List.length_cons, List.length_cons, p], fun {j l} hl => ?_⟩
        cases j with
        | zero => simp at hl; subst hl; exact ⟨a, ha, by simp⟩
        | succ j => simp at hl; simpa using q hl
      · cases h
    · cases h
theorem pickRows_get {ls : List (List AV)} : ∀ {xs : List Nat} {r : List AV}, pickRows ls xs = some r → r.length = xs.length * ls.length ∧
    ∀ {i j x : Nat} {l : List AV}, xs[i]? = some x → ls[j]? = some l → ∃ a, l[x]? = some a ∧ r[i * ls.length + j]? = some a
  | [], r, h => by cases h; exact ⟨by simp, fun hx => by simp at hx⟩
  | x0 :: xs, r, h => by
    unfold pickRows at h
    split at h
    · rename_i a ha
      split at h
      · rename_i r' hr
        cases h
        obtain ⟨p1, q1⟩ := pickRow_get ha
        obtain ⟨p2, q2⟩ := pickRows_get hr
        refine ⟨by rw [List.length_append, p1, p2, List.length_cons, Nat.succ_mul]; omega, fun {i j x l} hx hl => ?_⟩
        have hj : j < ls.length := (List.getElem?_eq_some_iff.1 hl).1
        cases i with
        | zero =>
          simp at hx; subst hx
          obtain ⟨b, e1, e2⟩ := q1 hl
          exact ⟨b, e1, by rw [Nat.zero_mul, Nat.zero_add, List.getElem?_append_left (by omega)]; exact e2⟩
        | succ i =>
          simp at hx
          obtain ⟨b, e1, e2⟩ := q2 hx hl
          refine ⟨b, e1, ?_⟩
          rw [List.getElem?_append_right (by rw [p1, Nat.succ_mul]; omega), p1, show (i + 1) * ls.length + j - ls.length = i * ls.length + j from by rw [Nat.succ_mul]; omega]
          exact e2
      · cases h
    · cases h

/-- the numbers that were told -/
def numsTold (μ : Mu) : List Nat → List Nat
  | [] => []
  | g :: gs => (match μ g with | some p => p.lo | none => 0) :: numsTold μ gs
theorem numsTold_length (μ : Mu) : ∀ gs, (numsTold μ gs).length = gs.length
  | [] => rfl
  | g :: gs => by simp only [numsTold, List.length_cons, numsTold_length μ gs]
theorem numsTold_get {μ : Mu} : ∀ {gs : List Nat} {i g : Nat} {p : Place}, gs[i]? = some g → μ g = some p → (numsTold μ gs)[i]? = some p.lo
  | [], i, g, p, h, _ => by simp at h
  | g' :: gs, i, g, p, h, hp => by
    cases i with
    | zero => simp at h; subst h; simp [numsTold, hp]
    | succ i => simp at h; simpa [numsTold] using numsTold_get h hp
theorem numsTold_mem {μ : Mu} {bs : List Nat} : ∀ {gs ss : List Nat}, seenRel μ bs gs ss → ∀ x ∈ numsTold μ gs, ∃ s, bs[x]? = some s ∧ s ∈ ss
  | [], ss, _, x, hx => by cases hx
  | g :: gs, ss, ⟨p, s, r, h1, h2, h3, h4⟩, x, hx => by
    subst h1
    simp only [numsTold, h2] at hx
    rcases List.mem_cons.1 hx with rfl | hx
    · exact ⟨s, h3, List.mem_cons_self⟩
    · obtain ⟨s', e1, e2⟩ := numsTold_mem h4 x hx
      exact ⟨s', e1, List.mem_cons_of_mem _ e2⟩
theorem numsTold_nodup {μ : Mu} {bs : List Nat} : ∀ {gs ss : List Nat}, seenRel μ bs gs ss → ss.Nodup → (numsTold μ gs).Nodup
  | [], ss, _, _ => List.nodup_nil
  | g :: gs, ss, ⟨p, s, r, h1, h2, h3, h4⟩, hn => by
    subst h1
    obtain ⟨n1, n2⟩ := List.nodup_cons.1 hn
    simp only [numsTold, h2]
    refine List.nodup_cons.2 ⟨fun hx => ?_, numsTold_nodup h4 n2⟩
    obtain ⟨s', e1, e2⟩ := numsTold_mem h4 _ hx
    rw [h3] at e1; cases e1
    exact n1 e2
theorem full_mem {l : List Nat} {n : Nat} (hn : l.Nodup) (hl : l.length = n) (hb : ∀ x ∈ l, x < n) : ∀ x, x < n → x ∈ l := fun x hx => by
  by_cases h : x ∈ l
  · exact h
  · have := nodup_sub (l := x :: l) (m := List.range n) (List.nodup_cons.2 ⟨h, hn⟩) fun a ha => by
      rcases List.mem_cons.1 ha with rfl | ha
      · exact List.mem_range.2 hx
      · exact List.mem_range.2 (hb a ha)
    rw [List.length_cons, List.length_range] at this
    omega
theorem full_perm {l l' : List Nat} {n : Nat} (hn : l.Nodup) (hl : l.length = n) (hb : ∀ x ∈ l, x < n) (hn' : l'.Nodup) (hl' : l'.length = n) (hb' : ∀ x ∈ l', x < n) : l.Perm l' :=
  (List.perm_ext_iff_of_nodup hn hn').2 fun x => ⟨fun h => full_mem hn' hl' hb' x (hb x h), fun h => full_mem hn hl hb x (hb' x h)⟩


theorem rising_inj {kv : Nat → Int} : ∀ {l : List Nat}, l.Pairwise (fun a b => kv a < kv b) → ∀ a b, a ∈ l → b ∈ l → kv a = kv b → a = b
  | [], _, a, b, ha, _, _ => by cases ha
  | x :: l, h, a, b, ha, hb, he => by
    obtain ⟨p, q⟩ := List.pairwise_cons.1 h
    rcases List.mem_cons.1 ha with e1 | ha'
    · rcases List.mem_cons.1 hb with e2 | hb'
      · rw [e1, e2]
      · have := p b hb'; rw [e1] at he; omega
    · rcases List.mem_cons.1 hb with e2 | hb'
      · have := p a ha'; rw [e2] at he; omega
      · exact rising_inj q a b ha' hb' he
theorem perm_rising {ks : List Int} {l l' : List Nat} (hr : rising ks l = true) (hp : l'.Perm l) (hs : l'.Pairwise (fun a b => ¬ ks.getD b 0 < ks.getD a 0)) : l' = l := by
  obtain ⟨h1, _⟩ := rising_pairwise hr
  have h1' : l.Pairwise (fun a b => ks.getD a 0 < ks.getD b 0) := h1.imp fun ⟨a, b, e1, e2, e3⟩ => by
    rw [List.getD_eq_getElem?_getD, List.getD_eq_getElem?_getD, e1, e2]; exact e3
  refine List.Perm.eq_of_pairwise (le := fun a b => ¬ ks.getD b 0 < ks.getD a 0) (fun a b ha hb h h' => ?_) hs (h1'.imp fun h => by omega) hp
  exact rising_inj h1' a b (hp.mem_iff.1 ha) hb (by omega)

/-- where a number was told -/
def whereIs (d : List Nat) (x : Nat) : Nat := d.idxOf x
theorem whereIs_get {d : List Nat} (hn : d.Nodup) {i x : Nat} (h : d[i]? = some x) : whereIs d x = i := by
  obtain ⟨h1, rfl⟩ := List.getElem?_eq_some_iff.1 h
  exact List.Nodup.idxOf_getElem hn i h1

theorem evSort_sound {P : Program} {f c key k : Nat} (H : SortAt P f c key k) : SpecOk P f (fun args st => evSort key k c args st) := by
  refine ⟨H.enter, fun {args st st' r} hs {n0 w0 μ w vs} h ha => ?_⟩
  obtain ⟨vs⟩ := vs
  unfold evSort at hs
  split at hs
  case h_2 => cases hs
  rename_i o len cap kn e c'
  have hs1 := need_some hs
  clear hs
  obtain ⟨hc, hs⟩ := hs1
  rw [beq_iff'] at hc
  subst hc
  split at hs
  case h_2 => cases hs
  rename_i cs lim esz tw hob
  split at hs
  case h_2 => cases hs
  rename_i it g0 l0 hc0
  split at hs
  case h_2 => cases hs
  rename_i m since bs gs hit
  unfold sortCells at hs
  obtain ⟨hpre, hs2⟩ := need_some hs
  obtain ⟨ls, hls, hs3⟩ := obind_elim hs2
  obtain ⟨kc, hkc, hs4⟩ := obind_elim hs3
  obtain ⟨ks, hks, hs5⟩ := obind_elim hs4
  clear hs hs2 hs3 hs4
  unfold sortWith at hs5
  obtain ⟨hok, hs6⟩ := need_some hs5
  obtain ⟨new, hnew, hs7⟩ := obind_elim hs6
  obtain ⟨hall, hs8⟩ := need_some hs7
  clear hs5 hs6 hs7
  cases hs8
  generalize hord : seconds (sortI ks 0) = ord at hok hnew
  obtain ⟨p1, hpre⟩ := and2 hpre
  obtain ⟨p2, hpre⟩ := and2 hpre
  obtain ⟨p3, hpre⟩ := and2 hpre
  obtain ⟨p4, hpre⟩ := and2 hpre
  obtain ⟨p5, hpre⟩ := and2 hpre
  obtain ⟨p6, hpre⟩ := and2 hpre
  obtain ⟨p7, hpre⟩ := and2 hpre
  obtain ⟨p8, hpre⟩ := and2 hpre
  obtain ⟨p9, p10⟩ := and2 hpre
  rw [beq_iff'] at p1 p2 p7 p8
  rw [ble_iff] at p3 p4 p5 p6 p9
  rw [mul_eq'] at p6
  rw [twinOk_iff] at p10
  subst p1; subst p2
  obtain ⟨q1, hok⟩ := and2 hok
  obtain ⟨q2, hok⟩ := and2 hok
  obtain ⟨q3, q4⟩ := and2 hok
  rw [beq_iff'] at q2 q3
  have hlsl : ls.length = esz := colsAt_get hls
  -- the arguments
  simp only [vrL] at ha
  obtain ⟨v1, r1, e1, hv1, v2, r2, e2, hv2, e3⟩ := ha
  subst e3; subst e2
  cases e1
  simp only [vr] at hv1 hv2
  obtain ⟨p, cc, hp, hlo, rfl, hesz, _, _, hlc, _⟩ := hv1
  obtain ⟨xs1, xs2, rfl, hx1, hx2⟩ := hv2
  simp only [vrL] at hx1 hx2
  subst hx1; subst hx2
  have hO := h.obj o p _ hp hob
  obtain ⟨cv, el, fr, h1, h2, h3, h4, h5⟩ := hO
  have hlo0 : p.lo = 0 := by omega
  have hat : ∀ j, p.at_ j = p.at_ 0 + j := fun j => by simp [Place.at_, hlo0]
  -- the numbers told
  have hcell : ∀ {i g j : Nat} {l : List AV}, gs[i]? = some g → ls[j]? = some l → ∃ v q b, cv[p.at_ 0 + (i * esz + j)]? = some v ∧ μ g = some q ∧ (∃ q', μ it = some q') ∧ oneC v = true ∧ l[q.lo]? = some b ∧ vr μ b v := by
    intro i g j l hg hl
    have hi : i < gs.length := (List.getElem?_eq_some_iff.1 hg).1
    have hj : j < ls.length := (List.getElem?_eq_some_iff.1 hl).1
    have hb : i * esz + j < lim := by
      have : (i + 1) * esz ≤ len * esz := Nat.mul_le_mul_right _ (by omega)
      rw [Nat.succ_mul] at this; omega
    obtain ⟨v, k1, k2⟩ := h5 (i * esz + j) (by omega) hb
    have hr := rowsAre_get q1 hg hl
    rw [Nat.zero_add] at hr
    rw [hr] at k2
    rw [hat] at k1
    have hk2 : vr μ (.alt it g l) v := k2
    have hone := oneCell_of_vr hk2 rfl
    simp only [vr] at hk2
    obtain ⟨q, ⟨g1, g1'⟩, _, g2⟩ := hk2
    obtain ⟨b, b1, b2⟩ := vrN_get.1 g2
    exact ⟨v, q, b, k1, g1, g1', hone, b1, b2⟩
  have hgl : 0 < gs.length := by omega
  have hkl : 0 < ls.length := by omega
  obtain ⟨_, _, _, _, _, ⟨qi, hqi⟩, _⟩ := hcell (List.getElem?_eq_getElem hgl) (List.getElem?_eq_getElem hkl)
  obtain ⟨_, _, qm, seen, _, _, hnod, hseen⟩ := h.obj it qi _ hqi hit
  have dn : (numsTold μ gs).Nodup := numsTold_nodup hseen hnod
  have dl : (numsTold μ gs).length = len := by rw [numsTold_length]; exact p7
  have db : ∀ x ∈ numsTold μ gs, x < len := fun x hx => by
    obtain ⟨s, e1, _⟩ := numsTold_mem hseen x hx
    have := (List.getElem?_eq_some_iff.1 e1).1
    omega
  generalize hd : numsTold μ gs = d at dn dl db
  have hdget : ∀ {i x : Nat}, d[i]? = some x → ∃ g q, gs[i]? = some g ∧ μ g = some q ∧ q.lo = x := fun {i x} hx => by
    have hi : i < gs.length := by have := (List.getElem?_eq_some_iff.1 hx).1; omega
    obtain ⟨_, q, _, _, e1, _, _⟩ := hcell (List.getElem?_eq_getElem hi) (List.getElem?_eq_getElem hkl)
    have := numsTold_get (List.getElem?_eq_getElem hi) e1
    rw [hd, hx] at this
    cases this
    exact ⟨_, q, List.getElem?_eq_getElem hi, e1, rfl⟩
  -- a row told by its number
  let dflt : Nat → Value := fun x => .int .i64 (ks.getD x 0)
  let row : Nat → List Value := fun x => (List.range esz).map fun j => if whereIs d x < len ∧ x ∈ d then (cv[p.at_ 0 + (whereIs d x * esz + j)]?).getD (dflt x) else dflt x
  have hrow : ∀ {i x j : Nat}, d[i]? = some x → j < esz → (row x)[j]? = cv[p.at_ 0 + (i * esz + j)]? := fun {i x j} hx hj => by
    have hw := whereIs_get dn hx
    have hi : i < len := by have := (List.getElem?_eq_some_iff.1 hx).1; omega
    obtain ⟨g, q, g1, _, _⟩ := hdget hx
    obtain ⟨v, _, _, k1, _⟩ := hcell g1 (List.getElem?_eq_getElem (show j < ls.length by omega))
    show ((List.range esz).map _)[j]? = _
    rw [List.getElem?_map, List.getElem?_range hj]
    simp only [Option.map_some]
    rw [if_pos ⟨by omega, List.mem_of_getElem? hx⟩, hw, k1]
    rfl
  have hmem : ∀ {x : Nat}, x ∈ d → ∃ i, d[i]? = some x := fun {x} hx => by
    obtain ⟨i, hi, e1⟩ := List.mem_iff_getElem.1 hx
    exact ⟨i, by rw [List.getElem?_eq_getElem hi, e1]⟩
  have hkey : key < esz := by have := (List.getElem?_eq_some_iff.1 hkc).1; omega
  -- alternatives of a number
  have halt : ∀ {x j : Nat} {l : List AV}, x ∈ d → ls[j]? = some l → ∃ v b, (row x)[j]? = some v ∧ l[x]? = some b ∧ vr μ b v ∧ oneC v = true := fun {x j l} hx hl => by
    obtain ⟨i, hi⟩ := hmem hx
    obtain ⟨g, q, g1, g2, g3⟩ := hdget hi
    obtain ⟨v, q', b, k1, k2, _, k3, k4, k5⟩ := hcell g1 hl
    rw [g2] at k2; cases k2
    subst g3
    have hj : j < esz := by have := (List.getElem?_eq_some_iff.1 hl).1; omega
    exact ⟨v, b, by rw [hrow hi hj]; exact k1, k4, k5, k3⟩
  have hfrz := (h4 rfl).1
  have T := H.told p.blk (p.at_ 0) cc len cv el fr w row (fun x => ks.getD x 0) d h1 (fun i hi => hfrz i hi) dl (by omega) p5 (fun x => by simp [row]) ?_ ?_ (fun i x j hx hj => (hrow hx hj).symm)
  · refine T.mono ?_
    rintro en w' ⟨rfl, d', cs', f1, f2, f3, f4, f5, f6, f7, f8, f9, f10, f11⟩
    have hr1 := rising_pairwise q4
    have hord_n : ord.Nodup := hr1.1.imp fun ⟨a, b, e1, e2, e3⟩ he => by subst he; rw [e1] at e2; cases e2; omega
    have hperm : d'.Perm ord := f1.trans (full_perm dn dl db hord_n q3 fun x hx => by have := hr1.2 x hx; omega)
    have hd' : d' = ord := perm_rising q4 hperm f2
    subst hd'
    refine ⟨_, rfl, μ, ?_, by simp only [undefA, vr]; exact ⟨[], rfl, by simp only [vrL]⟩⟩
    have hblk : p.blk < w.heap.size := h.blk o p hp
    have hnl := pickRows_get hnew
    have hcsz : len * esz ≤ cv.size := by
      obtain ⟨v, k1, _⟩ := h5 (len * esz - 1) (by omega) (by
        have : 1 * 1 ≤ len * esz := Nat.mul_le_mul p4 p3
        omega)
      rw [hat] at k1
      have := (Array.getElem?_eq_some_iff.1 k1).1
      omega
    have T2 := h.turn (o := o) (p := p) (ob' := .cells (wr cs 0 new) lim esz false 0) (b := .cells cs' el fr) hp hob rfl rfl rfl p9 p10
      ⟨cs', el, fr, by rw [setBlk_get hblk, if_pos rfl], by rw [f4]; exact h2, h3, fun _ => by rw [f4]; exact h4 rfl, fun t ht1 ht2 => by
        rw [wr_get]
        by_cases hin : 0 ≤ t ∧ t < 0 + new.length
        · rw [if_pos hin]
          have hdl : d'.length = len := q3
          rw [hnl.1, hdl, hlsl] at hin
          have ht : t / esz * esz + t % esz = t := by rw [Nat.mul_comm]; exact Nat.div_add_mod t esz
          have hj : t % esz < esz := Nat.mod_lt _ p3
          have hi : t / esz < len := by
            rw [Nat.div_lt_iff_lt_mul p3]; omega
          have hx : d'[t / esz]? = some (d'[t / esz]'(by omega)) := List.getElem?_eq_getElem (by omega)
          obtain ⟨a, n1, n2⟩ := hnl.2 hx (List.getElem?_eq_getElem (show t % esz < ls.length by omega))
          have hm : d'[t / esz]'(by omega) ∈ d := f1.mem_iff.1 (List.getElem_mem _)
          obtain ⟨v, b, m1, m2, m3, m4⟩ := halt hm (List.getElem?_eq_getElem (show t % esz < ls.length by omega))
          rw [n1] at m2; cases m2
          refine ⟨v, ?_, ?_⟩
          · rw [hat, ← ht, f5 _ _ _ hx hj]; exact m1
          · rw [Nat.sub_zero, ← ht]
            rw [hlsl] at n2
            rw [n2]; exact m3
        · rw [if_neg hin]
          obtain ⟨v, k1, k2⟩ := h5 t ht1 ht2
          refine ⟨v, ?_, k2⟩
          have hdl : d'.length = len := q3
          rw [hnl.1, hdl, hlsl] at hin
          rw [hat] at k1 ⊢
          rw [f6 _ (.inr (by omega))]; exact k1⟩
    have hrs := T2.rs.beyond (w' := w') ⟨f9, f10, f11, by rw [setBlk_size]; exact f8, fun i hi => by
      rw [setBlk_size] at hi
      rw [setBlk_get hblk]
      split
      · rename_i ei; rw [ei]; exact f3
      · rename_i ei; exact f7 i ei hi⟩
    exact ⟨T2.ext, T2.old, hrs, T2.next, T2.wm, T2.bar⟩
  · intro x v hv
    by_cases hx : x ∈ d
    · obtain ⟨j, hj, rfl⟩ := List.mem_iff_getElem.1 hv
      have hj' : j < ls.length := by
        have : (row x).length = esz := by simp [row]
        omega
      obtain ⟨v', b, m1, _, _, m4⟩ := halt hx (List.getElem?_eq_getElem hj')
      rw [List.getElem?_eq_getElem hj] at m1; cases m1
      exact m4
    · simp only [row, hx, and_false, if_false, List.mem_map] at hv
      obtain ⟨_, _, rfl⟩ := hv
      rfl
  · intro x
    by_cases hx : x ∈ d
    · obtain ⟨v, b, m1, m2, m3, _⟩ := halt hx hkc
      obtain ⟨n, n1, rfl⟩ := intsOf_get hks m2
      simp only [vr] at m3
      subst m3
      rw [m1, List.getD_eq_getElem?_getD, n1]; rfl
    · simp only [row, hx, and_false, if_false, List.getElem?_map, List.getElem?_range hkey, Option.map_some, dflt]
end Go.Proofs.YtbefmbkojmlanaaGreat.Ev
