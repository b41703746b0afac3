import Derived.Test.YtaadcblcpojhhaaGreatDoorEvFastT
set_option linter.unusedVariables false
set_option linter.unusedSimpArgs false
namespace Go.Proofs.YtaadcblcpojhhaaGreatDoor.Ev
open Go.RowKit

theorem FK.run_p (f : List AV → Tr AV → (AV → Res) → Res) (cf : CallF) (le : List AV) (tm : Tr AV) (st : St) (k : AV → St → Res) : (FK.p f).run cf le tm st k = f le tm fun v => k v st := rfl
theorem FK.run_m (f : FM) (cf : CallF) (le : List AV) (tm : Tr AV) (st : St) (k : AV → St → Res) : (FK.m f).run cf le tm st k = f cf le tm st k := rfl

section
variable {P : Program} {cf : CallF} {ac : Operand → Acc} {od : Operand → Od} {ev : Od → Option AV} {le : List AV} {tm : Tr AV} {st : St}

/-! ### struct values -/
theorem setL_eq : ∀ (off : Nat) (v : AV) (cs : List AV), off < cs.length → setL off v cs = lay cs off [v]
  | 0, v, [], h => by simp at h
  | 0, v, x :: t, h => rfl
  | off + 1, v, [], h => by simp at h
  | off + 1, v, x :: t, h => congrArg (List.cons x) (setL_eq off v t (by simpa using h))
theorem lay_length {cs vs : List AV} {off : Nat} (h : off + vs.length ≤ cs.length) : (lay cs off vs).length = cs.length := by
  unfold lay
  rw [lenA_eq]
  simp only [List.length_append, List.length_take, List.length_drop]
  rw [show Nat.add off vs.length = off + vs.length from rfl]
  omega
theorem layK_eq (off size : Nat) (v : AV) (cs : List AV) (k : List AV → Res) (hl : Nat.ble (Nat.add off size) (lenA cs) = true) : layK off size v cs k =
    if (Nat.beq (lenA (acells v)) size && Nat.ble (Nat.add off size) (lenA cs) && allOk (acells v)) = true then k (lay cs off (acells v)) else .no := by
  unfold layK
  rw [hl, Bool.and_true]
  simp only [bsel_eq]
  cases Nat.beq (lenA (acells v)) size <;> cases allOk (acells v) <;> rfl
def contK (k : List AV → Res) (v : AV) : Res := match v with | .agg l => k l | _ => .no
theorem BP.run_one (off : Nat) (a : Acc) (r : BP) (cs : List AV) (k : AV → Res) : (BP.one off a r).run le tm cs k = a.on le tm fun v => onCell v (r.run le tm (setL off v cs) k) (layK off 1 v cs fun cs => r.run le tm cs k) := rfl
theorem BP.run_more (off size : Nat) (a : Acc) (r : BP) (cs : List AV) (k : AV → Res) : (BP.more off size a r).run le tm cs k = a.on le tm fun v => layK off size v cs fun cs => r.run le tm cs k := rfl
theorem bp_run (hac : ∀ x, (ac x).val le tm = ev (od x)) {pl : List (Nat × Nat)} {len : Nat} (k : List AV → Res) : ∀ (parts : List (Nat × Operand)) (b : BP) (cs : List AV), bpOf ac pl len parts = some b → cs.length = len →
    b.run le tm cs (contK k) = match many ev (parts.map fun p => od p.2) with
      | some vs => (match aFill (fun i => pl[i]?) cs ((parts.map (·.1)).zip vs) with | some cs' => k cs' | none => .no)
      | none => .no
  | [], b, cs, h, hc => by
    cases h
    rfl
  | (i, x) :: r, b, cs, h, hc => by
    unfold bpOf at h
    split at h
    · rename_i off size b' hp hb
      cases hle : Nat.ble (Nat.add off size) len with
      | false => rw [hle] at h; cases h
      | true =>
        rw [hle, bsel_true] at h
        cases h
        have hl : Nat.ble (Nat.add off size) (lenA cs) = true := by rw [lenA_eq, hc]; exact hle
        have hlt : off + size ≤ cs.length := by rw [Nat.ble_eq] at hle; rw [hc]; exact hle
        rw [List.map_cons, many_cons]
        -- one part
        have key : ∀ v, layK off size v cs (fun cs => b'.run le tm cs (contK k)) = match (obind (many ev (r.map fun p => od p.2)) fun vs => some (v :: vs)) with
            | some vs => (match aFill (fun i => pl[i]?) cs ((((i, x) :: r).map (·.1)).zip vs) with | some cs' => k cs' | none => .no)
            | none => .no := by
          intro v
          rw [layK_eq _ _ _ _ _ hl]
          by_cases hok : (Nat.beq (lenA (acells v)) size && Nat.ble (Nat.add off size) (lenA cs) && allOk (acells v)) = true
          · rw [if_pos hok]
            have hsz : (acells v).length = size := by
              simp only [Bool.and_eq_true] at hok
              have := hok.1.1
              rw [Nat.beq_eq, lenA_eq] at this
              exact this
            rw [bp_run hac k r b' (lay cs off (acells v)) hb (by rw [lay_length (by rw [hsz]; exact hlt), hc])]
            cases many ev (r.map fun p => od p.2) with
            | none => rfl
            | some vs =>
              show _ = match aFill (fun i => pl[i]?) cs ((i, v) :: (r.map (·.1)).zip vs) with | some cs' => k cs' | none => .no
              rw [show aFill (fun i => pl[i]?) cs ((i, v) :: (r.map (·.1)).zip vs) = aFill (fun i => pl[i]?) (lay cs off (acells v)) ((r.map (·.1)).zip vs) from by
                rw [aFill]; simp only [hp]; rw [hok]; rfl]
          · rw [if_neg hok]
            have hok' := Bool.eq_false_iff.2 hok
            cases many ev (r.map fun p => od p.2) with
            | none => rfl
            | some vs =>
              show _ = match aFill (fun i => pl[i]?) cs ((i, v) :: (r.map (·.1)).zip vs) with | some cs' => k cs' | none => .no
              rw [show aFill (fun i => pl[i]?) cs ((i, v) :: (r.map (·.1)).zip vs) = none from by
                rw [aFill]; simp only [hp]; rw [hok']; rfl]
        cases hs : Nat.beq size 1 with
        | true =>
          have hs1 : size = 1 := by rw [Nat.beq_eq] at hs; exact hs
          rw [bsel_true, BP.run_one, on_eq, hac]
          dsimp only []
          cases ev (od x) with
          | none => rfl
          | some v =>
            rw [ofO_some, obind_some, onCell_eq, ← key v, hs1]
            split
            · rename_i hv
              rw [layK_eq _ _ _ _ _ (by rw [← hs1]; exact hl), acells_ok hv, if_pos (by
                rw [← hs1, hl, hs1, allOk_cons, hv]; rfl), setL_eq off v cs (by omega)]
            · rfl
        | false =>
          rw [bsel_false, BP.run_more, on_eq, hac]
          dsimp only []
          cases ev (od x) with
          | none => rfl
          | some v => rw [ofO_some, obind_some]; exact key v
    · cases h
theorem bp_cont (k : List AV → Res) (k' : AV → Res) (hk : ∀ l, k' (.agg l) = k l) : ∀ (b : BP) (cs : List AV), b.run le tm cs k' = b.run le tm cs (contK k)
  | .nil, cs => hk cs
  | .one off a r, cs => by
    rw [BP.run_one, BP.run_one]
    congr 1
    funext v
    rw [bp_cont k k' hk r, show (fun cs => r.run le tm cs k') = fun cs => r.run le tm cs (contK k) from funext fun cs => bp_cont k k' hk r cs]
  | .more off size a r, cs => by
    rw [BP.run_more, BP.run_more]
    rw [show (fun cs => r.run le tm cs k') = fun cs => r.run le tm cs (contK k) from funext fun cs => bp_cont k k' hk r cs]
theorem fbuild_run (hac : ∀ x, (ac x).val le tm = ev (od x)) (t : TypeId) (ps : Array (Nat × Operand)) (ty : TypeId) (k : AV → St → Res) :
    (fbuild P t ps.toList (.build t ps) ty ac).run cf le tm st k = ofP (sem P cf (.build t ps) ty (cls P (.build t ps)) ev ((Op.build t ps).operands.toList.map od) st) k := by
  unfold fbuild
  split
  · rename_i fs z pl hu hz hp
    split
    · rename_i b hb
      rw [sem0 rfl]
      have hops : ((Op.build t ps).operands.toList.map od) = ps.toList.map fun p => od p.2 := by simp [Op.operands, List.map_map, Function.comp_def]
      rw [hops]
      show b.run le tm (acells z) (fun v => k v st) = ofP (obind (obind (many ev _) (aBuildL P t ps.toList)) (keep st)) k
      rw [bp_cont (fun l => k (.agg l) st) _ (fun l => rfl), bp_run hac _ ps.toList b (acells z) hb (by rw [lenA_eq])]
      cases many ev (ps.toList.map fun p => od p.2) with
      | none => rfl
      | some vs =>
        rw [obind_some, ofP_keep]
        unfold aBuildL aBuild
        rw [hz, hu, hp]
        simp only []
        cases aFill (fun i => pl[i]?) (acells z) ((ps.toList.map (·.1)).zip vs) <;> rfl
    · exact fgen_run hac _ ty k
  · exact fgen_run hac _ ty k

/-! ### calls -/
theorem flen_run (hac : ∀ x, (ac x).val le tm = ev (od x)) (c : Call) (t : TypeId) (x : Operand) (hb : c.callee = .builtin .len) (ht : c.argTypes.toList = [t]) (hx : c.args.toList = [x]) (ty : TypeId) (k : AV → St → Res) :
    (flen P t (ac x) (.call c) ty ac).run cf le tm st k = ofP (sem P cf (.call c) ty (cls P (.call c)) ev ((Op.call c).operands.toList.map od) st) k := by
  have hc : cls P (.call c) = 0 := by
    show (match c.callee with | .builtin .len => 0 | .builtin .cap => 0 | .builtin .min => 0 | .builtin .max => 0 | _ => 2) = 0
    rw [hb]
  have hops : ((Op.call c).operands.toList.map od) = [od x] := by
    show c.operands.toList.map od = _
    rw [← callOps_eq]
    unfold callOps
    rw [hb]
    simp [hx]
  have hsem : ofP (sem P cf (.call c) ty (cls P (.call c)) ev ((Op.call c).operands.toList.map od) st) k = ofO (ev (od x)) fun v => ofO (aLen P t v) fun v => k v st := by
    rw [sem0 hc, hops]
    show ofP (obind (obind (many ev [od x]) (semCallP P c ty)) (keep st)) k = _
    rw [many_cons, many_nil]
    cases ev (od x) with
    | none => rfl
    | some v =>
      rw [obind_some, obind_some, obind_some, ofP_keep, ofO_some]
      congr 1
      unfold semCallP
      rw [hb, ht]
  unfold flen
  split
  · rename_i hu
    rw [hsem, FK.run_p, on_eq, hac]
    refine ofO_congr fun v => ?_
    unfold aLen
    rw [hu]
    cases v <;> rfl
  · rename_i e hu
    rw [hsem, FK.run_p, on_eq, hac]
    refine ofO_congr fun v => ?_
    unfold aLen
    rw [hu]
    cases v <;> rfl
  · exact fgen_run hac _ ty k
theorem fcall_run (hac : ∀ x, (ac x).val le tm = ev (od x)) (hfn : ∀ f, ev (od (.func f)) = some (.fn f [] [])) (c : Call) (ty : TypeId) (k : AV → St → Res) :
    (fcall P c ty ac).run cf le tm st k = ofP (sem P cf (.call c) ty (cls P (.call c)) ev ((Op.call c).operands.toList.map od) st) k := by
  unfold fcall
  split
  · rename_i f hcal
    have hc : cls P (.call c) = 2 := by
      show (match c.callee with | .builtin .len => 0 | .builtin .cap => 0 | .builtin .min => 0 | .builtin .max => 0 | _ => 2) = 2
      rw [hcal]
    have hops : ((Op.call c).operands.toList.map od) = od (.func f) :: c.args.toList.map od := by
      show c.operands.toList.map od = _
      rw [← callOps_eq]
      unfold callOps
      rw [hcal]
      rfl
    rw [sem2 hc, hops]
    show manyK (accsOf ac c.args.toList) le tm (fun vs => ofP (cf f vs st) k) = ofP (obind (many ev _) (semCallA P cf c st)) k
    rw [manyK_eq hac, many_cons, hfn, obind_some]
    cases many ev (c.args.toList.map od) with
    | none => rfl
    | some vs =>
      rw [obind_some, obind_some]
      unfold semCallA
      rw [hcal]
      simp only []
      rw [appA_eq, appA_eq, List.append_nil, List.nil_append]
  · rename_i hcal
    split
    · rename_i t x ht hx
      exact flen_run hac c t x hcal ht hx ty k
    · exact fgen_run hac _ ty k
  · exact fgen_run hac _ ty k

/-! ### every operation -/
theorem fop_run (hac : ∀ x, (ac x).val le tm = ev (od x)) (hfn : ∀ f, ev (od (.func f)) = some (.fn f [] [])) (op : Op) (ty : TypeId) (k : AV → St → Res) :
    (fop P op ty ac).run cf le tm st k = ofP (sem P cf op ty (cls P op) ev (op.operands.toList.map od) st) k := by
  cases op with
  | binOp bop t x y yt => exact fbin_run hac bop t x y ty yt k
  | load t x => exact fload_run hac t x ty k
  | call c => exact fcall_run hac hfn c ty k
  | fieldAddr s x f => exact ffield_run hac s f x ty k
  | box t x => exact fbox_run hac t x ty k
  | store t x y => exact fstore_run hac t x y ty k
  | extract x i =>
    rw [sem0 rfl]
    refine run1 hac (F := fun x k => onTup x (fun vs => nthK i vs k) .no) (G := aExtract i) (fun x k => ?_) x k
    cases x <;> try rfl
    rename_i l
    exact nthK_eq i l k
  | pick c x y =>
    rw [sem0 rfl]
    show (ac c).on le tm (fun c => (ac x).on le tm fun x => (ac y).on le tm fun y => onB c (fun t => bsel t (k x st) (k y st)) .no) = ofP (obind (three ev [od c, od x, od y] pick3) (keep st)) k
    rw [three_cons, on_eq, hac, ofP_keep, ofO_obind]
    refine ofO_congr fun a => ?_
    rw [two_two, on_eq, hac, ofO_obind]
    refine ofO_congr fun b => ?_
    rw [on_eq, hac, ofO_obind]
    refine ofO_congr fun d => ?_
    cases a <;> try rfl
    rename_i t
    cases t <;> rfl
  | alloc t => exact falloc_run t ty k
  | indexAddr t x y => exact findex_run hac t x y ty k
  | convert s d x => exact fconv_run hac s d x ty k
  | unOp uop t x => exact fun1_run hac uop t x ty k
  | build t ps => exact fbuild_run hac t ps ty k
  | move x =>
    rw [sem0 rfl]
    exact run1 hac (F := fun x k => k x) (G := some) (fun x k => rfl) x k
  | assign x =>
    rw [sem0 rfl]
    exact run1 hac (F := fun x k => k x) (G := some) (fun x k => rfl) x k
  | _ => exact fgen_run hac _ ty k
end
end Go.Proofs.YtaadcblcpojhhaaGreatDoor.Ev
