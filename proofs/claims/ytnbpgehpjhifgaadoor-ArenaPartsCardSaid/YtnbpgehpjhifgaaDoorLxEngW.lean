/-
  The abstract machine, part 22: the same, handed on; values told as plain data.
-/
import Derived.Test.YtnbpgehpjhifgaaDoorLxEngV
namespace Go.Eng

section
variable {E : Env} {call : CallF} {loop : Nat → St → Option (AX × St)} {R : Type}
  {callK : CallK R} {loopK : Nat → St → (AX → St → Option R) → Option R}

theorem HM.runK_eq {α : Type} (hc : ∀ f as bs n k, callK f as bs n k = (call f as bs n).bind fun p => k p.1 p.2.1 p.2.2) (h : Ref → Option Blk) : ∀ (m : HM α) (l : List Nat) (k : α → List Nat → Option R), m.runK callK h l k = (m.run call h).bind fun p => k p.1 (l ++ p.2)
  | .ret a, l, k => by simp [HM.runK, HM.run]
  | .rd id f, l, k => by
    simp only [HM.runK, HM.run]
    cases h id with
    | none => rfl
    | some b =>
      simp only
      rw [HM.runK_eq hc h (f b)]
      cases (f b).run call h with
      | none => rfl
      | some p => simp
  | .chk b f, l, k => by
    simp only [HM.runK, HM.run]
    cases b
    · rfl
    · simp only [cond_true]; exact HM.runK_eq hc h f l k
  | .dec b x y, l, k => by
    simp only [HM.runK, HM.run]
    cases b
    · simp only [cond_false]; exact HM.runK_eq hc h y l k
    · simp only [cond_true]; exact HM.runK_eq hc h x l k
  | .call f as bs n g, l, k => by
    simp only [HM.runK, HM.run, hc]
    cases call f as bs n with
    | none => rfl
    | some r => simp only [Option.bind_some]; exact HM.runK_eq hc h (g r.1 r.2.1 r.2.2) l k
  | .fail, l, k => rfl

theorem consF_append (f : Fp) (l : List Fp) : consF f l = consF f [] ++ l := by
  unfold consF
  split <;> simp

theorem setB_self {env : List AV} {d : Nat} {b : Bool} (h : env.getD d .top = .v (.bool b)) : setB env d b = env := by
  unfold setB
  rcases Nat.lt_or_ge d env.length with hl | hl
  · rw [List.getD_eq_getElem?_getD, List.getElem?_eq_getElem hl] at h
    simp only [Option.getD_some] at h
    rw [← h]
    exact List.set_getElem_self hl
  · exact List.set_eq_of_length_le hl

theorem touch_run {α : Type} {h : Ref → Option Blk} (newId n : Nat) (f : Dl → α) : ∀ (wr : List (Ref × Blk)) (δ : Dl), (touch newId n wr (.ret (f δ))).run call h = ((touch newId n wr (.ret δ)).run call h).map fun p => (f p.1, p.2)
  | [], δ => rfl
  | p :: r, δ => by
    simp only [touch]
    split
    · exact touch_run newId n f r δ
    · simp only [HM.run]
      cases h (.l p.1.ix) with
      | none => rfl
      | some b =>
        simp only
        rw [touch_run newId n f r δ]
        cases (touch newId n r (.ret δ)).run call h <;> rfl

theorem HM.run_bind_eq {α β : Type} (h : Ref → Option Blk) : ∀ (m : HM α) (f : α → HM β), (m.bind f).run call h = (m.run call h).bind fun p => ((f p.1).run call h).map fun q => (q.1, p.2 ++ q.2)
  | .ret a, f => by
    simp only [HM.bind, HM.run, Option.bind_some]
    cases (f a).run call h <;> simp
  | .rd id g, f => by
    simp only [HM.bind, HM.run]
    cases h id with
    | none => rfl
    | some b =>
      simp only
      rw [HM.run_bind_eq h (g b) f]
      cases (g b).run call h with
      | none => rfl
      | some p =>
        simp only [Option.bind_some]
        cases (f p.1).run call h <;> simp
  | .chk b g, f => by
    simp only [HM.bind, HM.run]
    cases b
    · rfl
    · exact HM.run_bind_eq h g f
  | .dec b x y, f => by
    simp only [HM.bind, HM.run]
    cases b
    · exact HM.run_bind_eq h y f
    · exact HM.run_bind_eq h x f
  | .call g as bs n k, f => by
    simp only [HM.bind, HM.run]
    cases call g as bs n with
    | none => rfl
    | some r => exact HM.run_bind_eq h (k r.1 r.2.1 r.2.2) f
  | .fail, f => rfl

theorem doneK_eq (hc : ∀ f as bs n k, callK f as bs n k = (call f as bs n).bind fun p => k p.1 p.2.1 p.2.2) (newId : Nat) (o : Oper) (s : St) (k : St → List Nat → List Nat → Option R) :
    doneK E callK newId o s k = (((aop E (aeval s.env) newId o.op).bind fun δ => touch newId (wid o.op) δ.wr (.ret (some δ))).run call s.rd).bind fun p => k (s.app o.dst (dlOf p.1)) p.2 ((dlOf p.1).wr.map (·.1.ix)) := by
  unfold doneK
  rw [HM.runK_eq hc, HM.run_bind_eq, HM.run_bind_eq]
  cases (aop E (aeval s.env) newId o.op).run call s.rd with
  | none => rfl
  | some p =>
    simp only [Option.bind_some, List.nil_append]
    rw [touch_run newId _ some]
    cases (touch newId (wid o.op) p.1.wr (.ret p.1)).run call s.rd with
    | none => rfl
    | some q => rfl

theorem stepK_eq (hc : ∀ f as bs n k, callK f as bs n k = (call f as bs n).bind fun p => k p.1 p.2.1 p.2.2) (ops : List Oper) (newId : Nat) (o : Oper) (s : St) (k : St → List Nat → List Nat → Option R) :
    stepK E callK ops newId o s k = ((stepH E ops newId o s.env).run call s.rd).bind fun p => k (s.app o.dst (dlOf p.1)) p.2 ((dlOf p.1).wr.map (·.1.ix)) := by
  unfold stepK stepH
  split
  · exact doneK_eq hc newId o s k
  · split
    · rename_i d hd
      split
      · rename_i b hb
        cases b with
        | true =>
          rw [setB_self hb]
          split
          · simp only [cond_true, HM.run]
            exact doneK_eq hc newId o s k
          · simp only [cond_true, HM.run, Option.bind_some]
            rfl
        | false =>
          rw [setB_self hb]
          split
          · simp only [cond_false, HM.run, Option.bind_some]
            rfl
          · simp only [cond_false, HM.run]
            exact doneK_eq hc newId o s k
      · simp only [HM.run, Option.bind_some]
        rfl
      · rfl
    · rfl

theorem runOpsK_eq (hc : ∀ f as bs n k, callK f as bs n k = (call f as bs n).bind fun p => k p.1 p.2.1 p.2.2) (ops : List Oper) : ∀ (os : List Oper) (n i : Nat) (s : St) (l : List Fp) (k : St → List Fp → Option R),
    runOpsK E callK ops n i os s l k = (runOps E call ops n i os s).bind fun p => k p.1 (l ++ p.2)
  | [], n, i, s, l, k => by simp [runOpsK, runOps]
  | o :: r, n, i, s, l, k => by
    simp only [runOpsK, runOps, stepA]
    rw [stepK_eq hc]
    cases (stepH E ops n o s.env).run call s.rd with
    | none => rfl
    | some p =>
      obtain ⟨δ, rs⟩ := p
      simp only [Option.bind_some]
      rw [runOpsK_eq hc ops r]
      cases runOps E call ops (n + wid o.op) (i + 1) r (s.app o.dst (dlOf δ)) with
      | none => rfl
      | some q =>
        obtain ⟨t, l'⟩ := q
        simp only [Option.bind_some]
        rw [consF_append _ l', List.append_assoc]

theorem regionK_eq (hc : ∀ f as bs n k, callK f as bs n k = (call f as bs n).bind fun p => k p.1 p.2.1 p.2.2) (ops : List Oper) (draw : Bool) (s : St) (k : AX → St → Option R) : regionK E callK ops draw s k = (regionA E call ops draw s).bind fun p => k p.1 p.2 := by
  unfold regionK regionA
  rw [runOpsK_eq hc]
  cases runOps E call ops s.heap.length 0 ops ⟨s.env, s.heap ++ List.replicate (widL ops) none⟩ with
  | none => rfl
  | some p =>
    obtain ⟨t, l⟩ := p
    simp only [Option.bind_some, List.nil_append]
    cases draw <;> cases fpsOK (masks ops []) l <;> rfl

theorem runK_eq (hc : ∀ f as bs n k, callK f as bs n k = (call f as bs n).bind fun p => k p.1 p.2.1 p.2.2) (hl : ∀ i s k, loopK i s k = (loop i s).bind fun p => k p.1 p.2) : ∀ (c : Code) (n : Nat) (s : St) (k : AX → St → Option R),
    runK E callK loopK n c s k = (run E call loop n c s).bind fun p => k p.1 p.2 := by
  intro c
  induction c with
  | skip => intro n s k; rfl
  | region id ops draw => intro n s k; simp only [runK, run]; exact regionK_eq hc _ _ _ _
  | seq a b iha ihb =>
    intro n s k
    simp only [runK, run]
    rw [iha]
    cases run E call loop n a s with
    | none => rfl
    | some p =>
      obtain ⟨e, t⟩ := p
      cases e with
      | normal => simp only [Option.bind_some]; exact ihb _ _ _
      | _ => rfl
  | cond q a b iha ihb =>
    intro n s k
    simp only [runK, run]
    split
    · rename_i t hq
      split
      · rename_i d
        have hq' : s.env.getD d .top = .v (.bool t) := hq
        cases t
        · simp only [cond_false]; rw [setB_self hq']; exact ihb _ _ _
        · simp only [cond_true]; rw [setB_self hq']; exact iha _ _ _
      · cases t
        · simp only [cond_false]; exact ihb _ _ _
        · simp only [cond_true]; exact iha _ _ _
    · rfl
  | block id c ih =>
    intro n s k
    simp only [runK, run]
    rw [ih]
    cases run E call loop n c s with
    | none => rfl
    | some p =>
      obtain ⟨e, t⟩ := p
      cases e with
      | exit id' =>
        simp only [Option.bind_some]
        split <;> rfl
      | _ => rfl
  | scope c ih => intro n s k; simp only [runK, run]; exact ih _ _ _
  | label l => intro n s k; rfl
  | loop c _ => intro n s k; simp only [runK, run]; exact hl _ _ _
  | exit id => intro n s k; rfl
  | ret => intro n s k; rfl
  | _ => intro n s k; rfl

end

/-! Values told as plain data. -/

/-- of one cell -/
def Ty.one : Ty → Bool
  | .int _ | .bool | .str | .flt | .err | .sl _ | .ref _ | .clo _ _ | .hd _ => true
  | _ => false

theorem cellsT_one : ∀ (t : Ty) (x : Val t), t.one = true → ∃ z, cellsT t x = [z] ∧ encA t x = z
  | .int _, _, _ | .bool, _, _ | .str, _, _ | .flt, _, _ | .err, _, _ | .sl _, _, _ | .ref _, _, _ | .clo _ _, _, _ | .hd _, _, _ => ⟨_, rfl, rfl⟩

def decV (N : Names) (t : Ty) (x : AV) : Option (Val t) :=
  match t.isAgg with
  | true => match x with
    | .agg l => match decT N t l with
      | some (y, []) => some y
      | _ => none
    | _ => none
  | false => match t.one, x.isCell with
    | true, true => match decT N t [x] with
      | some (y, []) => some y
      | _ => none
    | _, _ => none

theorem decV_sound {R : RC} {L L' : Ref → Option Pl} {t : Ty} {x : AV} {y : Val t} {v : Value} (e : decV R.T.N t x = some y) (hx : Rep R L x v) : Rep R L' (encA t y) v := by
  unfold decV at e
  split at e
  · rename_i ha
    split at e
    · split at e
      · rename_i y' hd
        injection e with e
        subst e
        simp only [Rep] at hx
        obtain ⟨cs, rfl, hl⟩ := hx
        obtain ⟨d, r, h1, h2, h3⟩ := decT_sound t hd hl
        simp only [RepL] at h3
        subst h3
        unfold encA
        rw [ha]
        simp only [Rep]
        refine ⟨cs, rfl, ?_⟩
        rw [h1, List.append_nil]
        exact RepL.ofT t h2
      · cases e
    · cases e
  · split at e
    · rename_i h1t h1x
      split at e
      · rename_i y' hd
        injection e with e
        subst e
        obtain ⟨d, r, h1, h2, h3⟩ := decT_sound t hd (show RepL R L [x] [v] by simp only [RepL]; exact ⟨v, [], rfl, hx, rfl⟩)
        simp only [RepL] at h3
        subst h3
        rw [List.append_nil] at h1
        subst h1
        obtain ⟨z, hz, hz2⟩ := cellsT_one t y' h1t
        have := RepL.ofT (L := L') t h2
        rw [hz] at this
        simp only [RepL] at this
        obtain ⟨u, tl, hu, hr, _⟩ := this
        simp only [List.cons.injEq] at hu
        rw [hz2, hu.1]
        exact hr
      · cases e
    · cases e

def rowTy : List Ty → Ty
  | [] => .unit
  | t :: r => .pair t (rowTy r)

def encL : (ts : List Ty) → Val (rowTy ts) → List AV
  | [], _ => []
  | t :: r, x => encA t x.1 :: encL r x.2

def decL (N : Names) : (ts : List Ty) → List AV → Option (Val (rowTy ts))
  | [], [] => some ()
  | t :: r, x :: l => match decV N t x with
    | some y => match decL N r l with
      | some z => some (y, z)
      | none => none
    | none => none
  | _, _ => none

theorem decL_sound {R : RC} {L L' : Ref → Option Pl} : ∀ {ts : List Ty} {l : List AV} {x : Val (rowTy ts)} {vs : List Value}, decL R.T.N ts l = some x → RepL R L l vs → RepL R L' (encL ts x) vs
  | [], [], x, vs, _, h => by simpa only [encL, RepL] using h
  | [], _ :: _, _, _, e, _ => by simp [decL] at e
  | _ :: _, [], _, _, e, _ => by simp [decL] at e
  | t :: r, y :: l, x, vs, e, h => by
    simp only [decL] at e
    split at e
    · rename_i y' hy
      split at e
      · rename_i z hz
        injection e with e
        subst e
        simp only [RepL] at h
        obtain ⟨v, tl, rfl, hv, ht⟩ := h
        simp only [encL, RepL]
        exact ⟨v, tl, rfl, decV_sound hy hv, decL_sound hz ht⟩
      · cases e
    · cases e

theorem Sim.args {c : Ctx} {I : Nat → Prop} {L : Ref → Option Pl} {args args' : List AV} {h : List (Option Blk)} {a : Act} {w : World} (hs : Sim c I L ⟨args, h⟩ a w) (hr : RepL (c.rc I L w) L args' a.tmps.toList) : Sim c I L ⟨args', h⟩ a w :=
  ⟨hr, hs.defers, hs.blk, hs.dom, hs.own, hs.inj, hs.imm, hs.i0, hs.iN, hs.same, hs.fix, hs.bx, hs.grow, hs.io⟩

theorem Con.args {P : Program} {E : Env} {S : Ini} {f : FuncId} {ts : List Ty} {x : Val (rowTy ts)} {bs : List Blk} {b0 : Nat} {r : AV} {us : List Blk} {hp : List (Option Blk)} (h : Con P E S f (encL ts x) bs b0 r us hp) {args : List AV} (e : decL E.toNames ts args = some x) : Con P E S f args bs b0 r us hp := by
  intro w I L Rt B vs hW hb hs
  exact h w I L Rt B vs hW hb (hs.args (decL_sound (R := rcW (statOf E S) I L w) e hs.env))

end Go.Eng
