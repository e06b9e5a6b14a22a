/-
  The abstract machine, part 12: an index, a type's assertion, a tuple's part, a length, the greatest, the least.
-/
import Derived.Test.YtnbpgehpjhifgaaDoorLxEngK
namespace Go.Eng

section
variable {c : Ctx} {I : Nat → Prop} {L : Ref → Option Pl} {s : St} {a : Act} {w : World} {call : CallF}

theorem op_index (h : Sim c I L s a w) (hE : EnvOK c.P c.E) {t : TypeId} {x ix : Operand} {o : Oper} (ho : o.op = .index t x ix) {newId : Nat} {δ : Dl} {rs : List Nat}
    (e : (aop c.E (aeval s.env) newId o.op).run call s.rd = some (δ, rs)) : OpOK c s a w o δ := by
  rw [ho] at e
  simp only [aop] at e
  have hx := h.eval x
  obtain ⟨y, hy, rfl⟩ := run_vbind e
  clear e
  unfold indexA at hy
  split at hy
  · rename_i k0 k ti hix hty
    have hv := int?_sound hix (h.eval ix)
    obtain ⟨d, i, z, hT⟩ := hE.ty _ ti hty
    have hd := hT.desc
    split at hy
    · rename_i str htd hav
      rw [hav] at hx
      simp only [Rep] at hx
      rw [htd] at hd
      obtain rfl := descOf_str hd
      obtain ⟨h1, hy2⟩ := HM.run_chk hy
      obtain ⟨h2, hy3⟩ := HM.run_chk hy2
      obtain ⟨rfl, rfl⟩ := HM.run_ret hy3
      have h1 := of_decide_eq_true h1
      have h2 := of_decide_eq_true h2
      refine OpOK.value h (v := .int .u8 (byteS str k.toNat)) ?_ (by simp [Rep])
      simp only [execOp, ho]
      rw [hx, hv]
      have hb : str[k.toNat]? = some str[k.toNat] := by simp [h2]
      have hbs : ((str[k.toNat]).toNat : Int) = byteS str k.toNat := by
        unfold byteS
        rw [List.getD_eq_getElem?_getD]
        have : str.data.toList[k.toNat]? = some str[k.toNat] := by
          rw [List.getElem?_eq_getElem (by simpa using h2)]
          rfl
        rw [this]
        rfl
      simp [Instr.index, hT.run_u, asIntOf, h1, hb, hbs]
    · rename_i len el l htd hav
      rw [hav] at hx
      simp only [Rep] at hx
      obtain ⟨cs, hcs, hl⟩ := hx
      rw [htd] at hd
      obtain rfl := descOf_arr hd
      split at hy
      · rename_i ei hei
        obtain ⟨d2, i2, z2, hT2⟩ := hE.ty _ ei hei
        split at hy
        · rename_i hb
          obtain ⟨hm, rfl⟩ := HM.run_one hy
          obtain ⟨y', hrun, hr⟩ := run_part hT2 (w := w) hl hm
          refine OpOK.value h ?_ hr
          simp only [execOp, ho]
          rw [hcs, hv]
          have hb' : 0 ≤ k ∧ k < (len : Int) := ⟨hb.1, by omega⟩
          simp [Instr.index, hT.run_u, asIntOf, hb', hT2.run_size, hrun]
        · cases hy
      · cases hy
    · cases hy
  · cases hy

theorem oneZero_sound {P : Program} {N : Names} {t : TypeId} {ti : TyI} {d : TypeDesc} {i : TypeInfo} {z : Value} (hT : TyOK P N t ti d i z) (R : RC) (L : Ref → Option Pl) : Rep R L (oneZero ti) z := by
  have hz := hT.zeroL R L
  unfold oneZero
  split
  · rename_i ha
    obtain ⟨cs, rfl⟩ := hT.agg ha
    simp only [Rep]
    exact ⟨cs, rfl, hz⟩
  · rename_i ha
    have h1 := hT.one ha
    cases hzr : ti.zero with
    | nil => simp [Rep]
    | cons x r =>
      rw [hzr] at hz
      simp only [RepL] at hz
      obtain ⟨y, t', e, hy, _⟩ := hz
      cases z <;> first | (cases h1; done) | (simp only [Value.cells, List.cons.injEq] at e; obtain ⟨rfl, _⟩ := e; exact hy)

theorem op_typeAssert (h : Sim c I L s a w) (hE : EnvOK c.P c.E) (hne0 : c.E.atT ≠ c.E.errT) {t xt : TypeId} {x : Operand} {ok : Bool} {o : Oper} (ho : o.op = .typeAssert x xt t ok) {newId : Nat} {δ : Dl} {rs : List Nat}
    (e : (aop c.E (aeval s.env) newId o.op).run call s.rd = some (δ, rs)) : OpOK c s a w o δ := by
  rw [ho] at e
  simp only [aop] at e
  have hx := h.eval x
  obtain ⟨y, hy, rfl⟩ := run_vbind e
  clear e
  unfold typeAssertA at hy
  split at hy
  · cases hy
  · rename_i ti hty
    obtain ⟨d, i, z, hT⟩ := hE.ty _ ti hty
    have hd := hT.desc
    have hz := oneZero_sound hT (c.rc I L w) L
    split at hy
    · cases hy
    · rename_i hne
      have hni : ∀ ms, d ≠ .interface ms := by
        intro ms hd'
        subst hd'
        exact hne hd.symm
      split at hy
      · rename_i u y' hav
        rw [hav] at hx
        simp only [Rep] at hx
        obtain ⟨v, hv, hr⟩ := hx
        split at hy
        · rename_i hu
          obtain ⟨rfl, rfl⟩ := HM.run_ret hy
          subst hu
          refine OpOK.value h (v := .tuple #[v, .bool true]) ?_ (by simp only [Rep, RepL]; exact ⟨_, rfl, v, _, rfl, hr, .bool true, [], rfl, rfl, rfl⟩)
          simp only [execOp, ho]
          rw [hv]
          simp only [Instr.typeAssert, Sem.run_bind, hT.run_u, Result.andThen_ok]
          cases d <;> first | (exact absurd rfl (hni _)) | simp
        · rename_i hu
          obtain ⟨rfl, rfl⟩ := HM.run_ret hy
          refine OpOK.value h (v := .tuple #[z, .bool false]) ?_ (by simp only [Rep, RepL]; exact ⟨_, rfl, z, _, rfl, hz, .bool false, [], rfl, rfl, rfl⟩)
          simp only [execOp, ho]
          rw [hv]
          simp only [Instr.typeAssert, Sem.run_bind, hT.run_u, Result.andThen_ok]
          cases d <;> first | (exact absurd rfl (hni _)) | simp [hu, hT.run_zero]
      · rename_i u y' hav
        rw [hav] at hx
        simp only [Rep] at hx
        obtain ⟨v, hv, hr⟩ := hx
        split at hy
        · rename_i hu
          obtain ⟨rfl, rfl⟩ := HM.run_ret hy
          subst hu
          refine OpOK.value h (v := v) ?_ hr
          simp only [execOp, ho]
          rw [hv]
          simp only [Instr.typeAssert, Sem.run_bind, hT.run_u, Result.andThen_ok]
          cases d <;> first | (exact absurd rfl (hni _)) | simp
        · cases hy
      · rename_i hav
        rw [hav] at hx
        simp only [Rep] at hx
        obtain ⟨rfl, rfl⟩ := HM.run_ret hy
        refine OpOK.value h (v := .tuple #[z, .bool false]) ?_ (by simp only [Rep, RepL]; exact ⟨_, rfl, z, _, rfl, hz, .bool false, [], rfl, rfl, rfl⟩)
        simp only [execOp, ho]
        rw [hx]
        simp only [Instr.typeAssert, Sem.run_bind, hT.run_u, Result.andThen_ok]
        cases d <;> first | (exact absurd rfl (hni _)) | simp [hT.run_zero]
      · rename_i er hav
        rw [hav] at hx
        simp only [Rep] at hx
        split at hy
        · rename_i hat
          subst hat
          cases er with
          | nil =>
            simp only [Er.isAt, HM.run, Option.some.injEq, Prod.mk.injEq] at hy
            obtain ⟨rfl, rfl⟩ := hy
            simp only [RepE] at hx
            refine OpOK.value h (v := .tuple #[z, .bool false]) ?_ (by simp only [Rep, RepL]; exact ⟨_, rfl, z, _, rfl, hz, .bool false, [], rfl, rfl, rfl⟩)
            simp only [execOp, ho]
            rw [hx]
            simp only [Instr.typeAssert, Sem.run_bind, hT.run_u, Result.andThen_ok]
            cases d <;> first | (exact absurd rfl (hni _)) | simp [hT.run_zero]
          | s g =>
            simp only [Er.isAt, HM.run, Option.some.injEq, Prod.mk.injEq] at hy
            obtain ⟨rfl, rfl⟩ := hy
            simp only [RepE] at hx
            obtain ⟨_, hx⟩ := hx
            refine OpOK.value h (v := .tuple #[z, .bool false]) ?_ (by simp only [Rep, RepL]; exact ⟨_, rfl, z, _, rfl, hz, .bool false, [], rfl, rfl, rfl⟩)
            simp only [execOp, ho]
            rw [hx]
            have hu : ¬ (c.rc I L w).T.N.errT = c.E.atT := fun e => hne0 e.symm
            simp only [Instr.typeAssert, Sem.run_bind, hT.run_u, Result.andThen_ok]
            cases d <;> first | (exact absurd rfl (hni _)) | simp [hu, hT.run_zero]
          | «at» p g =>
            simp only [Er.isAt, HM.run, Option.some.injEq, Prod.mk.injEq] at hy
            obtain ⟨rfl, rfl⟩ := hy
            simp only [RepE] at hx
            obtain ⟨b, q, hx, hb, h1, hv, h2⟩ := hx
            refine OpOK.value h (v := .tuple #[.pointer (some ⟨b, q, none⟩), .bool true]) ?_ ?_
            · simp only [execOp, ho]
              rw [hx]
              have hu : (c.rc I L w).T.N.atT = c.E.atT := rfl
              simp only [Instr.typeAssert, Sem.run_bind, hT.run_u, Result.andThen_ok]
              cases d <;> first | (exact absurd rfl (hni _)) | simp [hu]
            · simp only [Rep, RepL, RepE, Er.pos, Er.gix]
              refine ⟨_, rfl, _, _, rfl, ⟨b, q, rfl, hb, [_, _], ⟨_, _, rfl, rfl, _, [], rfl, ⟨hv, rfl⟩, rfl⟩, ?_⟩, .bool true, [], rfl, rfl, rfl⟩
              intro j v hj
              match j with
              | 0 => simp only [List.getElem?_cons_zero, Option.some.injEq] at hj; subst hj; exact h1
              | 1 => simp only [List.getElem?_cons_succ, List.getElem?_cons_zero, Option.some.injEq] at hj; subst hj; exact h2
              | n + 2 => simp at hj
        · cases hy
      · cases hy

theorem op_extract (h : Sim c I L s a w) {t : Operand} {i : Nat} {o : Oper} (ho : o.op = .extract t i) {newId : Nat} {δ : Dl} {rs : List Nat}
    (e : (aop c.E (aeval s.env) newId o.op).run call s.rd = some (δ, rs)) : OpOK c s a w o δ := by
  rw [ho] at e
  simp only [aop] at e
  have hx := h.eval t
  split at e
  · rename_i l hav
    rw [hav] at hx
    simp only [Rep] at hx
    obtain ⟨cs, hv, hl⟩ := hx
    obtain ⟨y, hy0, rfl⟩ := run_vbind e
    obtain ⟨hy, rfl⟩ := HM.run_one hy0
    obtain ⟨v, hv', hr⟩ := hl.get i _ hy
    refine OpOK.value h (v := v) ?_ hr
    simp only [execOp, ho]
    rw [hv]
    have : cs[i]? = some v := by simpa using hv'
    simp [Instr.extract, this]
  · cases e

theorem lenA_sound {P : Program} {N : Names} {t : TypeId} {ti : TyI} {d : TypeDesc} {i : TypeInfo} {z : Value} (hT : TyOK P N t ti d i z) {R : RC} {L : Ref → Option Pl} {x : AV} {v : Value} {n : Nat} (e : lenA ti.desc x = some n)
    (hx : Rep R L x v) (w : World) (ts : Array TypeId) (ty : TypeId) (vs : Array Value) (ht : ts[0]? = some t) (hvs : vs[0]? = some v) : (Builtin.len_ ts ty vs).run P w = .ok (.int .i64 n) w := by
  have hd := hT.desc
  unfold lenA at e
  split at e
  · rename_i htd
    rw [htd] at hd
    obtain rfl := descOf_slice hd
    injection e with e
    subst e
    simp only [Rep] at hx
    obtain ⟨ad, cap, hs, _⟩ := hx
    simp only [List.cons.injEq, and_true] at hs
    subst hs
    simp [Builtin.len_, ht, hvs, hT.run_u, goInt]
  · rename_i htd
    rw [htd] at hd
    obtain rfl := descOf_slice hd
    injection e with e
    subst e
    simp only [Rep] at hx
    subst hx
    simp [Builtin.len_, ht, hvs, hT.run_u, goInt]
  · rename_i htd
    rw [htd] at hd
    obtain rfl := descOf_slice hd
    injection e with e
    subst e
    simp only [Rep] at hx
    obtain ⟨p, _, _, _, ad, cap, rfl, _⟩ := hx
    simp [Builtin.len_, ht, hvs, hT.run_u, goInt]
  · rename_i htd
    rw [htd] at hd
    obtain rfl := descOf_str hd
    injection e with e
    subst e
    simp only [Rep] at hx
    subst hx
    simp [Builtin.len_, ht, hvs, hT.run_u, goInt]
  · cases e

theorem fold2_sound {P : Program} {w : World} {R : RC} {L : Ref → Option Pl} {f : Int → Int → Int} {g : Value → Value → Sem Value} (hg : ∀ k a b, (g (.int k a) (.int k b)).run P w = .ok (.int k (f a b)) w) :
    ∀ {l : List AV} {vs : List Value} {x z : AV} {v : Value}, fold2 f x l = some z → Rep R L x v → RepL R L l vs → ∃ u, (vs.foldlM g v).run P w = .ok u w ∧ Rep R L z u
  | [], vs, x, z, v, e, hx, hl => by
    simp only [fold2, Option.some.injEq] at e
    subst e
    simp only [RepL] at hl
    subst hl
    exact ⟨v, rfl, hx⟩
  | y :: r, vs, x, z, v, e, hx, hl => by
    unfold fold2 at e
    split at e
    · rename_i h; cases h
    · rename_i k a k' b r' heq
      simp only [List.cons.injEq] at heq
      obtain ⟨rfl, rfl⟩ := heq
      split at e
      · rename_i hk
        have := sameK_eq hk
        subst this
        simp only [RepL] at hl
        obtain ⟨u, t, rfl, hu, ht⟩ := hl
        simp only [Rep] at hx hu
        subst hx; subst hu
        obtain ⟨u', h1, h2⟩ := fold2_sound hg (v := .int k (f a b)) e (by simp [Rep]) ht
        exact ⟨u', by simp only [List.foldlM_cons, Sem.run_bind, hg, Result.andThen_ok]; exact h1, h2⟩
      · cases e
    · cases e

theorem op_builtin (h : Sim c I L s a w) {cl : Call} {o : Oper} (ho : o.op = .call cl) {b : Builtin} (hb : cl.callee = .builtin b) {x : AV} {v : Value} (hx : Rep (c.rc I L w) L x v)
    (hrun : ((builtin b cl.argTypes o.type (cl.args.map fun | .const _ => true | _ => false) (cl.args.map a.eval)).run c.P w = .ok (.value v) w)) : OpOK c s a w o (val x) := by
  refine OpOK.value h (v := v) ?_ hx
  simp only [execOp, ho, resolve, hb, invoke]
  exact hrun

theorem op_len (h : Sim c I L s a w) (hE : EnvOK c.P c.E) {cl : Call} {o : Oper} (ho : o.op = .call cl) (hb : cl.callee = .builtin .len) {newId : Nat} {δ : Dl} {rs : List Nat}
    (e : (aop c.E (aeval s.env) newId o.op).run call s.rd = some (δ, rs)) : OpOK c s a w o δ := by
  rw [ho] at e
  simp only [aop, hb] at e
  have hargs := h.evalL cl.args.toList
  generalize hts : cl.argTypes.toList = ts at e
  generalize has : cl.args.toList.map (aeval s.env) = as at e hargs
  unfold builtinA at e
  split at e <;> try (rename_i hbb; cases hbb; done)
  · rename_i t ts' x' _
    simp only [RepL] at hargs
    obtain ⟨v, tl, hvs, hv, rfl⟩ := hargs
    split at e
    · rename_i ti hty
      obtain ⟨d, i, z, hT⟩ := hE.ty _ ti hty
      split at e
      · rename_i n hn
        obtain ⟨rfl, rfl⟩ := HM.run_ret e
        refine op_builtin h ho hb (v := .int .i64 n) (by simp [Rep]) ?_
        simp only [builtin, Sem.run_bind]
        rw [lenA_sound hT hn hv w cl.argTypes o.type (cl.args.map a.eval) (by rw [← Array.getElem?_toList, hts]; rfl) (by rw [← Array.getElem?_toList, Array.toList_map, hvs]; rfl)]
        rfl
      · cases e
    · cases e
  · cases e

theorem op_max (h : Sim c I L s a w) {cl : Call} {o : Oper} (ho : o.op = .call cl) (hb : cl.callee = .builtin .max) {newId : Nat} {δ : Dl} {rs : List Nat}
    (e : (aop c.E (aeval s.env) newId o.op).run call s.rd = some (δ, rs)) : OpOK c s a w o δ := by
  rw [ho] at e
  simp only [aop, hb] at e
  have hargs := h.evalL cl.args.toList
  generalize hts : cl.argTypes.toList = ts at e
  generalize has : cl.args.toList.map (aeval s.env) = as at e hargs
  unfold builtinA at e
  split at e <;> try (rename_i hbb; cases hbb; done)
  · rename_i x' r _
    simp only [RepL] at hargs
    obtain ⟨v, tl, hvs, hv, htl⟩ := hargs
    obtain ⟨y, hy0, rfl⟩ := run_vbind e
    obtain ⟨hy, rfl⟩ := HM.run_one hy0
    obtain ⟨u, hu, hr⟩ := fold2_sound (P := c.P) (w := w) (g := Builtin.max2) (fun k a b => by simp [Builtin.max2, imax]) hy hv htl
    refine op_builtin h ho hb (v := u) hr ?_
    have : (cl.args.map a.eval).toList = v :: tl := by rw [Array.toList_map, hvs]
    simp only [builtin, Sem.run_bind, Builtin.max_, this, hu]
    rfl
  · cases e

theorem op_min (h : Sim c I L s a w) {cl : Call} {o : Oper} (ho : o.op = .call cl) (hb : cl.callee = .builtin .min) {newId : Nat} {δ : Dl} {rs : List Nat}
    (e : (aop c.E (aeval s.env) newId o.op).run call s.rd = some (δ, rs)) : OpOK c s a w o δ := by
  rw [ho] at e
  simp only [aop, hb] at e
  have hargs := h.evalL cl.args.toList
  generalize hts : cl.argTypes.toList = ts at e
  generalize has : cl.args.toList.map (aeval s.env) = as at e hargs
  unfold builtinA at e
  split at e <;> try (rename_i hbb; cases hbb; done)
  · rename_i x' r _
    simp only [RepL] at hargs
    obtain ⟨v, tl, hvs, hv, htl⟩ := hargs
    obtain ⟨y, hy0, rfl⟩ := run_vbind e
    obtain ⟨hy, rfl⟩ := HM.run_one hy0
    obtain ⟨u, hu, hr⟩ := fold2_sound (P := c.P) (w := w) (g := Builtin.min2) (fun k a b => by simp [Builtin.min2, imin]) hy hv htl
    refine op_builtin h ho hb (v := u) hr ?_
    have : (cl.args.map a.eval).toList = v :: tl := by rw [Array.toList_map, hvs]
    simp only [builtin, Sem.run_bind, Builtin.min_, this, hu]
    rfl
  · cases e

end
end Go.Eng
