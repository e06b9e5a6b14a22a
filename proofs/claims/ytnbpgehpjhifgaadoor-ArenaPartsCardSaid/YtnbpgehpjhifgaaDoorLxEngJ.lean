/-
  The abstract machine, part 10: each operation that makes a value alone (the rest).
-/
import Derived.Test.YtnbpgehpjhifgaaDoorLxEngI
namespace Go.Eng

section
variable {c : Ctx} {I : Nat → Prop} {L : Ref → Option Pl} {s : St} {a : Act} {w : World} {call : CallF}

theorem op_pick (h : Sim c I L s a w) {x y z : Operand} {o : Oper} (ho : o.op = .pick x y z) {newId : Nat} {δ : Dl} {rs : List Nat}
    (e : (aop c.E (aeval s.env) newId o.op).run call s.rd = some (δ, rs)) : OpOK c s a w o δ := by
  rw [ho] at e
  simp only [aop] at e
  have hx := h.eval x
  split at e
  · rename_i t hav
    rw [hav] at hx
    simp only [Rep] at hx
    cases t with
    | true =>
      obtain ⟨rfl, rfl⟩ := HM.run_ret (call := call) (h := s.rd) e
      exact OpOK.value h (by simp only [execOp, ho]; rw [hx]; simp [asBool]) (h.eval y)
    | false =>
      obtain ⟨rfl, rfl⟩ := HM.run_ret (call := call) (h := s.rd) e
      exact OpOK.value h (by simp only [execOp, ho]; rw [hx]; simp [asBool]) (h.eval z)
  · cases e

theorem op_nilCheck (h : Sim c I L s a w) {x : Operand} {o : Oper} (ho : o.op = .nilCheck x) {newId : Nat} {δ : Dl} {rs : List Nat}
    (e : (aop c.E (aeval s.env) newId o.op).run call s.rd = some (δ, rs)) : OpOK c s a w o δ := by
  rw [ho] at e
  simp only [aop] at e
  have hx := h.eval x
  have hx' := hx
  split at e
  · rename_i hav
    rw [hav] at hx
    simp only [Rep] at hx
    obtain ⟨_, _, _, q, hq, _⟩ := hx
    obtain ⟨rfl, rfl⟩ := HM.run_ret e
    exact OpOK.value h (by simp only [execOp, ho]; rw [hq]; rfl) (by rw [← hav, ← hq]; exact hx')
  · rename_i hav
    rw [hav] at hx
    simp only [Rep] at hx
    obtain ⟨rfl, rfl⟩ := HM.run_ret e
    exact OpOK.value h (by simp only [execOp, ho]; rw [hx]; rfl) (by rw [← hav, ← hx]; exact hx')
  · rename_i hav
    rw [hav] at hx
    simp only [Rep] at hx
    obtain ⟨_, _, hq, _⟩ := hx
    obtain ⟨rfl, rfl⟩ := HM.run_ret e
    exact OpOK.value h (by simp only [execOp, ho]; rw [hq]; rfl) (by rw [← hav, ← hq]; exact hx')
  · rename_i hav
    rw [hav] at hx
    simp only [Rep] at hx
    obtain ⟨_, hq, _⟩ := hx
    obtain ⟨rfl, rfl⟩ := HM.run_ret e
    exact OpOK.value h (by simp only [execOp, ho]; rw [hq]; rfl) (by rw [← hav, ← hq]; exact hx')
  · rename_i hav
    rw [hav] at hx
    simp only [Rep] at hx
    obtain ⟨_, _, hq, _⟩ := hx
    obtain ⟨rfl, rfl⟩ := HM.run_ret e
    exact OpOK.value h (by simp only [execOp, ho]; rw [hq]; rfl) (by rw [← hav, ← hq]; exact hx')
  · rename_i k x' hav
    rw [hav] at hx
    simp only [Rep] at hx
    obtain ⟨hs, e⟩ := HM.run_chk e
    obtain ⟨rfl, rfl⟩ := HM.run_ret e
    cases x' with
    | none => cases hs
    | some i =>
      obtain ⟨b, hb, hq⟩ := hx
      injection hq with hq
      obtain ⟨p, hp, hpb, hpo, hv, hg, _⟩ := h.objL hb
      refine OpOK.value h (v := .pointer (some ⟨b, 0, none⟩)) (by simp only [execOp, ho]; rw [hq]; rfl) ?_
      simp only [Rep, Option.getD_some]
      exact ⟨p, hp, Nat.zero_le _, _, rfl, fun _ => by simp [hpb, hpo]⟩
  · cases e

theorem binS_sound {op : BinOp} {x y : ByteArray} {t : TypeId} {h : Ref → Option Blk} {z : AV} {rs : List Nat} (e : (binS op x y).run call h = some (z, rs)) (P : Program) (w : World) :
    ∃ v, (binOp op t (.string x) (.string y)).run P w = .ok v w ∧ z = .v v := by
  unfold binS at e
  split at e
  · obtain ⟨rfl, rfl⟩ := HM.run_ret e; exact ⟨_, by simp [binOp, Op.stringOp], rfl⟩
  · obtain ⟨rfl, rfl⟩ := HM.run_ret e; exact ⟨_, by simp [binOp, Op.stringOp], rfl⟩
  · obtain ⟨rfl, rfl⟩ := HM.run_ret e; exact ⟨_, by simp [binOp, Op.stringOp], rfl⟩
  · obtain ⟨rfl, rfl⟩ := HM.run_ret e; exact ⟨_, by simp [binOp, Op.stringOp], rfl⟩
  · obtain ⟨h0, e⟩ := HM.run_chk e
    have h0 := of_decide_eq_true h0
    obtain ⟨rfl, rfl⟩ := HM.run_ret e
    refine ⟨.string (x ++ y), ?_, rfl⟩
    have : ¬ (IntKind.max .i64 < ((x.size + y.size : Nat) : Int)) := by
      have : IntKind.max .i64 = 9223372036854775807 := by decide
      omega
    simp only [binOp, Op.stringOp, gt_iff_lt, this, if_false, Sem.run_pure]
  · cases e

theorem binF_sound {op : BinOp} {x y : Nat} {t : TypeId} {h : Ref → Option Blk} {z : AV} {rs : List Nat} (e : (binF op x y).run call h = some (z, rs)) (P : Program) (w : World) :
    ∃ v, (binOp op t (.float .f64 x) (.float .f64 y)).run P w = .ok v w ∧ z = .v v := by
  unfold binF at e
  have ar : ∀ op, (op = BinOp.add ∨ op = .sub ∨ op = .mul ∨ op = .quo) → ∀ r, fbin op x y = some r → (binOp op t (.float .f64 x) (.float .f64 y)).run P w = .ok (.float .f64 r) w := by
    intro op hop r hr
    rcases hop with rfl | rfl | rfl | rfl <;> simp only [fbin] at hr <;> simp [binOp, Op.floatArith, hr]
  split at e
  · obtain ⟨h0, e⟩ := HM.run_chk e
    obtain ⟨rfl, rfl⟩ := HM.run_ret e
    obtain ⟨r, hr⟩ := Option.isSome_iff_exists.1 h0
    exact ⟨_, ar _ (by simp) r hr, by rw [hr]; rfl⟩
  · obtain ⟨h0, e⟩ := HM.run_chk e
    obtain ⟨rfl, rfl⟩ := HM.run_ret e
    obtain ⟨r, hr⟩ := Option.isSome_iff_exists.1 h0
    exact ⟨_, ar _ (by simp) r hr, by rw [hr]; rfl⟩
  · obtain ⟨h0, e⟩ := HM.run_chk e
    obtain ⟨rfl, rfl⟩ := HM.run_ret e
    obtain ⟨r, hr⟩ := Option.isSome_iff_exists.1 h0
    exact ⟨_, ar _ (by simp) r hr, by rw [hr]; rfl⟩
  · obtain ⟨h0, e⟩ := HM.run_chk e
    obtain ⟨rfl, rfl⟩ := HM.run_ret e
    obtain ⟨r, hr⟩ := Option.isSome_iff_exists.1 h0
    exact ⟨_, ar _ (by simp) r hr, by rw [hr]; rfl⟩
  · obtain ⟨rfl, rfl⟩ := HM.run_ret e; exact ⟨_, by simp [binOp, Op.floatCmp], rfl⟩
  · obtain ⟨rfl, rfl⟩ := HM.run_ret e; exact ⟨_, by simp [binOp, Op.floatCmp], rfl⟩
  · obtain ⟨rfl, rfl⟩ := HM.run_ret e; exact ⟨_, by simp [binOp, Op.floatCmp], rfl⟩
  · obtain ⟨rfl, rfl⟩ := HM.run_ret e; exact ⟨_, by simp [binOp, Op.floatCmp], rfl⟩
  · obtain ⟨rfl, rfl⟩ := HM.run_ret e; exact ⟨_, by simp [binOp, Op.floatCmp], rfl⟩
  · obtain ⟨rfl, rfl⟩ := HM.run_ret e; exact ⟨_, by simp [binOp, Op.floatCmp], rfl⟩
  · cases e

theorem eqGuard_num {P : Program} {w : World} (op : BinOp) (t : TypeId) (ox oy : Operand) {v u : Value} (hv : ∀ l, v ≠ .agg l) (hn : v ≠ .nilIface) : (eqGuard op t ox oy v u).run P w = .ok () w := by
  unfold eqGuard
  cases v <;> cases u <;> first | (exact absurd rfl hn) | (exact absurd rfl (hv _)) | (simp; split <;> rfl) | simp

theorem op_binOp (h : Sim c I L s a w) (hE : EnvOK c.P c.E) (hW : WOK c.P c.E c.S c.w0) {op : BinOp} {t t' : TypeId} {x y : Operand} {o : Oper} (ho : o.op = .binOp op t x y t') {newId : Nat} {δ : Dl} {rs : List Nat}
    (e : (aop c.E (aeval s.env) newId o.op).run call s.rd = some (δ, rs)) : OpOK c s a w o δ := by
  rw [ho] at e
  simp only [aop] at e
  have hx := h.eval x
  have hy := h.eval y
  obtain ⟨z, hz, rfl⟩ := run_vbind e
  clear e
  have fin : ∀ {v u r : Value}, a.eval x = v → a.eval y = u → (eqGuard op t x y v u).run c.P w = .ok () w → (binOp op t v u).run c.P w = .ok r w → Rep (c.rc I L w) L z r → OpOK c s a w o (val z) := by
    intro v u r hv hu hg hb hr
    refine OpOK.value h (v := r) ?_ hr
    simp only [execOp, ho]
    rw [hv, hu]
    simp [hg, hb]
  unfold binA at hz
  split at hz
  · rename_i k n k' m hvx hvy
    rw [hvx] at hx; rw [hvy] at hy
    simp only [Rep] at hx hy
    obtain ⟨v, hv, rfl⟩ := binI_sound hz c.P w (t := t)
    exact fin hx hy (eqGuard_num _ _ _ _ (by simp) (by simp)) hv (by simp [Rep])
  · rename_i n m hvx hvy
    rw [hvx] at hx; rw [hvy] at hy
    simp only [Rep] at hx hy
    obtain ⟨v, hv, rfl⟩ := binF_sound hz c.P w (t := t)
    exact fin hx hy (eqGuard_num _ _ _ _ (by simp) (by simp)) hv (by simp [Rep])
  · rename_i n m hvx hvy
    rw [hvx] at hx; rw [hvy] at hy
    simp only [Rep] at hx hy
    obtain ⟨v, hv, rfl⟩ := binS_sound hz c.P w (t := t)
    exact fin hx hy (eqGuard_num _ _ _ _ (by simp) (by simp)) hv (by simp [Rep])
  · split at hz
    · cases hz
    · rename_i hn1 hn2 hn3 _ ti hty
      obtain ⟨d, i, zz, hT⟩ := hE.ty _ ti hty
      split at hz
      · obtain ⟨b, l1, l2, h1, h2, rfl⟩ := HM.run_bind hz
        obtain ⟨rfl, rfl⟩ := HM.run_ret h2
        obtain ⟨g1, g2, g3⟩ := eqA_sound hE hT hW (fun b hb => h.same b (h.fix b hb).1 (h.fix b hb).2) h.objInj h.objCell rfl hx hy h1 (op := .eql)
        refine fin rfl rfl g1 (r := .bool b) ?_ (by simp [Rep])
        exact (binOp_eq g3 g2).1
      · obtain ⟨b, l1, l2, h1, h2, rfl⟩ := HM.run_bind hz
        obtain ⟨rfl, rfl⟩ := HM.run_ret h2
        obtain ⟨g1, g2, g3⟩ := eqA_sound hE hT hW (fun b hb => h.same b (h.fix b hb).1 (h.fix b hb).2) h.objInj h.objCell rfl hx hy h1 (op := .neq)
        refine fin rfl rfl g1 (r := .bool !b) ?_ (by simp [Rep])
        exact (binOp_eq g3 g2).2
      · cases hz

end
end Go.Eng
