/-
  The abstract machine, part 11: each operation that makes a value alone (the last of them).
-/
import Derived.Test.YtnbpgehpjhifgaaDoorLxEngJ
namespace Go.Eng

section
variable {c : Ctx} {I : Nat → Prop} {L : Ref → Option Pl} {s : St} {a : Act} {w : World} {call : CallF}

theorem op_move (h : Sim c I L s a w) {x : Operand} {o : Oper} (ho : o.op = .move x ∨ o.op = .assign x) {newId : Nat} {δ : Dl} {rs : List Nat}
    (e : (aop c.E (aeval s.env) newId o.op).run call s.rd = some (δ, rs)) : OpOK c s a w o δ := by
  rcases ho with ho | ho <;>
  · rw [ho] at e
    simp only [aop] at e
    obtain ⟨rfl, rfl⟩ := HM.run_ret e
    exact OpOK.value h (by simp only [execOp, ho]; rfl) (h.eval x)

theorem op_unOp (h : Sim c I L s a w) {op : UnOp} {t : TypeId} {x : Operand} {o : Oper} (ho : o.op = .unOp op t x) {newId : Nat} {δ : Dl} {rs : List Nat}
    (e : (aop c.E (aeval s.env) newId o.op).run call s.rd = some (δ, rs)) : OpOK c s a w o δ := by
  rw [ho] at e
  simp only [aop] at e
  have hx := h.eval x
  split at e
  · rename_i b hav
    rw [hav] at hx
    simp only [Rep] at hx
    obtain ⟨rfl, rfl⟩ := HM.run_ret e
    exact OpOK.value h (by simp only [execOp, ho]; rw [hx]; simp [Op.unary]; rfl) (by simp [Rep])
  · rename_i k n hav
    rw [hav] at hx
    simp only [Rep] at hx
    obtain ⟨rfl, rfl⟩ := HM.run_ret e
    exact OpOK.value h (by simp only [execOp, ho]; rw [hx]; simp [Op.unary, Op.intArith]; rfl) (by simp [Rep])
  · cases e

theorem op_convert (h : Sim c I L s a w) (hE : EnvOK c.P c.E) {t t' : TypeId} {x : Operand} {o : Oper} (ho : o.op = .convert t t' x) {newId : Nat} {δ : Dl} {rs : List Nat}
    (e : (aop c.E (aeval s.env) newId o.op).run call s.rd = some (δ, rs)) : OpOK c s a w o δ := by
  rw [ho] at e
  simp only [aop] at e
  have hx := h.eval x
  obtain ⟨y, hy, rfl⟩ := run_vbind e
  clear e
  unfold convA at hy
  split at hy
  · rename_i si di hs hd
    obtain ⟨d1, i1, z1, hT1⟩ := hE.ty _ si hs
    obtain ⟨d2, i2, z2, hT2⟩ := hE.ty _ di hd
    have e1 := hT1.desc
    have e2 := hT2.desc
    split at hy
    · rename_i k1 k2 k3 n ht1 ht2 hav
      rw [ht1] at e1; rw [ht2] at e2; rw [hav] at hx
      obtain rfl := descOf_int e1
      obtain rfl := descOf_int e2
      simp only [Rep] at hx
      obtain ⟨rfl, rfl⟩ := HM.run_ret hy
      exact OpOK.value h (v := .int k2 (k2.wrap n)) (by simp only [execOp, ho]; rw [hx]; simp [convert, hT1.run_u, hT2.run_u, Conv.intToInt]) (by simp [Rep])
    · rename_i k1 k3 n ht1 ht2 hav
      rw [ht1] at e1; rw [ht2] at e2; rw [hav] at hx
      obtain rfl := descOf_int e1
      obtain rfl := descOf_float e2
      simp only [Rep] at hx
      obtain ⟨rfl, rfl⟩ := HM.run_ret hy
      exact OpOK.value h (v := .float .f64 (FloatKind.f64.nearest n)) (by simp only [execOp, ho]; rw [hx]; simp [convert, hT1.run_u, hT2.run_u, Conv.intToFloat]) (by simp [Rep])
    · rename_i k b ht1 ht2 hav
      rw [ht1] at e1; rw [ht2] at e2; rw [hav] at hx
      obtain rfl := descOf_float e1
      obtain rfl := descOf_int e2
      simp only [Rep] at hx
      obtain ⟨hck, hy⟩ := HM.run_chk hy
      obtain ⟨rfl, rfl⟩ := HM.run_ret hy
      refine OpOK.value h (v := .int k (ftoi b)) ?_ (by simp [Rep])
      simp only [execOp, ho]
      rw [hx]
      unfold ftoiOK at hck
      unfold ftoi
      cases hi : (FloatKind.f64.decode b).toInt .zero with
      | none => rw [hi] at hck; cases hck
      | some n =>
        rw [hi] at hck
        simp only [Bool.and_eq_true, decide_eq_true_eq] at hck
        simp [convert, hT1.run_u, hT2.run_u, Conv.floatToInt, hi, hck]
    · rename_i b ht1 ht2 hav
      rw [ht1] at e1; rw [ht2] at e2; rw [hav] at hx
      obtain rfl := descOf_str e1
      obtain rfl := descOf_str e2
      simp only [Rep] at hx
      obtain ⟨rfl, rfl⟩ := HM.run_ret hy
      exact OpOK.value h (v := .string b) (by simp only [execOp, ho]; rw [hx]; simp [convert, hT1.run_u, hT2.run_u]) (by simp [Rep])
    · cases hy
  · cases hy

theorem op_makeInterface (h : Sim c I L s a w) (hE : EnvOK c.P c.E) {t : TypeId} {x : Operand} {o : Oper} (ho : o.op = .makeInterface t x) {newId : Nat} {δ : Dl} {rs : List Nat}
    (e : (aop c.E (aeval s.env) newId o.op).run call s.rd = some (δ, rs)) : OpOK c s a w o δ := by
  rw [ho] at e
  simp only [aop] at e
  have hx := h.eval x
  split at e
  · rename_i ti hty
    obtain ⟨d, i, z, hT⟩ := hE.ty _ ti hty
    split at e
    · cases e
    · rename_i hne
      obtain ⟨rfl, rfl⟩ := HM.run_ret e
      refine OpOK.value h (v := .iface t (a.eval x)) ?_ (by simp only [Rep]; exact ⟨_, rfl, hx⟩)
      have hd := hT.desc
      simp only [execOp, ho]
      simp only [Sem.run_bind, Instr.makeInterface, hT.run_u, Result.andThen_ok]
      cases d with
      | interface ms => exact absurd hd.symm hne
      | _ => rfl
  · cases e

theorem op_makeFunc (h : Sim c I L s a w) {f : Fn} {x y : Array Operand} {o : Oper} (ho : o.op = .makeFunc f x y) {newId : Nat} {δ : Dl} {rs : List Nat}
    (e : (aop c.E (aeval s.env) newId o.op).run call s.rd = some (δ, rs)) : OpOK c s a w o δ := by
  rw [ho] at e
  simp only [aop] at e
  obtain ⟨rfl, rfl⟩ := HM.run_ret e
  refine OpOK.value h (v := .func f (x.map a.eval) (y.map a.eval)) (by simp only [execOp, ho]; rfl) ?_
  simp only [Rep]
  exact ⟨_, _, rfl, by simpa using h.evalL x.toList, by simpa using h.evalL y.toList⟩

theorem boundA_sound {R : RC} {L : Ref → Option Pl} {d n : Nat} {x : Option AV} {v : Option Value} {h : Ref → Option Blk} {rs : List Nat} (e : (boundA d x).run call h = some (n, rs))
    (hx : ∀ y, x = some y → ∃ u, v = some u ∧ Rep R L y u) (hn : x = none → v = none) : rs = [] ∧ ((v = none ∧ n = d) ∨ ∃ k m, v = some (.int k m) ∧ 0 ≤ m ∧ n = m.toNat) := by
  unfold boundA at e
  split at e
  · obtain ⟨rfl, rfl⟩ := HM.run_ret e
    exact ⟨rfl, .inl ⟨hn rfl, rfl⟩⟩
  · rename_i k m
    obtain ⟨h0, e⟩ := HM.run_chk e
    obtain ⟨rfl, rfl⟩ := HM.run_ret e
    obtain ⟨u, hu, hr⟩ := hx _ rfl
    simp only [Rep] at hr
    subst hr
    exact ⟨rfl, .inr ⟨k, m, hu, of_decide_eq_true h0, rfl⟩⟩
  · cases e

/-- the bounds of a slice expression -/
theorem run_bounds {P : Program} {w : World} (b : Bool) {len cap l hh : Nat} {vl vh : Option Value} (hl : (vl = none ∧ l = 0) ∨ ∃ k m, vl = some (.int k m) ∧ 0 ≤ m ∧ l = m.toNat)
    (hh' : (vh = none ∧ hh = len) ∨ ∃ k m, vh = some (.int k m) ∧ 0 ≤ m ∧ hh = m.toNat) (h1 : l ≤ hh) (h2 : hh ≤ len) (h3 : len ≤ cap) :
    (Instr.sliceBounds b len cap vl vh none).run P w = .ok (l, hh, cap) w := by
  rcases hl with ⟨rfl, rfl⟩ | ⟨k, m, rfl, hm, rfl⟩
  · rcases hh' with ⟨rfl, rfl⟩ | ⟨k', m', rfl, hm', rfl⟩
    · simp [Instr.sliceBounds]
    · have : 0 ≤ m' ∧ m' ≤ (cap : Int) := ⟨hm', by omega⟩
      simp [Instr.sliceBounds, Instr.sliceBound, asIntOf, this]
  · rcases hh' with ⟨rfl, rfl⟩ | ⟨k', m', rfl, hm', rfl⟩
    · have : 0 ≤ m ∧ m ≤ (hh : Int) := ⟨hm, by omega⟩
      simp [Instr.sliceBounds, Instr.sliceBound, asIntOf, this]
    · have h4 : 0 ≤ m' ∧ m' ≤ (cap : Int) := ⟨hm', by omega⟩
      have h5 : 0 ≤ m ∧ m ≤ max m' 0 := ⟨hm, by omega⟩
      simp [Instr.sliceBounds, Instr.sliceBound, asIntOf, h4, h5]

theorem opt_eval (h : Sim c I L s a w) (x : Option Operand) : (∀ y, x.map (aeval s.env) = some y → ∃ u, x.map a.eval = some u ∧ Rep (c.rc I L w) L y u) ∧ (x.map (aeval s.env) = none → x.map a.eval = none) := by
  cases x with
  | none => exact ⟨fun y hy => by simp at hy, fun _ => rfl⟩
  | some x => exact ⟨fun y hy => ⟨a.eval x, rfl, by simp at hy; subst hy; exact h.eval x⟩, fun hx => by simp at hx⟩

theorem op_slice (h : Sim c I L s a w) (hE : EnvOK c.P c.E) {t : TypeId} {x : Operand} {lo hi : Option Operand} {o : Oper} (ho : o.op = .slice t x lo hi none) {newId : Nat} {δ : Dl} {rs : List Nat}
    (e : (aop c.E (aeval s.env) newId o.op).run call s.rd = some (δ, rs)) : OpOK c s a w o δ := by
  rw [ho] at e
  simp only [aop] at e
  have hx := h.eval x
  obtain ⟨hlo1, hlo2⟩ := opt_eval h lo
  obtain ⟨hhi1, hhi2⟩ := opt_eval h hi
  split at e
  · rename_i ti hty
    obtain ⟨d, i, z, hT⟩ := hE.ty _ ti hty
    have hd := hT.desc
    split at e
    · rename_i el htd
      rw [htd] at hd
      obtain rfl := descOf_slice hd
      split at e
      · rename_i ei hei
        obtain ⟨d2, i2, z2, hT2⟩ := hE.ty _ ei hei
        obtain ⟨y, hy, rfl⟩ := run_vbind e
        clear e
        unfold sliceA at hy
        split at hy
        · rename_i u id i' n g hav
          rw [hav] at hx
          split at hy
          · rename_i hsz
            obtain ⟨l, l1, l2, e1, hy2, rfl⟩ := HM.run_bind hy
            obtain ⟨hh, l3, l4, e2, hy3, rfl⟩ := HM.run_bind hy2
            obtain ⟨h1, hy4⟩ := HM.run_chk hy3
            obtain ⟨h2, hy5⟩ := HM.run_chk hy4
            obtain ⟨rfl, rfl⟩ := HM.run_ret hy5
            have h1 := of_decide_eq_true h1
            have h2 := of_decide_eq_true h2
            obtain ⟨rfl, b1⟩ := boundA_sound e1 hlo1 hlo2
            obtain ⟨rfl, b2⟩ := boundA_sound e2 hhi1 hhi2
            simp only [Rep] at hx
            obtain ⟨p, hp, hw, hge, ad, cap, hs, hcap, hsome, hcur⟩ := hx
            have hrun := run_bounds (P := c.P) (w := w) true b1 b2 h1 h2 hcap
            refine OpOK.value h (v := .slice (if cap = l then ad else ad.map (·.add (l * ei.size))) (hh - l) (cap - l)) ?_ ?_
            · simp only [execOp, ho]
              rw [hs]
              simp only [Instr.sliceAt, Instr.slice, Sem.run_bind, hT.run_u, Result.andThen_ok, Option.map_none, hrun, hT2.run_size]
              rfl
            · simp only [Rep]
              refine ⟨p, hp, hw, hge, _, _, rfl, by omega, fun hne => ?_, fun hg => ?_⟩
              · have := hsome (by omega)
                split
                · exact this
                · simpa using this
              · by_cases hcl : cap = l
                · exact .inl (by omega)
                · rw [if_neg hcl]
                  rcases hcur hg with h0 | ⟨hv, had, hsize⟩
                  · omega
                  · refine .inr ⟨hv, ?_, ?_⟩
                    · rw [had, Option.map_some, addr_add, ← hsz, ← hw, Nat.add_assoc, ← Nat.add_mul]
                    · rw [show i' + l + (cap - l) = i' + cap from by omega]; exact hsize
          · cases hy
        · rename_i u l0 hav
          rw [hav] at hx
          split at hy
          · rename_i hsz
            obtain ⟨l, l1, l2, e1, hy2, rfl⟩ := HM.run_bind hy
            obtain ⟨hh, l3, l4, e2, hy3, rfl⟩ := HM.run_bind hy2
            obtain ⟨h1, hy4⟩ := HM.run_chk hy3
            obtain ⟨h2, hy5⟩ := HM.run_chk hy4
            obtain ⟨rfl, rfl⟩ := HM.run_ret hy5
            have h1 := of_decide_eq_true h1
            have h2 := of_decide_eq_true h2
            obtain ⟨rfl, b1⟩ := boundA_sound e1 hlo1 hlo2
            obtain ⟨rfl, b2⟩ := boundA_sound e2 hhi1 hhi2
            simp only [Rep] at hx
            obtain ⟨ad, cap, hs, hcap, hrow, hzz⟩ := hx
            simp only [List.cons.injEq, and_true] at hs
            have hrun := run_bounds (P := c.P) (w := w) true b1 b2 h1 h2 hcap
            have hlen : ((l0.drop l).take (hh - l)).length = hh - l := by simp; omega
            refine OpOK.value h (v := .slice (if cap = l then ad else ad.map (·.add (l * ei.size))) (hh - l) (cap - l)) ?_ ?_
            · simp only [execOp, ho]
              rw [hs]
              simp only [Instr.sliceAt, Instr.slice, Sem.run_bind, hT.run_u, Result.andThen_ok, Option.map_none, hrun, hT2.run_size]
              rfl
            · simp only [Rep]
              refine ⟨_, cap - l, by rw [hlen], by rw [hlen]; omega, fun hne => ?_, fun hz => ?_⟩
              rotate_left
              · have : ad = none := by
                  split at hz
                  · exact hz
                  · simpa using hz
                have := hzz this
                omega
              rw [hlen] at hne
              obtain ⟨b, ob, had, hb, hi⟩ := hrow (by omega)
              rw [if_neg (by omega)]
              refine ⟨b, ob + l * u.size, by rw [had, Option.map_some, addr_add, hsz], hb, fun j hj => ?_⟩
              rw [hlen] at hj
              rw [getD_cut l0 l (hh - l) j _ hj]
              obtain ⟨cc, hc, hat⟩ := hi (l + j) (by omega)
              refine ⟨cc, hc, ?_⟩
              rw [Nat.add_assoc, ← Nat.add_mul]
              exact hat
          · cases hy
        · cases hy
      · cases e
    · rename_i htd
      rw [htd] at hd
      obtain rfl := descOf_str hd
      split at e
      · rename_i str hav
        rw [hav] at hx
        simp only [Rep] at hx
        obtain ⟨y, hy, rfl⟩ := run_vbind e
        clear e
        unfold cutA at hy
        obtain ⟨l, l1, l2, e1, hy2, rfl⟩ := HM.run_bind hy
        obtain ⟨hh, l3, l4, e2, hy3, rfl⟩ := HM.run_bind hy2
        obtain ⟨h1, hy4⟩ := HM.run_chk hy3
        obtain ⟨h2, hy5⟩ := HM.run_chk hy4
        obtain ⟨rfl, rfl⟩ := HM.run_ret hy5
        have h1 := of_decide_eq_true h1
        have h2 := of_decide_eq_true h2
        obtain ⟨rfl, b1⟩ := boundA_sound e1 hlo1 hlo2
        obtain ⟨rfl, b2⟩ := boundA_sound e2 hhi1 hhi2
        have hrun := run_bounds (P := c.P) (w := w) false b1 b2 h1 h2 (Nat.le_refl _)
        refine OpOK.value h (v := .string (str.extract l hh)) ?_ (by simp [Rep])
        simp only [execOp, ho]
        rw [hx]
        simp [Instr.sliceAt, Instr.slice, hT.run_u, hrun]
      · cases e
    · cases e
  · cases e

end
end Go.Eng
