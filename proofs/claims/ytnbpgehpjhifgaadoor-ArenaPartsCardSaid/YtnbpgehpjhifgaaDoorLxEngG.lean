/-
  The abstract machine, part 7: the other operations that make a value alone.
-/
import Derived.LaidEql
import Derived.Test.YtnbpgehpjhifgaaDoorLxEngF
namespace Go.Eng

section
variable {c : Ctx} {I : Nat → Prop} {L : Ref → Option Pl} {s : St} {a : Act} {w : World} {call : CallF}

theorem descOf_bool {P : Program} {d : TypeDesc} (h : descOf P d = .bool) : d = .bool := by cases d <;> simp [descOf] at h ⊢
theorem descOf_iface {P : Program} {d : TypeDesc} (h : descOf P d = .iface) : ∃ ms, d = .interface ms := by cases d <;> simp [descOf] at h ⊢
theorem descOf_ptr {P : Program} {d : TypeDesc} {e : TypeId} (h : descOf P d = .ptr e) : d = .pointer e := by cases d <;> simp [descOf] at h ⊢; exact h
theorem descOf_slice {P : Program} {d : TypeDesc} {e : TypeId} (h : descOf P d = .slice e) : d = .slice e := by cases d <;> simp [descOf] at h ⊢; exact h
theorem descOf_int {P : Program} {d : TypeDesc} {k : IntKind} (h : descOf P d = .int k) : d = .int k := by cases d <;> simp [descOf] at h ⊢; exact h
theorem descOf_float {P : Program} {d : TypeDesc} {k : FloatKind} (h : descOf P d = .float k) : d = .float k := by cases d <;> simp [descOf] at h ⊢; exact h
theorem descOf_str {P : Program} {d : TypeDesc} (h : descOf P d = .str) : d = .string := by cases d <;> simp [descOf] at h ⊢
theorem descOf_arr {P : Program} {d : TypeDesc} {n : Nat} {e : TypeId} (h : descOf P d = .arr n e) : d = .array n e := by cases d <;> simp [descOf] at h ⊢; exact h
theorem descOf_struct {P : Program} {d : TypeDesc} {l : List (TypeId × Nat × Nat)} (h : descOf P d = .struct l) : ∃ fs : Array Field, d = .struct fs ∧ fs.toList.map (fun f => (f.type, f.offset, P.cellsOf f.type)) = l := by
  cases d <;> simp [descOf] at h ⊢; exact h

theorem eqGuard_const {P : Program} {w : World} (op : BinOp) (t : TypeId) (ox oy : Operand) (hc : (isConst ox || isConst oy) = true) : (eqGuard op t ox oy .nilIface .nilIface).run P w = .ok () w := by
  cases op <;> first | rfl | (cases ox <;> cases oy <;> first | rfl | (simp [isConst] at hc))

theorem eq_run {P : Program} {t : TypeId} {v u : Value} {b : Bool} (h : ∀ n, (Op.equalIn (n + 1) t v u).run P w = .ok b w) : (Op.equal t v u).run P w = .ok b w := h 9999

/-- no number and no text -/
def notNum : Value → Bool
  | .bool _ | .nilIface | .iface _ _ | .pointer _ | .slice _ _ _ => true
  | _ => false

theorem binOp_eq {P : Program} {t : TypeId} {v u : Value} {b : Bool} (hn : notNum v = true) (h : (Op.equal t v u).run P w = .ok b w) :
    (binOp .eql t v u).run P w = .ok (.bool b) w ∧ (binOp .neq t v u).run P w = .ok (.bool !b) w := by
  cases v <;> first | (cases hn; done) | (cases u <;> simp [binOp, h])

set_option maxHeartbeats 2000000 in
theorem eqA_sound {P : Program} {t : TypeId} {ti : TyI} {d : TypeDesc} {i : TypeInfo} {z : Value} {E : Env} (hE : EnvOK P E) {S : Ini} {w0 : World} (hT : TyOK P E.toNames t ti d i z) (hW : WOK P E S w0)
    (hsame : ∀ b, S.G b → w.heap[b]? = w0.heap[b]?) {R : RC} (hinj : ∀ k i j b, R.H k i = some b → R.H k j = some b → i = j) (hcell : ∀ k i b, R.H k i = some b → ∃ cs T, w.heap[b]? = some (.cells cs T (0, 0))) (hR : R.T = statOf E S) {op : BinOp} {ox oy : Operand} {x y : AV} {v u : Value} (hx : Rep R L x v) (hy : Rep R L y u) {h : Ref → Option Blk} {b : Bool} {rs : List Nat}
    (e : (eqA ti.desc (someE E ti.desc) (isConst ox || isConst oy) x y).run call h = some (b, rs)) : (eqGuard op t ox oy v u).run P w = .ok () w ∧ (Op.equal t v u).run P w = .ok b w ∧ notNum v = true := by
  have hg := eqGuard_const (P := P) (w := w) op t ox oy
  have hd := hT.desc
  have hu := hT.run_u
  unfold eqA at e
  split at e
  · rename_i p q htd
    rw [htd] at hd
    obtain rfl := descOf_bool hd
    simp only [Rep] at hx hy
    subst hx; subst hy
    obtain ⟨rfl, rfl⟩ := HM.run_ret e
    exact ⟨by simp [eqGuard], eq_run fun n => by simp [Op.equalIn, hu], rfl⟩
  · rename_i htd
    rw [htd] at hd
    obtain ⟨ms, rfl⟩ := descOf_iface hd
    simp only [Rep] at hx hy
    subst hx; subst hy
    split at e
    · rename_i hc
      obtain ⟨rfl, rfl⟩ := HM.run_ret e
      exact ⟨hg hc, eq_run fun n => by simp [Op.equalIn, hu], rfl⟩
    · cases e
  · rename_i htd
    rw [htd] at hd
    obtain ⟨ms, rfl⟩ := descOf_iface hd
    simp only [Rep] at hx hy
    subst hx
    obtain ⟨z1, rfl, _⟩ := hy
    obtain ⟨rfl, rfl⟩ := HM.run_ret e
    exact ⟨by simp [eqGuard], eq_run fun n => by simp [Op.equalIn, hu], rfl⟩
  · rename_i htd
    rw [htd] at hd
    obtain ⟨ms, rfl⟩ := descOf_iface hd
    simp only [Rep] at hx hy
    subst hy
    obtain ⟨z1, rfl, _⟩ := hx
    obtain ⟨rfl, rfl⟩ := HM.run_ret e
    exact ⟨by simp [eqGuard], eq_run fun n => by simp [Op.equalIn, hu], rfl⟩
  · rename_i er htd
    rw [htd] at hd
    obtain ⟨ms, rfl⟩ := descOf_iface hd
    simp only [Rep] at hx hy
    subst hy
    split at e
    · rename_i hc
      obtain ⟨rfl, rfl⟩ := HM.run_ret e
      cases er with
      | nil => simp only [RepE] at hx; subst hx; exact ⟨hg hc, eq_run fun n => by simp [Op.equalIn, hu, Er.isNil], rfl⟩
      | s g => simp only [RepE] at hx; obtain ⟨_, rfl⟩ := hx; exact ⟨by simp [eqGuard], eq_run fun n => by simp [Op.equalIn, hu, Er.isNil], rfl⟩
      | «at» p g => simp only [RepE] at hx; obtain ⟨_, _, rfl, _⟩ := hx; exact ⟨by simp [eqGuard], eq_run fun n => by simp [Op.equalIn, hu, Er.isNil], rfl⟩
    · cases e
  · rename_i er htd
    rw [htd] at hd
    obtain ⟨ms, rfl⟩ := descOf_iface hd
    simp only [Rep] at hx hy
    subst hx
    split at e
    · rename_i hc
      obtain ⟨rfl, rfl⟩ := HM.run_ret e
      cases er with
      | nil => simp only [RepE] at hy; subst hy; exact ⟨hg hc, eq_run fun n => by simp [Op.equalIn, hu, Er.isNil], rfl⟩
      | s g => simp only [RepE] at hy; obtain ⟨_, rfl⟩ := hy; exact ⟨by simp [eqGuard], eq_run fun n => by simp [Op.equalIn, hu, Er.isNil], rfl⟩
      | «at» p g => simp only [RepE] at hy; obtain ⟨_, _, rfl, _⟩ := hy; exact ⟨by simp [eqGuard], eq_run fun n => by simp [Op.equalIn, hu, Er.isNil], rfl⟩
    · cases e
  · rename_i e1 e2 htd
    rw [htd] at hd
    obtain ⟨ms, rfl⟩ := descOf_iface hd
    obtain ⟨hok, e⟩ := HM.run_chk e
    obtain ⟨rfl, rfl⟩ := HM.run_ret e
    simp only [Rep] at hx hy
    cases e1 with
    | nil =>
      simp only [RepE] at hx
      subst hx
      cases e2 with
      | nil => cases hok
      | s g => simp only [RepE] at hy; obtain ⟨_, rfl⟩ := hy; exact ⟨by simp [eqGuard], eq_run fun n => by simp [Op.equalIn, hu], rfl⟩
      | «at» p g => simp only [RepE] at hy; obtain ⟨_, _, rfl, _⟩ := hy; exact ⟨by simp [eqGuard], eq_run fun n => by simp [Op.equalIn, hu], rfl⟩
    | s g =>
      simp only [RepE] at hx
      obtain ⟨hv, rfl⟩ := hx
      cases e2 with
      | nil => simp only [RepE] at hy; subst hy; exact ⟨by simp [eqGuard], eq_run fun n => by simp [Op.equalIn, hu], rfl⟩
      | s g' =>
        simp only [RepE] at hy
        obtain ⟨hv', rfl⟩ := hy
        rw [hR] at hv hv' ⊢
        refine ⟨by simp [eqGuard], ?_, rfl⟩
        have := hW.eqs w hsame t ms hT.u g g' hv hv'
        simpa [statOf] using this
      | «at» p g' =>
        simp only [RepE] at hy
        obtain ⟨_, _, rfl, _⟩ := hy
        have hne : R.T.N.errT ≠ R.T.N.atT := by rw [hR]; exact fun h => hW.ne h.symm
        exact ⟨by simp [eqGuard], eq_run fun n => by simp [Op.equalIn, hu, hne], rfl⟩
    | «at» p g =>
      simp only [RepE] at hx
      obtain ⟨_, _, rfl, _⟩ := hx
      cases e2 with
      | nil => simp only [RepE] at hy; subst hy; exact ⟨by simp [eqGuard], eq_run fun n => by simp [Op.equalIn, hu], rfl⟩
      | s g' =>
        simp only [RepE] at hy
        obtain ⟨_, rfl⟩ := hy
        have hne : R.T.N.atT ≠ R.T.N.errT := by rw [hR]; exact hW.ne
        exact ⟨by simp [eqGuard], eq_run fun n => by simp [Op.equalIn, hu, hne], rfl⟩
      | «at» p g' => cases hok
  · rename_i et htd
    rw [htd] at hd
    obtain rfl := descOf_ptr hd
    simp only [Rep] at hx hy
    subst hx; subst hy
    obtain ⟨rfl, rfl⟩ := HM.run_ret e
    exact ⟨by simp [eqGuard], eq_run fun n => by simp [Op.equalIn, hu], rfl⟩
  · rename_i et id i' j g htd
    rw [htd] at hd
    obtain rfl := descOf_ptr hd
    simp only [Rep] at hx hy
    subst hx
    obtain ⟨_, _, _, _, rfl, _⟩ := hy
    obtain ⟨rfl, rfl⟩ := HM.run_ret e
    exact ⟨by simp [eqGuard], eq_run fun n => by simp [Op.equalIn, hu], rfl⟩
  · rename_i et id i' j g htd
    rw [htd] at hd
    obtain rfl := descOf_ptr hd
    simp only [Rep] at hx hy
    subst hy
    obtain ⟨_, _, _, _, rfl, _⟩ := hx
    obtain ⟨rfl, rfl⟩ := HM.run_ret e
    exact ⟨by simp [eqGuard], eq_run fun n => by simp [Op.equalIn, hu], rfl⟩
  · rename_i et r j htd
    rw [htd] at hd
    obtain rfl := descOf_ptr hd
    simp only [Rep] at hx hy
    subst hx
    obtain ⟨_, _, rfl, _⟩ := hy
    obtain ⟨rfl, rfl⟩ := HM.run_ret e
    exact ⟨by simp [eqGuard], eq_run fun n => by simp [Op.equalIn, hu], rfl⟩
  · rename_i et r j htd
    rw [htd] at hd
    obtain rfl := descOf_ptr hd
    simp only [Rep] at hx hy
    subst hy
    obtain ⟨_, _, rfl, _⟩ := hx
    obtain ⟨rfl, rfl⟩ := HM.run_ret e
    exact ⟨by simp [eqGuard], eq_run fun n => by simp [Op.equalIn, hu], rfl⟩
  · rename_i et k x htd
    rw [htd] at hd
    obtain rfl := descOf_ptr hd
    simp only [Rep] at hx hy
    subst hx
    cases x with
    | none =>
      have hy : [u] = [.pointer none] := hy
      injection hy with hy
      subst hy
      obtain ⟨rfl, rfl⟩ := HM.run_ret e
      exact ⟨by simp [eqGuard], eq_run fun n => by simp [Op.equalIn, hu], rfl⟩
    | some i =>
      obtain ⟨b, _, hy⟩ := hy
      injection hy with hy
      subst hy
      obtain ⟨rfl, rfl⟩ := HM.run_ret e
      exact ⟨by simp [eqGuard], eq_run fun n => by simp [Op.equalIn, hu], rfl⟩
  · rename_i et k x htd
    rw [htd] at hd
    obtain rfl := descOf_ptr hd
    simp only [Rep] at hx hy
    subst hy
    cases x with
    | none =>
      have hx : [v] = [.pointer none] := hx
      injection hx with hx
      subst hx
      obtain ⟨rfl, rfl⟩ := HM.run_ret e
      exact ⟨by simp [eqGuard], eq_run fun n => by simp [Op.equalIn, hu], rfl⟩
    | some i =>
      obtain ⟨b, _, hx⟩ := hx
      injection hx with hx
      subst hx
      obtain ⟨rfl, rfl⟩ := HM.run_ret e
      exact ⟨by simp [eqGuard], eq_run fun n => by simp [Op.equalIn, hu], rfl⟩
  · rename_i et k x k' y htd
    rw [htd] at hd
    obtain rfl := descOf_ptr hd
    split at e
    · rename_i hkk
      obtain ⟨hsz, hkk⟩ := hkk
      subst hkk
      rw [htd] at hsz
      simp only [someE] at hsz
      obtain ⟨ei, hei, hsz⟩ : ∃ ei, E.ty et = some ei ∧ 0 < ei.size := by
        split at hsz
        · rename_i ei hei; exact ⟨ei, hei, of_decide_eq_true hsz⟩
        · cases hsz
      obtain ⟨d2, i2, z2, hT2⟩ := hE.ty _ ei hei
      obtain ⟨rfl, rfl⟩ := HM.run_ret e
      simp only [Rep] at hx hy
      cases x with
      | none =>
        have hx : [v] = [.pointer none] := hx
        injection hx with hx
        subst hx
        cases y with
        | none =>
          have hy : [u] = [.pointer none] := hy
          injection hy with hy
          subst hy
          exact ⟨by simp [eqGuard], eq_run fun n => by simp [Op.equalIn, hu], rfl⟩
        | some j =>
          obtain ⟨b, _, hy⟩ := hy
          injection hy with hy
          subst hy
          exact ⟨by simp [eqGuard], eq_run fun n => by simp [Op.equalIn, hu], rfl⟩
      | some i =>
        obtain ⟨b, hb, hx⟩ := hx
        injection hx with hx
        subst hx
        cases y with
        | none =>
          have hy : [u] = [.pointer none] := hy
          injection hy with hy
          subst hy
          exact ⟨by simp [eqGuard], eq_run fun n => by simp [Op.equalIn, hu], rfl⟩
        | some j =>
          obtain ⟨b', hb', hy⟩ := hy
          injection hy with hy
          subst hy
          refine ⟨by simp [eqGuard], eq_run fun n => ?_, rfl⟩
          have hs0 : ¬ ei.size = 0 := by omega
          by_cases hbb : b = b'
          · subst hbb
            obtain rfl := hinj k i j b hb hb'
            simp [Op.equalIn, hu, hT2.run_size, hs0, run_sameAddr_same]
          · have hij : ¬ i = j := fun h => by subst h; rw [hb] at hb'; injection hb' with hb'; exact hbb hb'
            obtain ⟨c1, T1, h1⟩ := hcell k i b hb
            obtain ⟨c2, T2, h2⟩ := hcell k j b' hb'
            have := run_sameAddr_other (P := P) w (a := ⟨b, 0, none⟩) (b := ⟨b', 0, none⟩) (fun h => hbb (by injection h)) h1 h2
            simp [Op.equalIn, hu, hT2.run_size, hs0, this, hij, hbb]
    · cases e
  · rename_i et r j htd
    rw [htd] at hd
    obtain rfl := descOf_slice hd
    simp only [Rep] at hx hy
    subst hy
    obtain ⟨_, ad, k1, k2, rfl⟩ := hx
    obtain ⟨rfl, rfl⟩ := HM.run_ret e
    refine ⟨by simp [eqGuard], eq_run fun n => ?_, rfl⟩
    unfold Op.equalIn
    simp only [Sem.run_bind, hu, Result.andThen_ok]
    rfl
  · rename_i et htd
    rw [htd] at hd
    obtain rfl := descOf_slice hd
    simp only [Rep] at hx hy
    subst hx; subst hy
    obtain ⟨rfl, rfl⟩ := HM.run_ret e
    refine ⟨by simp [eqGuard], eq_run fun n => ?_, rfl⟩
    unfold Op.equalIn
    simp only [Sem.run_bind, hu, Result.andThen_ok]
    rfl
  · cases e

end
end Go.Eng
