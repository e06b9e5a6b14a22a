/-
  The abstract machine, part 21: code; functions.
-/
import Derived.Test.YtnbpgehpjhifgaaDoorLxEngU
import Derived.Scope
namespace Go.Eng

def AX.toExit : AX → Exit
  | .normal => .normal
  | .exit id => .exit id
  | .ret => .ret

/-- regions whose order is drawn are fit for it -/
def codeOK : Code → Bool
  | .region _ ops draw => !draw || drawOK ops
  | .seq a b => codeOK a && codeOK b
  | .cond _ a b => codeOK a && codeOK b
  | .block _ c => codeOK c
  | .loop c => codeOK c
  | .scope c => codeOK c
  | _ => true

section
variable (P : Program) (E : Env) (S : Ini)

def CodeCon (c : Code) (s : St) (x : AX) (t : St) : Prop :=
  ∀ (w0 : World) (Rt : Nat → Prop) (B : Nat → Nat → Option Pl) (I0 I : Nat → Prop) (L : Ref → Option Pl) (a : Act) (w : World), WOK P E S w0 → Sim ⟨P, E, S, w0, I0, Rt, B⟩ I L s a w →
    ∀ Q : Exit → Act → World → Prop, (∀ I' L' a' w', Sim ⟨P, E, S, w0, I0, Rt, B⟩ I' L' t a' w' → Q x.toExit a' w') → c.wp P Q a w

/-- the rest of a loop, from its head on -/
def loopWp (c : Code) (Q : Exit → Act → World → Prop) (a : Act) (w : World) : Prop :=
  ∀ (b : Frame) (k : List Item) (cs : List Frame), ∃ e a' w', Q e a' w' ∧ Arrives P (lone (b.at a (.code c :: .inLoop c :: k)) cs w) b k cs e a' w'

def LoopCon (c : Code) (s : St) (x : AX) (t : St) : Prop :=
  ∀ (w0 : World) (Rt : Nat → Prop) (B : Nat → Nat → Option Pl) (I0 I : Nat → Prop) (L : Ref → Option Pl) (a : Act) (w : World), WOK P E S w0 → Sim ⟨P, E, S, w0, I0, Rt, B⟩ I L s a w →
    ∀ Q : Exit → Act → World → Prop, (∀ I' L' a' w', Sim ⟨P, E, S, w0, I0, Rt, B⟩ I' L' t a' w' → Q x.toExit a' w') → loopWp P c Q a w

/-- a state may be taken for another -/
def May (s t : St) : Prop :=
  ∀ (w0 : World) (Rt : Nat → Prop) (B : Nat → Nat → Option Pl) (I0 I : Nat → Prop) (L : Ref → Option Pl) (a : Act) (w : World), Sim ⟨P, E, S, w0, I0, Rt, B⟩ I L s a w → ∃ I' L', Sim ⟨P, E, S, w0, I0, Rt, B⟩ I' L' t a w

end

section
variable {P : Program} {E : Env} {S : Ini}

theorem CodeCon.ref {c : Code} {s s' t : St} {x : AX} (h : CodeCon P E S c s' x t) (hr : May P E S s s') : CodeCon P E S c s x t := by
  intro w0 Rt B I0 I L a w hW hs Q hQ
  obtain ⟨I', L', hs'⟩ := hr w0 Rt B I0 I L a w hs
  exact h w0 Rt B I0 I' L' a w hW hs' Q hQ

theorem LoopCon.ref {c : Code} {s s' t : St} {x : AX} (h : LoopCon P E S c s' x t) (hr : May P E S s s') : LoopCon P E S c s x t := by
  intro w0 Rt B I0 I L a w hW hs Q hQ
  obtain ⟨I', L', hs'⟩ := hr w0 Rt B I0 I L a w hs
  exact h w0 Rt B I0 I' L' a w hW hs' Q hQ

theorem CodeCon.post {c : Code} {s t t' : St} {x : AX} (h : CodeCon P E S c s x t) (hr : May P E S t t') : CodeCon P E S c s x t' := by
  intro w0 Rt B I0 I L a w hW hs Q hQ
  refine h w0 Rt B I0 I L a w hW hs Q fun I' L' a' w' h' => ?_
  obtain ⟨I2, L2, h2⟩ := hr w0 Rt B I0 I' L' a' w' h'
  exact hQ I2 L2 a' w' h2

theorem LoopCon.code {c : Code} {s t : St} {x : AX} (h : LoopCon P E S c s x t) : CodeCon P E S (.loop c) s x t := by
  intro w0 Rt B I0 I L a w hW hs Q hQ b k cs
  obtain ⟨e, a', w', hq, harr⟩ := h w0 Rt B I0 I L a w hW hs Q hQ b k cs
  exact ⟨e, a', w', hq, .of_steps (.one step_loop) harr⟩

theorem loopWp_of {c : Code} {Q : Exit → Act → World → Prop} {a : Act} {w : World} (h : c.wp P (Exit.then (loopWp P c Q) Q) a w) : loopWp P c Q a w := by
  intro b k cs
  obtain ⟨e, a₁, w₁, hq, harr⟩ := h b (.inLoop c :: k) cs
  cases e with
  | normal =>
    obtain ⟨e₂, a₂, w₂, hq₂, harr₂⟩ := hq b k cs
    exact ⟨e₂, a₂, w₂, hq₂, .of_steps (Steps.trans harr (.one step_inLoop)) harr₂⟩
  | exit id => exact ⟨_, a₁, w₁, hq, .pass (x := .inLoop c) rfl (fun _ _ => .inl (by simp)) harr⟩
  | goto l => exact ⟨_, a₁, w₁, hq, .pass (x := .inLoop c) rfl (fun _ _ => .inl (by simp)) harr⟩
  | ret => exact ⟨_, a₁, w₁, hq, .pass (x := .inLoop c) rfl (fun _ _ => .inl (by simp)) harr⟩
  | panic ch => exact ⟨_, a₁, w₁, hq, .pass (x := .inLoop c) rfl (fun _ _ => .inl (by simp)) harr⟩
  | outgrown => exact ⟨_, a₁, w₁, hq, .pass (x := .inLoop c) rfl (fun _ _ => .inl (by simp)) harr⟩

theorem LoopCon.again {c : Code} {s s1 t : St} {x : AX} (h : CodeCon P E S c s .normal s1) (h' : LoopCon P E S c s1 x t) : LoopCon P E S c s x t := by
  intro w0 Rt B I0 I L a w hW hs Q hQ
  refine loopWp_of (h w0 Rt B I0 I L a w hW hs _ fun I' L' a' w' hs' => ?_)
  exact h' w0 Rt B I0 I' L' a' w' hW hs' Q hQ

theorem LoopCon.leave {c : Code} {s t : St} {x : AX} (h : CodeCon P E S c s x t) (hx : x ≠ .normal) : LoopCon P E S c s x t := by
  intro w0 Rt B I0 I L a w hW hs Q hQ
  refine loopWp_of (h w0 Rt B I0 I L a w hW hs _ fun I' L' a' w' hs' => ?_)
  cases x with
  | normal => exact absurd rfl hx
  | exit id => exact hQ I' L' a' w' hs'
  | ret => exact hQ I' L' a' w' hs'

theorem region_sound (hE : EnvOK P E) (hm : P.follows .mixedOrders = true) {call : CallF} (hC : CallOK P E S call) {id : Nat} {ops : Array Oper} {draw : Bool} {s t : St} {x : AX}
    (hok : codeOK (.region id ops draw) = true) (e : regionA E call ops.toList draw s = some (x, t)) : CodeCon P E S (.region id ops draw) s x t := by
  intro w0 Rt B I0 I L a w hW hs Q hQ
  unfold regionA at e
  split at e
  · rename_i s' l hrun
    have hs0 : Sim ⟨P, E, S, w0, I0, Rt, B⟩ I L ⟨s.env, s.heap ++ List.replicate (widL ops.toList) none⟩ a w := hs.heap fun id b => pad_some
    have hfree : ∀ k, k < widL ops.toList → (s.heap ++ List.replicate (widL ops.toList) (none : Option Blk))[s.heap.length + k]? = some none := by
      intro k hk
      rw [List.getElem?_append_right (by omega), List.getElem?_replicate]
      simp [hk]
    have fin : ∀ I' L' a' w', Sim ⟨P, E, S, w0, I0, Rt, B⟩ I' L' s' a' w' → some (AX.normal, (⟨s'.env, trim s'.heap⟩ : St)) = some (x, t) → Q .normal a' w' := by
      intro I' L' a' w' h' e
      simp only [Option.some.injEq, Prod.mk.injEq] at e
      obtain ⟨rfl, rfl⟩ := e
      exact hQ I' L' a' w' (h'.heap fun id b => trim_some)
    cases draw with
    | false =>
      simp only at e
      refine wp_region ?_
      have := runOps_sound (c := ⟨P, E, S, w0, I0, Rt, B⟩) hE hW hC (ops := ops) (Q := Q) ops.toList s.heap.length 0 I L _ a w s' l rfl (Nat.zero_le _) hs0 hfree hrun (fun I' L' a' w' h' => fin I' L' a' w' h' e)
      rw [List.range_eq_range']
      simpa using this
    | true =>
      cases hf : fpsOK (masks ops.toList []) l with
      | false => rw [hf] at e; cases e
      | true =>
        rw [hf] at e
        simp only at e
        refine wp_region_any hm ?_
        exact draw_sound (c := ⟨P, E, S, w0, I0, Rt, B⟩) (hs0.draw (w' := { w with drawn := w.drawn + 1 }) rfl ⟨rfl, rfl, rfl⟩) hE hW hC hfree hrun (by simpa [codeOK] using hok) hf (fun I' L' a' w' h' => fin I' L' a' w' h' e)
  · cases e

/-- CODE -/
theorem run_sound (hE : EnvOK P E) (hm : P.follows .mixedOrders = true) {call : CallF} (hC : CallOK P E S call) {loop : Nat → St → Option (AX × St)} {all : List Code}
    (hL : ∀ i c s x t, all[i]? = some c → loop i s = some (x, t) → CodeCon P E S (.loop c) s x t) :
    ∀ (c : Code) (k : Nat) (s : St) (x : AX) (t : St), codeOK c = true → (∀ i d, (loopsOf c)[i]? = some d → all[k + i]? = some d) → run E call loop k c s = some (x, t) → CodeCon P E S c s x t := by
  have hn : ∀ c : Code, (loopsOf c).length = nloops c := by
    intro c
    induction c with
    | seq a b iha ihb => simp [loopsOf, nloops, iha, ihb]
    | cond _ a b iha ihb => simp [loopsOf, nloops, iha, ihb]
    | block _ c ih => simpa [loopsOf, nloops] using ih
    | loop c ih => simp [loopsOf, nloops, ih]
    | scope c ih => simpa [loopsOf, nloops] using ih
    | _ => rfl
  intro c
  induction c with
  | skip =>
    intro k s x t _ _ e w0 Rt B I0 I L a w hW hs Q hQ
    simp only [run, Option.some.injEq, Prod.mk.injEq] at e
    obtain ⟨rfl, rfl⟩ := e
    exact wp_skip (hQ I L a w hs)
  | region id ops draw =>
    intro k s x t hok _ e
    simp only [run] at e
    exact region_sound hE hm hC hok e
  | seq c d ihc ihd =>
    intro k s x t hok hall e w0 Rt B I0 I L a w hW hs Q hQ
    simp only [codeOK, Bool.and_eq_true] at hok
    simp only [run] at e
    have hc : ∀ i d', (loopsOf c)[i]? = some d' → all[k + i]? = some d' := fun i d' h => hall i d' (by
      simp only [loopsOf]
      rw [List.getElem?_append_left (List.getElem?_eq_some_iff.1 h).1]
      exact h)
    have hd : ∀ i d', (loopsOf d)[i]? = some d' → all[k + nloops c + i]? = some d' := fun i d' h => by
      have := hall (nloops c + i) d' (by
        simp only [loopsOf]
        rw [List.getElem?_append_right (by rw [hn]; omega), hn, Nat.add_sub_cancel_left]
        exact h)
      rw [Nat.add_assoc]
      exact this
    cases hr : run E call loop k c s with
    | none => rw [hr] at e; cases e
    | some p =>
      obtain ⟨y, s'⟩ := p
      rw [hr] at e
      refine wp_seq (ihc k s y s' hok.1 hc hr w0 Rt B I0 I L a w hW hs _ fun I' L' a' w' hs' => ?_)
      cases y with
      | normal => exact ihd _ s' x t hok.2 hd e w0 Rt B I0 I' L' a' w' hW hs' Q hQ
      | exit id =>
        simp only [Option.some.injEq, Prod.mk.injEq] at e
        obtain ⟨rfl, rfl⟩ := e
        exact hQ I' L' a' w' hs'
      | ret =>
        simp only [Option.some.injEq, Prod.mk.injEq] at e
        obtain ⟨rfl, rfl⟩ := e
        exact hQ I' L' a' w' hs'
  | cond q c d ihc ihd =>
    intro k s x t hok hall e w0 Rt B I0 I L a w hW hs Q hQ
    simp only [codeOK, Bool.and_eq_true] at hok
    simp only [run] at e
    have hq := hs.eval q
    have hc : ∀ i d', (loopsOf c)[i]? = some d' → all[k + i]? = some d' := fun i d' h => hall i d' (by
      simp only [loopsOf]
      rw [List.getElem?_append_left (List.getElem?_eq_some_iff.1 h).1]
      exact h)
    have hd : ∀ i d', (loopsOf d)[i]? = some d' → all[k + nloops c + i]? = some d' := fun i d' h => by
      have := hall (nloops c + i) d' (by
        simp only [loopsOf]
        rw [List.getElem?_append_right (by rw [hn]; omega), hn, Nat.add_sub_cancel_left]
        exact h)
      rw [Nat.add_assoc]
      exact this
    split at e
    · rename_i tb hav
      rw [hav] at hq
      simp only [Rep] at hq
      cases tb with
      | true => exact wp_cond_true hq (ihc k s x t hok.1 hc e w0 Rt B I0 I L a w hW hs Q hQ)
      | false => exact wp_cond_false hq (ihd _ s x t hok.2 hd e w0 Rt B I0 I L a w hW hs Q hQ)
    · cases e
  | block id c ih =>
    intro k s x t hok hall e w0 Rt B I0 I L a w hW hs Q hQ
    simp only [codeOK] at hok
    simp only [run] at e
    cases hr : run E call loop k c s with
    | none => rw [hr] at e; cases e
    | some p =>
      obtain ⟨y, s'⟩ := p
      rw [hr] at e
      refine wp_block (ih k s y s' hok hall hr w0 Rt B I0 I L a w hW hs _ fun I' L' a' w' hs' => ?_)
      cases y with
      | normal =>
        simp only [Option.some.injEq, Prod.mk.injEq] at e
        obtain ⟨rfl, rfl⟩ := e
        exact hQ I' L' a' w' hs'
      | exit id' =>
        simp only at e
        simp only [AX.toExit, Exit.inBlock]
        split
        · rename_i h
          rw [if_pos h] at e
          simp only [Option.some.injEq, Prod.mk.injEq] at e
          obtain ⟨rfl, rfl⟩ := e
          exact hQ I' L' a' w' hs'
        · rename_i h
          rw [if_neg h] at e
          simp only [Option.some.injEq, Prod.mk.injEq] at e
          obtain ⟨rfl, rfl⟩ := e
          exact hQ I' L' a' w' hs'
      | ret =>
        simp only [Option.some.injEq, Prod.mk.injEq] at e
        obtain ⟨rfl, rfl⟩ := e
        exact hQ I' L' a' w' hs'
  | scope c ih =>
    intro k s x t hok hall e w0 Rt B I0 I L a w hW hs Q hQ
    simp only [codeOK] at hok
    simp only [run] at e
    refine wp_scope_straight (ih k s x t hok hall e w0 Rt B I0 I L a w hW hs _ fun I' L' a' w' hs' => ?_)
    have := hQ I' L' a' w' hs'
    cases x <;> exact this
  | label l =>
    intro k s x t _ _ e w0 Rt B I0 I L a w hW hs Q hQ
    simp only [run, Option.some.injEq, Prod.mk.injEq] at e
    obtain ⟨rfl, rfl⟩ := e
    exact wp_label (hQ I L a w hs)
  | loop c _ =>
    intro k s x t _ hall e
    simp only [run] at e
    exact hL k c s x t (by have := hall 0 c rfl; simpa using this) e
  | exit id =>
    intro k s x t _ _ e w0 Rt B I0 I L a w hW hs Q hQ
    simp only [run, Option.some.injEq, Prod.mk.injEq] at e
    obtain ⟨rfl, rfl⟩ := e
    exact wp_exit (hQ I L a w hs)
  | ret =>
    intro k s x t _ _ e w0 Rt B I0 I L a w hW hs Q hQ
    simp only [run, Option.some.injEq, Prod.mk.injEq] at e
    obtain ⟨rfl, rfl⟩ := e
    exact wp_ret (hQ I L a w hs)
  | _ => intro k s x t _ _ e; simp only [run] at e; cases e

/-! Functions. -/

def resA (E : Env) (s : St) : List ResultVar → HM (List AV)
  | [] => .ret []
  | .tmp t :: r => (resA E s r).bind fun l => .ret (s.env.getD t .top :: l)
  | .cell a t :: r => (loadA E t (s.env.getD a .top)).bind fun x => (resA E s r).bind fun l => .ret (x :: l)

def packA : List AV → AV
  | [x] => x
  | l => .tup l

def entry (fi : FnI) (args : List AV) : St := ⟨args ++ List.replicate (fi.ntmps - args.length) .top, []⟩

def resOne (tmps : Array Value) : ResultVar → Sem Value
  | .tmp t => pure (tmps.getD t undef)
  | .cell a t => do loadVar t (← asAddr (tmps.getD a undef))

theorem results_eq (fn : Func) (tmps : Array Value) : results fn tmps = (do
    let vs ← fn.results.mapM (resOne tmps)
    pure (if h : vs.size = 1 then vs[0] else .tuple vs)) := by
  unfold results
  congr 2

theorem resA_sound {c : Ctx} {I : Nat → Prop} {L : Ref → Option Pl} {s : St} {a : Act} {w : World} {call : CallF} (h : Sim c I L s a w) (hE : EnvOK c.P c.E) (hW : WOK c.P c.E c.S c.w0) :
    ∀ {rs : List ResultVar} {l : List AV} {ids : List Nat}, (resA c.E s rs).run call s.rd = some (l, ids) → ∃ vs, (rs.mapM (resOne a.tmps)).run c.P w = .ok vs w ∧ RepL (c.rc I L w) L l vs
  | [], l, ids, e => by
    obtain ⟨rfl, _⟩ := HM.run_ret e
    exact ⟨[], rfl, by simp [RepL]⟩
  | .tmp t :: r, l, ids, e => by
    simp only [resA] at e
    obtain ⟨l', r1, r2, e1, e2, rfl⟩ := HM.run_bind e
    obtain ⟨rfl, rfl⟩ := HM.run_ret e2
    obtain ⟨vs, h1, h2⟩ := resA_sound h hE hW e1
    refine ⟨a.tmps.getD t undef :: vs, ?_, ?_⟩
    · simp only [List.mapM_cons, resOne, Sem.run_bind, Sem.run_pure, Result.andThen_ok, h1]
    · simp only [RepL]
      exact ⟨_, vs, rfl, h.tmp t, h2⟩
  | .cell q t :: r, l, ids, e => by
    simp only [resA] at e
    obtain ⟨x, r1, r2, e1, e2, rfl⟩ := HM.run_bind e
    obtain ⟨l', r3, r4, e3, e4, rfl⟩ := HM.run_bind e2
    obtain ⟨rfl, rfl⟩ := HM.run_ret e4
    obtain ⟨vs, h1, h2⟩ := resA_sound h hE hW e3
    obtain ⟨ad, y', hq, hrun, hrep⟩ := load_run h hE hW (h.tmp q) e1
    refine ⟨y' :: vs, ?_, ?_⟩
    · simp only [List.mapM_cons, resOne, Sem.run_bind, Sem.run_pure, Result.andThen_ok, hq, asAddr, hrun, h1]
    · simp only [RepL]
      exact ⟨_, vs, rfl, hrep, h2⟩

end
end Go.Eng
