/-
  The abstract machine, part 18: regions, done in the order of the text.
-/
import Derived.Test.YtnbpgehpjhifgaaDoorLxEngR
import Derived.Orders
namespace Go.Eng

section
variable {c : Ctx} {I : Nat → Prop} {L : Ref → Option Pl} {s : St} {a : Act} {w : World} {call : CallF}

theorem putH_length (h : List (Option Blk)) (r : Ref) (b : Blk) : (putH h r b).length = h.length := by
  unfold putH
  split
  · simp
  · split
    · split <;> simp
    · rfl

theorem putH_other {h : List (Option Blk)} {r : Ref} {b : Blk} {id : Nat} (hn : id ≠ r.ix) : (putH h r b)[id]? = h[id]? := by
  unfold putH
  split
  · exact List.getElem?_set_ne (Ne.symm hn)
  · split
    · split
      · exact List.getElem?_set_ne (Ne.symm hn)
      · rfl
    · rfl

theorem putAll_length : ∀ (wr : List (Ref × Blk)) (h : List (Option Blk)), (putAll h wr).length = h.length
  | [], _ => rfl
  | (i, b) :: r, h => by simp only [putAll]; rw [putAll_length r, putH_length]

theorem putAll_other : ∀ (wr : List (Ref × Blk)) (h : List (Option Blk)) (id : Nat), id ∉ wr.map (·.1.ix) → (putAll h wr)[id]? = h[id]?
  | [], _, _, _ => rfl
  | (i, b) :: r, h, id, hn => by
    simp only [List.map_cons, List.mem_cons, not_or] at hn
    simp only [putAll]
    rw [putAll_other r _ id hn.2, putH_other hn.1]

theorem touch_sound {α : Type} {newId n : Nat} {h : Ref → Option Blk} : ∀ {wr : List (Ref × Blk)} {x y : α} {l : List Nat}, (touch newId n wr (.ret x)).run call h = some (y, l) → y = x ∧ ∀ id, id ∈ wr.map (·.1.ix) → (newId ≤ id ∧ id < newId + n) ∨ (id ∈ l ∧ ∃ b, h (.l id) = some b)
  | [], x, y, l, e => by
    obtain ⟨rfl, rfl⟩ := HM.run_ret e
    exact ⟨rfl, fun id hid => by cases hid⟩
  | p :: r, x, y, l, e => by
    simp only [touch] at e
    split at e
    · rename_i hp
      obtain ⟨rfl, h2⟩ := touch_sound e
      refine ⟨rfl, fun id hid => ?_⟩
      simp only [List.map_cons, List.mem_cons] at hid
      rcases hid with rfl | hid
      · simp only [Bool.and_eq_true] at hp
        exact .inl ⟨Nat.le_of_ble_eq_true hp.1, Nat.le_of_ble_eq_true hp.2⟩
      · exact h2 id hid
    · obtain ⟨b, l', hb, e', rfl⟩ := HM.run_rd e
      obtain ⟨rfl, h2⟩ := touch_sound e'
      refine ⟨rfl, fun id hid => ?_⟩
      simp only [List.map_cons, List.mem_cons] at hid
      rcases hid with rfl | hid
      · exact .inr ⟨by simp [Ref.ix], b, hb⟩
      · rcases h2 id hid with h | ⟨h, hh⟩
        · exact .inl h
        · exact .inr ⟨by simp [h], hh⟩

/-- what a step under its guard comes to -/
theorem stepH_inv {E : Env} {ops : List Oper} {newId : Nat} {o : Oper} {env : List AV} {h : Ref → Option Blk} {δ : Option Dl} {rs : List Nat} (e : (stepH E ops newId o env).run call h = some (δ, rs)) :
    (∃ δ' r1, δ = some δ' ∧ (aop E (aeval env) newId o.op).run call h = some (δ', r1) ∧ (∀ id, id ∈ δ'.wr.map (·.1.ix) → (newId ≤ id ∧ id < newId + wid o.op) ∨ (id ∈ rs ∧ ∃ b, h (.l id) = some b)) ∧
      (o.guard = none ∨ ∃ j want d, o.guard = some (j, want) ∧ (ops[j]?).bind (·.dst) = some d ∧ env.getD d .top = .v (.bool want))) ∨
    (δ = none ∧ ∃ j want d, o.guard = some (j, want) ∧ (ops[j]?).bind (·.dst) = some d ∧ (env.getD d .top = .v (.bool (!want)) ∨ ∃ as, env.getD d .top = .v (.tuple as))) := by
  have fin : ∀ {δ : Option Dl} {rs : List Nat}, ((aop E (aeval env) newId o.op).bind fun δ => touch newId (wid o.op) δ.wr (.ret (some δ))).run call h = some (δ, rs) →
      ∃ δ' r1, δ = some δ' ∧ (aop E (aeval env) newId o.op).run call h = some (δ', r1) ∧ (∀ id, id ∈ δ'.wr.map (·.1.ix) → (newId ≤ id ∧ id < newId + wid o.op) ∨ (id ∈ rs ∧ ∃ b, h (.l id) = some b)) := by
    intro δ rs e
    obtain ⟨δ', r1, r2, e1, e2, rfl⟩ := HM.run_bind e
    obtain ⟨rfl, h2⟩ := touch_sound e2
    refine ⟨δ', r1, rfl, e1, fun id hid => ?_⟩
    rcases h2 id hid with h | ⟨h, hh⟩
    · exact .inl h
    · exact .inr ⟨List.mem_append_right _ h, hh⟩
  unfold stepH at e
  split at e
  · rename_i hg
    obtain ⟨δ', r1, h1, h2, h3⟩ := fin e
    exact .inl ⟨δ', r1, h1, h2, h3, .inl hg⟩
  · rename_i j want hg
    split at e
    · rename_i d hd
      split at e
      · rename_i b hb
        split at e
        · cases b with
          | true =>
            simp only [HM.run] at e
            obtain ⟨δ', r1, h1, h2, h3⟩ := fin e
            exact .inl ⟨δ', r1, h1, h2, h3, .inr ⟨j, true, d, hg, hd, hb⟩⟩
          | false =>
            simp only [HM.run, Option.some.injEq, Prod.mk.injEq] at e
            exact .inr ⟨e.1.symm, j, true, d, hg, hd, .inl hb⟩
        · cases b with
          | false =>
            simp only [HM.run] at e
            obtain ⟨δ', r1, h1, h2, h3⟩ := fin e
            exact .inl ⟨δ', r1, h1, h2, h3, .inr ⟨j, false, d, hg, hd, hb⟩⟩
          | true =>
            simp only [HM.run, Option.some.injEq, Prod.mk.injEq] at e
            exact .inr ⟨e.1.symm, j, false, d, hg, hd, .inl hb⟩
      · rename_i as hb
        simp only [HM.run, Option.some.injEq, Prod.mk.injEq] at e
        exact .inr ⟨e.1.symm, j, want, d, hg, hd, .inr ⟨as, hb⟩⟩
      · cases e
    · cases e

theorem Sim.yielded (h : Sim c I L s a w) {ops : Array Oper} {j d : Nat} (hd : (ops.toList[j]?).bind (·.dst) = some d) {b : Bool} (hb : s.env.getD d .top = .v (.bool b)) : yielded ops a.tmps j = some b := by
  have := h.tmp d
  rw [hb] at this
  simp only [Rep] at this
  rw [Array.getElem?_toList] at hd
  unfold Go.yielded
  rw [hd]
  simp only [Option.bind_some]
  have hg : a.tmps[d]? = some (.bool b) := by
    rw [Array.getD_eq_getD_getElem?] at this
    cases hk : a.tmps[d]? with
    | none => rw [hk] at this; cases this
    | some v => rw [hk] at this; simp only [Option.getD_some] at this; rw [this]
  rw [hg]

theorem Sim.yielded_none (h : Sim c I L s a w) {ops : Array Oper} {j d : Nat} (hd : (ops.toList[j]?).bind (·.dst) = some d) {as : Array Value} (hb : s.env.getD d .top = .v (.tuple as)) : Go.yielded ops a.tmps j = none := by
  have := h.tmp d
  rw [hb] at this
  simp only [Rep] at this
  rw [Array.getElem?_toList] at hd
  unfold Go.yielded
  rw [hd]
  simp only [Option.bind_some]
  rw [Array.getD_eq_getD_getElem?] at this
  cases hk : a.tmps[d]? with
  | none => rfl
  | some v => rw [hk] at this; simp only [Option.getD_some] at this; rw [this]

theorem step_sound (h : Sim c I L s a w) (hE : EnvOK c.P c.E) (hW : WOK c.P c.E c.S c.w0) (hC : CallOK c.P c.E c.S call) {ops : Array Oper} {i : Nat} {o : Oper} (ho : ops[i]? = some o) {newId : Nat} (hn : ∀ j, j < wid o.op → s.heap[newId + j]? = some none)
    {δ : Option Dl} {rs : List Nat} (e : (stepH c.E ops.toList newId o s.env).run call s.rd = some (δ, rs)) {K : Act → World → Prop} {Q : Exit → Act → World → Prop} (hK : ∀ I' L' a' w', Sim c I' L' (s.app o.dst (dlOf δ)) a' w' → K a' w') : wpOp c.P ops Q i K a w := by
  unfold wpOp
  rw [ho]
  simp only
  rcases stepH_inv e with ⟨δ', r1, rfl, e1, _, hg⟩ | ⟨rfl, j, want, d, hg, hd, hb⟩
  · have hw : Region.wanted o (yielded ops a.tmps) = true := by
      unfold Region.wanted
      rcases hg with hg | ⟨j, want, d, hg, hd, hb⟩
      · rw [hg]
      · rw [hg]
        simp only
        rw [h.yielded hd hb]
        simp
    rw [if_pos hw]
    exact .inl (aop_sound h hE hW hC hn e1 K Q hK)
  · have hw : Region.wanted o (yielded ops a.tmps) = false := by
      unfold Region.wanted
      rw [hg]
      simp only
      rcases hb with hb | ⟨as, hb⟩
      · rw [h.yielded hd hb]
        cases want <;> rfl
      · rw [h.yielded_none hd hb]
        rfl
    rw [if_neg (by rw [hw]; simp)]
    exact hK I L _ _ (h.put o.dst (x := .v (.tuple #[])) (v := undef) (by simp [Rep, undef]))

theorem widL_le : ∀ (os : List Oper) (k : Nat) (o : Oper), os[k]? = some o → widL (os.take k) + wid o.op ≤ widL os
  | [], _, _, h => by simp at h
  | x :: r, 0, o, h => by
    simp only [List.getElem?_cons_zero, Option.some.injEq] at h
    subst h
    simp [widL]
  | x :: r, k + 1, o, h => by
    have := widL_le r k o (by simpa using h)
    simp only [List.take_succ_cons, widL]
    omega

/-- one after the other -/
theorem runOps_sound (hE : EnvOK c.P c.E) (hW : WOK c.P c.E c.S c.w0) (hC : CallOK c.P c.E c.S call) {ops : Array Oper} {Q : Exit → Act → World → Prop} :
    ∀ (os : List Oper) (n i : Nat) (I : Nat → Prop) (L : Ref → Option Pl) (s : St) (a : Act) (w : World) (t : St) (l : List Fp), os = ops.toList.drop i → i ≤ ops.size → Sim c I L s a w → (∀ k, k < widL os → s.heap[n + k]? = some none) →
    runOps c.E call ops.toList n i os s = some (t, l) → (∀ I' L' a' w', Sim c I' L' t a' w' → Q .normal a' w') → wpOps c.P ops Q (List.range' i (ops.size - i)) a w
  | [], n, i, I, L, s, a, w, t, l, hos, hle, h, hn, e, hQ => by
    have : ops.size - i = 0 := by
      have h0 := congrArg List.length hos
      simp at h0
      omega
    rw [this]
    simp only [runOps, Option.some.injEq, Prod.mk.injEq] at e
    obtain ⟨rfl, rfl⟩ := e
    exact hQ I L a w h
  | o :: r, n, i, I, L, s, a, w, t, l, hos, hle, h, hn, e, hQ => by
    have hlt : i < ops.size := by
      have h0 := congrArg List.length hos
      simp at h0
      omega
    have hoi : ops[i]? = some o := by
      have h0 : (ops.toList.drop i)[0]? = some o := by rw [← hos]; rfl
      rw [List.getElem?_drop, Array.getElem?_toList] at h0
      exact h0
    have hr : r = ops.toList.drop (i + 1) := by
      rw [← List.tail_drop, ← hos]
      rfl
    have hsz : ops.size - i = (ops.size - (i + 1)) + 1 := by omega
    rw [hsz, List.range'_succ, wpOps_cons]
    simp only [runOps] at e
    split at e
    · rename_i s' f hstep
      unfold stepA at hstep
      split at hstep
      · rename_i δ rs hst
        simp only [Option.some.injEq, Prod.mk.injEq] at hstep
        obtain ⟨rfl, rfl⟩ := hstep
        split at e
        · rename_i t' l' hrest
          simp only [Option.some.injEq, Prod.mk.injEq] at e
          obtain ⟨rfl, _⟩ := e
          simp only [widL] at hn
          refine step_sound h hE hW hC hoi (fun j hj => hn j (by omega)) hst fun I' L' a' w' h' => ?_
          refine runOps_sound hE hW hC r (n + wid o.op) (i + 1) I' L' _ a' w' _ _ hr hlt h' (fun k hk => ?_) hrest hQ
          simp only [St.app]
          have hnk := hn (wid o.op + k) (by omega)
          rw [← Nat.add_assoc] at hnk
          rw [putAll_other]
          · exact hnk
          · intro hm
            rcases stepH_inv hst with ⟨δ', r1, rfl, e1, hwr, _⟩ | ⟨rfl, _⟩
            · rcases hwr _ hm with h0 | ⟨_, b, hb⟩
              · omega
              · have := rdv_l.1 (show rdv _ (.l _) = some b from hb)
                rw [hnk] at this
                cases this
            · simp [dlOf] at hm
        · cases e
      · cases hstep
    · cases e

theorem rdv_iff {h h' : List (Option Blk)} (hh : ∀ (id : Nat) (b : Blk), h'[id]? = some (some b) ↔ h[id]? = some (some b)) (r : Ref) (b : Blk) : rdv h' r = some b ↔ rdv h r = some b := by
  cases r with
  | l id => rw [rdv_l, rdv_l]; exact hh id b
  | o k i q =>
    rw [rdv_o, rdv_o]
    constructor
    · rintro ⟨tb, cs, l, st, gs, h1, h2⟩
      exact ⟨tb, cs, l, st, gs, (hh k tb).1 h1, h2⟩
    · rintro ⟨tb, cs, l, st, gs, h1, h2⟩
      exact ⟨tb, cs, l, st, gs, (hh k tb).2 h1, h2⟩

/-- nothings more at the end -/
theorem Sim.heap (h : Sim c I L s a w) {hp' : List (Option Blk)} (hh : ∀ (id : Nat) (b : Blk), hp'[id]? = some (some b) ↔ s.heap[id]? = some (some b)) : Sim c I L ⟨s.env, hp'⟩ a w :=
  ⟨h.env, h.defers, fun id b hb => h.blk id b ((rdv_iff hh id b).1 hb), fun id p hp => by
    obtain ⟨b, hb⟩ := h.dom id p hp
    exact ⟨b, (rdv_iff hh id b).2 hb⟩, h.own, h.inj, h.imm, h.i0, h.iN, h.same, h.fix, h.bx, h.grow, h.io⟩

theorem pad_some {hp : List (Option Blk)} {n id : Nat} {b : Blk} : (hp ++ List.replicate n none)[id]? = some (some b) ↔ hp[id]? = some (some b) := by
  rcases Nat.lt_or_ge id hp.length with hl | hl
  · rw [List.getElem?_append_left hl]
  · rw [List.getElem?_append_right hl, List.getElem?_eq_none hl, List.getElem?_replicate]
    constructor
    · intro h
      split at h <;> simp at h
    · intro h; cases h

theorem trim_some : ∀ {hp : List (Option Blk)} {id : Nat} {b : Blk}, (trim hp)[id]? = some (some b) ↔ hp[id]? = some (some b)
  | [], _, _ => Iff.rfl
  | x :: r, id, b => by
    have ih := fun id => trim_some (hp := r) (id := id) (b := b)
    cases id with
    | zero =>
      simp only [trim]
      split
      · simp
      · simp
    | succ id =>
      simp only [trim, List.getElem?_cons_succ]
      split
      · rename_i hx hr
        have := ih id
        rw [hr] at this
        simp only [List.getElem?_nil] at this ⊢
        exact this
      · simp only [List.getElem?_cons_succ]
        exact ih id

end
end Go.Eng
