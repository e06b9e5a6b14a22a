/-
  Texts of the proof, one behind the other.
-/
import Derived.Test.YtpekhdbkekiblaaGreatDoorLxPd
import Derived.Orders
import Derived.Scope

/-
  The abstract machine, part 18: regions, done in the order of the text.
-/
namespace Go.Eng

section
variable {c : Ctx} {I : Nat → Prop} {L : Ref → Option Pl} {s : St} {a : Act} {w : World} {call : CallF}

theorem putH_length (h : List (Option Blk)) (r : Ref) (b : Blk) : (putH h r b).length = h.length := by
  unfold putH
  split
  · simp
  · split
    · split
      · simp
      · split <;> simp
      · rfl
    · rfl

theorem putH_other {h : List (Option Blk)} {r : Ref} {b : Blk} {id : Nat} (hn : id ≠ r.ix) : (putH h r b)[id]? = h[id]? := by
  unfold putH
  split
  · exact List.getElem?_set_ne (Ne.symm hn)
  · split
    · split
      · exact List.getElem?_set_ne (Ne.symm hn)
      · split
        · exact List.getElem?_set_ne (Ne.symm hn)
        · rfl
      · rfl
    · rfl

theorem putAll_length : ∀ (wr : List (Ref × Blk)) (h : List (Option Blk)), (putAll h wr).length = h.length
  | [], _ => rfl
  | (i, b) :: r, h => by simp only [putAll]; rw [putAll_length r, putH_length]

theorem putAll_other : ∀ (wr : List (Ref × Blk)) (h : List (Option Blk)) (id : Nat), id ∉ wr.map (·.1.ix) → (putAll h wr)[id]? = h[id]?
  | [], _, _, _ => rfl
  | (i, b) :: r, h, id, hn => by
    simp only [List.map_cons, List.mem_cons, not_or] at hn
    simp only [putAll]
    rw [putAll_other r _ id hn.2, putH_other hn.1]

theorem touch_sound {α : Type} {newId n : Nat} {h : Ref → Option Blk} : ∀ {wr : List (Ref × Blk)} {x y : α} {l : List Nat}, (touch newId n wr (.ret x)).run call h = some (y, l) → y = x ∧ ∀ id, id ∈ wr.map (·.1.ix) → (newId ≤ id ∧ id < newId + n) ∨ (id ∈ l ∧ ∃ b, h (.l id) = some b)
  | [], x, y, l, e => by
    obtain ⟨rfl, rfl⟩ := HM.run_ret e
    exact ⟨rfl, fun id hid => by cases hid⟩
  | p :: r, x, y, l, e => by
    simp only [touch] at e
    split at e
    · rename_i hp
      obtain ⟨rfl, h2⟩ := touch_sound e
      refine ⟨rfl, fun id hid => ?_⟩
      simp only [List.map_cons, List.mem_cons] at hid
      rcases hid with rfl | hid
      · simp only [Bool.and_eq_true] at hp
        exact .inl ⟨Nat.le_of_ble_eq_true hp.1, Nat.le_of_ble_eq_true hp.2⟩
      · exact h2 id hid
    · obtain ⟨b, l', hb, e', rfl⟩ := HM.run_rd e
      obtain ⟨rfl, h2⟩ := touch_sound e'
      refine ⟨rfl, fun id hid => ?_⟩
      simp only [List.map_cons, List.mem_cons] at hid
      rcases hid with rfl | hid
      · exact .inr ⟨by simp [Ref.ix], b, hb⟩
      · rcases h2 id hid with h | ⟨h, hh⟩
        · exact .inl h
        · exact .inr ⟨by simp [h], hh⟩

/-- what a step under its guard comes to -/
theorem stepH_inv {E : Env} {ops : List Oper} {newId : Nat} {o : Oper} {env : List AV} {h : Ref → Option Blk} {δ : Option Dl} {rs : List Nat} (e : (stepH E ops newId o env).run call h = some (δ, rs)) :
    (∃ δ' r1, δ = some δ' ∧ (aop E (aeval env) newId o.op).run call h = some (δ', r1) ∧ (∀ id, id ∈ δ'.wr.map (·.1.ix) → (newId ≤ id ∧ id < newId + wid o.op) ∨ (id ∈ rs ∧ ∃ b, h (.l id) = some b)) ∧
      (o.guard = none ∨ ∃ j want d, o.guard = some (j, want) ∧ (ops[j]?).bind (·.dst) = some d ∧ env.getD d .top = .v (.bool want))) ∨
    (δ = none ∧ ∃ j want d, o.guard = some (j, want) ∧ (ops[j]?).bind (·.dst) = some d ∧ (env.getD d .top = .v (.bool (!want)) ∨ ∃ as, env.getD d .top = .v (.tuple as))) := by
  have fin : ∀ {δ : Option Dl} {rs : List Nat}, ((aop E (aeval env) newId o.op).bind fun δ => touch newId (wid o.op) δ.wr (.ret (some δ))).run call h = some (δ, rs) →
      ∃ δ' r1, δ = some δ' ∧ (aop E (aeval env) newId o.op).run call h = some (δ', r1) ∧ (∀ id, id ∈ δ'.wr.map (·.1.ix) → (newId ≤ id ∧ id < newId + wid o.op) ∨ (id ∈ rs ∧ ∃ b, h (.l id) = some b)) := by
    intro δ rs e
    obtain ⟨δ', r1, r2, e1, e2, rfl⟩ := HM.run_bind e
    obtain ⟨rfl, h2⟩ := touch_sound e2
    refine ⟨δ', r1, rfl, e1, fun id hid => ?_⟩
    rcases h2 id hid with h | ⟨h, hh⟩
    · exact .inl h
    · exact .inr ⟨List.mem_append_right _ h, hh⟩
  unfold stepH at e
  split at e
  · rename_i hg
    obtain ⟨δ', r1, h1, h2, h3⟩ := fin e
    exact .inl ⟨δ', r1, h1, h2, h3, .inl hg⟩
  · rename_i j want hg
    split at e
    · rename_i d hd
      split at e
      · rename_i b hb
        split at e
        · cases b with
          | true =>
            simp only [HM.run] at e
            obtain ⟨δ', r1, h1, h2, h3⟩ := fin e
            exact .inl ⟨δ', r1, h1, h2, h3, .inr ⟨j, true, d, hg, hd, hb⟩⟩
          | false =>
            simp only [HM.run, Option.some.injEq, Prod.mk.injEq] at e
            exact .inr ⟨e.1.symm, j, true, d, hg, hd, .inl hb⟩
        · cases b with
          | false =>
            simp only [HM.run] at e
            obtain ⟨δ', r1, h1, h2, h3⟩ := fin e
            exact .inl ⟨δ', r1, h1, h2, h3, .inr ⟨j, false, d, hg, hd, hb⟩⟩
          | true =>
            simp only [HM.run, Option.some.injEq, Prod.mk.injEq] at e
            exact .inr ⟨e.1.symm, j, false, d, hg, hd, .inl hb⟩
      · rename_i as hb
        simp only [HM.run, Option.some.injEq, Prod.mk.injEq] at e
        exact .inr ⟨e.1.symm, j, want, d, hg, hd, .inr ⟨as, hb⟩⟩
      · cases e
    · cases e

theorem Sim.yielded (h : Sim c I L s a w) {ops : Array Oper} {j d : Nat} (hd : (ops.toList[j]?).bind (·.dst) = some d) {b : Bool} (hb : s.env.getD d .top = .v (.bool b)) : yielded ops a.tmps j = some b := by
  have := h.tmp d
  rw [hb] at this
  simp only [Rep] at this
  rw [Array.getElem?_toList] at hd
  unfold Go.yielded
  rw [hd]
  simp only [Option.bind_some]
  have hg : a.tmps[d]? = some (.bool b) := by
    rw [Array.getD_eq_getD_getElem?] at this
    cases hk : a.tmps[d]? with
    | none => rw [hk] at this; cases this
    | some v => rw [hk] at this; simp only [Option.getD_some] at this; rw [this]
  rw [hg]

theorem Sim.yielded_none (h : Sim c I L s a w) {ops : Array Oper} {j d : Nat} (hd : (ops.toList[j]?).bind (·.dst) = some d) {as : Array Value} (hb : s.env.getD d .top = .v (.tuple as)) : Go.yielded ops a.tmps j = none := by
  have := h.tmp d
  rw [hb] at this
  simp only [Rep] at this
  rw [Array.getElem?_toList] at hd
  unfold Go.yielded
  rw [hd]
  simp only [Option.bind_some]
  rw [Array.getD_eq_getD_getElem?] at this
  cases hk : a.tmps[d]? with
  | none => rfl
  | some v => rw [hk] at this; simp only [Option.getD_some] at this; rw [this]

theorem step_sound (h : Sim c I L s a w) (hE : EnvOK c.P c.E) (hW : WOK c.P c.E c.S c.w0) (hC : CallOK c.P c.E c.S call) {ops : Array Oper} {i : Nat} {o : Oper} (ho : ops[i]? = some o) {newId : Nat} (hn : ∀ j, j < wid o.op → s.heap[newId + j]? = some none)
    {δ : Option Dl} {rs : List Nat} (e : (stepH c.E ops.toList newId o s.env).run call s.rd = some (δ, rs)) {K : Act → World → Prop} {Q : Exit → Act → World → Prop} (hK : ∀ I' L' a' w', Sim c I' L' (s.app o.dst (dlOf δ)) a' w' → K a' w') : wpOp c.P ops Q i K a w := by
  unfold wpOp
  rw [ho]
  simp only
  rcases stepH_inv e with ⟨δ', r1, rfl, e1, _, hg⟩ | ⟨rfl, j, want, d, hg, hd, hb⟩
  · have hw : Region.wanted o (yielded ops a.tmps) = true := by
      unfold Region.wanted
      rcases hg with hg | ⟨j, want, d, hg, hd, hb⟩
      · rw [hg]
      · rw [hg]
        simp only
        rw [h.yielded hd hb]
        simp
    rw [if_pos hw]
    exact .inl (aop_sound h hE hW hC hn e1 K Q hK)
  · have hw : Region.wanted o (yielded ops a.tmps) = false := by
      unfold Region.wanted
      rw [hg]
      simp only
      rcases hb with hb | ⟨as, hb⟩
      · rw [h.yielded hd hb]
        cases want <;> rfl
      · rw [h.yielded_none hd hb]
        rfl
    rw [if_neg (by rw [hw]; simp)]
    exact hK I L _ _ (h.put o.dst (x := .v (.tuple #[])) (v := undef) (by simp [Rep, undef]))

theorem widL_le : ∀ (os : List Oper) (k : Nat) (o : Oper), os[k]? = some o → widL (os.take k) + wid o.op ≤ widL os
  | [], _, _, h => by simp at h
  | x :: r, 0, o, h => by
    simp only [List.getElem?_cons_zero, Option.some.injEq] at h
    subst h
    simp [widL]
  | x :: r, k + 1, o, h => by
    have := widL_le r k o (by simpa using h)
    simp only [List.take_succ_cons, widL]
    omega

/-- one after the other -/
theorem runOps_sound (hE : EnvOK c.P c.E) (hW : WOK c.P c.E c.S c.w0) (hC : CallOK c.P c.E c.S call) {ops : Array Oper} {Q : Exit → Act → World → Prop} :
    ∀ (os : List Oper) (n i : Nat) (I : Nat → Prop) (L : Ref → Option Pl) (s : St) (a : Act) (w : World) (t : St) (l : List Fp), os = ops.toList.drop i → i ≤ ops.size → Sim c I L s a w → (∀ k, k < widL os → s.heap[n + k]? = some none) →
    runOps c.E call ops.toList n i os s = some (t, l) → (∀ I' L' a' w', Sim c I' L' t a' w' → Q .normal a' w') → wpOps c.P ops Q (List.range' i (ops.size - i)) a w
  | [], n, i, I, L, s, a, w, t, l, hos, hle, h, hn, e, hQ => by
    have : ops.size - i = 0 := by
      have h0 := congrArg List.length hos
      simp at h0
      omega
    rw [this]
    simp only [runOps, Option.some.injEq, Prod.mk.injEq] at e
    obtain ⟨rfl, rfl⟩ := e
    exact hQ I L a w h
  | o :: r, n, i, I, L, s, a, w, t, l, hos, hle, h, hn, e, hQ => by
    have hlt : i < ops.size := by
      have h0 := congrArg List.length hos
      simp at h0
      omega
    have hoi : ops[i]? = some o := by
      have h0 : (ops.toList.drop i)[0]? = some o := by rw [← hos]; rfl
      rw [List.getElem?_drop, Array.getElem?_toList] at h0
      exact h0
    have hr : r = ops.toList.drop (i + 1) := by
      rw [← List.tail_drop, ← hos]
      rfl
    have hsz : ops.size - i = (ops.size - (i + 1)) + 1 := by omega
    rw [hsz, List.range'_succ, wpOps_cons]
    simp only [runOps] at e
    split at e
    · rename_i s' f hstep
      unfold stepA at hstep
      split at hstep
      · rename_i δ rs hst
        simp only [Option.some.injEq, Prod.mk.injEq] at hstep
        obtain ⟨rfl, rfl⟩ := hstep
        split at e
        · rename_i t' l' hrest
          simp only [Option.some.injEq, Prod.mk.injEq] at e
          obtain ⟨rfl, _⟩ := e
          simp only [widL] at hn
          refine step_sound h hE hW hC hoi (fun j hj => hn j (by omega)) hst fun I' L' a' w' h' => ?_
          refine runOps_sound hE hW hC r (n + wid o.op) (i + 1) I' L' _ a' w' _ _ hr hlt h' (fun k hk => ?_) hrest hQ
          simp only [St.app]
          have hnk := hn (wid o.op + k) (by omega)
          rw [← Nat.add_assoc] at hnk
          rw [putAll_other]
          · exact hnk
          · intro hm
            rcases stepH_inv hst with ⟨δ', r1, rfl, e1, hwr, _⟩ | ⟨rfl, _⟩
            · rcases hwr _ hm with h0 | ⟨_, b, hb⟩
              · omega
              · have := rdv_l.1 (show rdv _ (.l _) = some b from hb)
                rw [hnk] at this
                cases this
            · simp [dlOf] at hm
        · cases e
      · cases hstep
    · cases e

theorem rdv_iff {h h' : List (Option Blk)} (hh : ∀ (id : Nat) (b : Blk), h'[id]? = some (some b) ↔ h[id]? = some (some b)) (r : Ref) (b : Blk) : rdv h' r = some b ↔ rdv h r = some b := by
  cases r with
  | l id => rw [rdv_l, rdv_l]; exact hh id b
  | o k i q =>
    rw [rdv_o, rdv_o]
    constructor
    · rintro ⟨tb, cs, l, st, gs, h1, h2⟩
      exact ⟨tb, cs, l, st, gs, (hh k tb).1 h1, h2⟩
    · rintro ⟨tb, cs, l, st, gs, h1, h2⟩
      exact ⟨tb, cs, l, st, gs, (hh k tb).2 h1, h2⟩

/-- nothings more at the end -/
theorem Sim.heap (h : Sim c I L s a w) {hp' : List (Option Blk)} (hh : ∀ (id : Nat) (b : Blk), hp'[id]? = some (some b) ↔ s.heap[id]? = some (some b)) : Sim c I L ⟨s.env, hp'⟩ a w :=
  ⟨h.env, h.defers, fun id b hb => h.blk id b ((rdv_iff hh id b).1 hb), fun id p hp => by
    obtain ⟨b, hb⟩ := h.dom id p hp
    exact ⟨b, (rdv_iff hh id b).2 hb⟩, h.own, h.inj, h.imm, h.i0, h.iN, h.same, h.fix, h.bx, h.grow, h.io⟩

theorem pad_some {hp : List (Option Blk)} {n id : Nat} {b : Blk} : (hp ++ List.replicate n none)[id]? = some (some b) ↔ hp[id]? = some (some b) := by
  rcases Nat.lt_or_ge id hp.length with hl | hl
  · rw [List.getElem?_append_left hl]
  · rw [List.getElem?_append_right hl, List.getElem?_eq_none hl, List.getElem?_replicate]
    constructor
    · intro h
      split at h <;> simp at h
    · intro h; cases h

theorem trim_some : ∀ {hp : List (Option Blk)} {id : Nat} {b : Blk}, (trim hp)[id]? = some (some b) ↔ hp[id]? = some (some b)
  | [], _, _ => Iff.rfl
  | x :: r, id, b => by
    have ih := fun id => trim_some (hp := r) (id := id) (b := b)
    cases id with
    | zero =>
      simp only [trim]
      split
      · simp
      · simp
    | succ id =>
      simp only [trim, List.getElem?_cons_succ]
      split
      · rename_i hx hr
        have := ih id
        rw [hr] at this
        simp only [List.getElem?_nil] at this ⊢
        exact this
      · simp only [List.getElem?_cons_succ]
        exact ih id

end
end Go.Eng

/-
  The abstract machine, part 19: regions in any order.
-/
namespace Go.Eng

/-! What is ahead of what. -/

inductive Ahead (ops : List Oper) : Nat → Nat → Prop where
  | one {j : Nat} {o : Oper} {e : Edge} : ops[j]? = some o → e ∈ o.after.toList → Region.binds .any e = true → Ahead ops e.on j
  | more {i j : Nat} {o : Oper} {e : Edge} : ops[j]? = some o → e ∈ o.after.toList → Region.binds .any e = true → Ahead ops i e.on → Ahead ops i j

theorem maskOf_sound {ops : List Oper} {acc : List Nat} (ha : ∀ j i, j < acc.length → (acc.getD j 0).testBit i = true → Ahead ops i j) {j : Nat} {o : Oper} (ho : ops[j]? = some o) :
    ∀ (es : List Edge), (∀ e, e ∈ es → e ∈ o.after.toList) → ∀ i, (maskOf acc es).testBit i = true → Ahead ops i j
  | [], _, i, h => by simp [maskOf] at h
  | e :: r, hm, i, h => by
    simp only [maskOf] at h
    split at h
    · rename_i hb
      simp only [Nat.testBit_or, Bool.or_eq_true] at h
      rcases h with (h | h) | h
      · rcases Nat.lt_or_ge e.on acc.length with hl | hl
        · exact .more ho (hm e (by simp)) hb (ha _ _ hl h)
        · rw [List.getD_eq_getElem?_getD, List.getElem?_eq_none hl] at h
          simp at h
      · rw [Nat.one_shiftLeft, Nat.testBit_two_pow] at h
        have := of_decide_eq_true h
        subst this
        exact .one ho (hm e (by simp)) hb
      · exact maskOf_sound ha ho r (fun e he => hm e (by simp [he])) i h
    · exact maskOf_sound ha ho r (fun e he => hm e (by simp [he])) i h

theorem masks_sound {ops : List Oper} : ∀ (os : List Oper) (acc : List Nat), os = ops.drop acc.length → (∀ j i, j < acc.length → (acc.getD j 0).testBit i = true → Ahead ops i j) →
    ∀ j i, ((masks os acc).getD j 0).testBit i = true → Ahead ops i j
  | [], acc, _, ha, j, i, h => by
    simp only [masks] at h
    rcases Nat.lt_or_ge j acc.length with hl | hl
    · exact ha j i hl h
    · rw [List.getD_eq_getElem?_getD, List.getElem?_eq_none hl] at h
      simp at h
  | o :: r, acc, hos, ha, j, i, h => by
    simp only [masks] at h
    have hoi : ops[acc.length]? = some o := by
      have h0 : (ops.drop acc.length)[0]? = some o := by rw [← hos]; rfl
      rw [List.getElem?_drop] at h0
      exact h0
    refine masks_sound r _ ?_ ?_ j i h
    · rw [List.length_append, List.length_singleton, ← List.tail_drop, ← hos]
      rfl
    · intro j i hj hb
      simp only [List.length_append, List.length_singleton] at hj
      rw [List.getD_eq_getElem?_getD] at hb
      rcases Nat.lt_or_ge j acc.length with hl | hl
      · rw [List.getElem?_append_left hl, ← List.getD_eq_getElem?_getD] at hb
        exact ha j i hl hb
      · have : j = acc.length := by omega
        subst this
        simp only [List.getElem?_append_right (Nat.le_refl _), Nat.sub_self, List.getElem?_cons_zero, Option.getD_some] at hb
        exact maskOf_sound ha hoi _ (fun _ h => h) i hb

/-- done are only such as all that binds them is done -/
def Closed (ops : List Oper) (p : Nat → Bool) : Prop := ∀ j o, ops[j]? = some o → p j = true → ∀ e, e ∈ o.after.toList → Region.binds .any e = true → p e.on = true

theorem Ahead.closed {ops : List Oper} {p : Nat → Bool} (hc : Closed ops p) {i j : Nat} (h : Ahead ops i j) : p j = true → p i = true := by
  induction h with
  | one ho he hb => exact fun hp => hc _ _ ho hp _ he hb
  | more ho he hb _ ih => exact fun hp => ih (hc _ _ ho hp _ he hb)

theorem Ahead.ready {ops : List Oper} {p : Nat → Bool} (hc : Closed ops p) {i j : Nat} (h : Ahead ops i j) (hr : ∀ o, ops[j]? = some o → ∀ e, e ∈ o.after.toList → Region.binds .any e = true → p e.on = true) : p i = true := by
  cases h with
  | one ho he hb => exact hr _ ho _ he hb
  | more ho he hb h => exact h.closed hc (hr _ ho _ he hb)

/-! The state where some of the operations are done. -/

def dstOf (ops : List Oper) (j : Nat) : Option Tmp := (ops[j]?).bind (·.dst)

def part (ops : List Oper) (D : Nat → Dl) (s0 : St) (p : Nat → Bool) : Nat → St
  | 0 => s0
  | n + 1 => match p n with
    | true => (part ops D s0 p n).app (dstOf ops n) (D n)
    | false => part ops D s0 p n

section
variable {ops : List Oper} {D : Nat → Dl} {s0 : St}

theorem putD_length (env : List AV) (d : Option Tmp) (x : AV) : (putD env d x).length = env.length := by cases d <;> simp [putD]

theorem part_env_length (p : Nat → Bool) : ∀ n, (part ops D s0 p n).env.length = s0.env.length
  | 0 => rfl
  | n + 1 => by
    simp only [part]
    split
    · simp only [St.app, putD_length]; exact part_env_length p n
    · exact part_env_length p n

theorem part_heap_length (p : Nat → Bool) : ∀ n, (part ops D s0 p n).heap.length = s0.heap.length
  | 0 => rfl
  | n + 1 => by
    simp only [part]
    split
    · simp only [St.app, putAll_length]; exact part_heap_length p n
    · exact part_heap_length p n

theorem putD_get (env : List AV) (d : Option Tmp) (x : AV) (k : Nat) : (putD env d x)[k]? = if d = some k ∧ k < env.length then some x else env[k]? := by
  cases d with
  | none => simp [putD]
  | some d =>
    simp only [putD, Option.some.injEq, List.getElem?_set]
    by_cases h : d = k
    · subst h
      by_cases hl : d < env.length <;> simp [hl]
    · simp [h]

theorem part_env {p q : Nat → Bool} {d : Nat} : ∀ n, (∀ j, j < n → dstOf ops j = some d → p j = q j) → (part ops D s0 p n).env[d]? = (part ops D s0 q n).env[d]?
  | 0, _ => rfl
  | n + 1, h => by
    have ih := part_env n fun j hj => h j (by omega)
    have key : ∀ (r : Nat → Bool), (part ops D s0 r (n + 1)).env[d]? = if r n = true ∧ dstOf ops n = some d ∧ d < s0.env.length then some (D n).x else (part ops D s0 r n).env[d]? := by
      intro r
      simp only [part]
      split
      · rename_i hr
        simp only [St.app, putD_get, part_env_length, hr, true_and]
      · rename_i hr
        simp [hr]
    rw [key p, key q, ih]
    by_cases hd : dstOf ops n = some d
    · rw [h n (by omega) hd]
    · simp [hd]

theorem putH_congr {h h' : List (Option Blk)} {r : Ref} {b : Blk} {id : Nat} (hl : h.length = h'.length) (e : h[id]? = h'[id]?) : (putH h r b)[id]? = (putH h' r b)[id]? := by
  by_cases hid : id = r.ix
  · subst hid
    cases r with
    | l n => simp only [putH, Ref.ix, List.getElem?_set, hl] at e ⊢; simp [e]
    | o k i q =>
      simp only [Ref.ix] at e ⊢
      simp only [putH]
      rw [← e]
      split
      · split
        · simp only [List.getElem?_set, hl]
          split
          · rfl
          · exact e
        · split
          · simp only [List.getElem?_set, hl]
            split
            · rfl
            · exact e
          · exact e
        · exact e
      · exact e
  · rw [putH_other hid, putH_other hid]
    exact e

theorem putAll_congr : ∀ (wr : List (Ref × Blk)) {h h' : List (Option Blk)} {id : Nat}, h.length = h'.length → h[id]? = h'[id]? → (putAll h wr)[id]? = (putAll h' wr)[id]?
  | [], _, _, _, _, e => e
  | (i, b) :: r, h, h', id, hl, e => by
    simp only [putAll]
    exact putAll_congr r (by rw [putH_length, putH_length, hl]) (putH_congr hl e)

theorem part_heap {p q : Nat → Bool} {id : Nat} : ∀ n, (∀ j, j < n → id ∈ (D j).wr.map (·.1.ix) → p j = q j) → (part ops D s0 p n).heap[id]? = (part ops D s0 q n).heap[id]?
  | 0, _ => rfl
  | n + 1, h => by
    have ih := part_heap n fun j hj => h j (by omega)
    by_cases hm : id ∈ (D n).wr.map (·.1.ix)
    · have hpq := h n (by omega) hm
      simp only [part]
      rw [hpq]
      split
      · simp only [St.app]
        exact putAll_congr _ (by rw [part_heap_length, part_heap_length]) ih
      · exact ih
    · have key : ∀ (r : Nat → Bool), (part ops D s0 r (n + 1)).heap[id]? = (part ops D s0 r n).heap[id]? := by
        intro r
        simp only [part]
        split
        · simp only [St.app]; exact putAll_other _ _ _ hm
        · rfl
      rw [key p, key q, ih]

theorem set_putH {h : List (Option Blk)} {i : Nat} {b : Option Blk} {r : Ref} {x : Blk} (hn : i ≠ r.ix) : putH (h.set i b) r x = (putH h r x).set i b := by
  cases r with
  | l n => simp only [putH]; exact List.set_comm _ _ hn
  | o k j q =>
    have hn : i ≠ k := hn
    simp only [putH, List.getElem?_set_ne hn]
    split
    · split
      · exact List.set_comm _ _ hn
      · split
        · exact List.set_comm _ _ hn
        · rfl
      · rfl
    · rfl

theorem set_putAll : ∀ (wr : List (Ref × Blk)) (h : List (Option Blk)) (i : Nat) (b : Option Blk), i ∉ wr.map (·.1.ix) → putAll (h.set i b) wr = (putAll h wr).set i b
  | [], _, _, _, _ => rfl
  | (k, x) :: r, h, i, b, hn => by
    simp only [List.map_cons, List.mem_cons, not_or] at hn
    simp only [putAll]
    rw [set_putH hn.1, set_putAll r _ i b hn.2]

theorem putH_putAll {wr : List (Ref × Blk)} {h : List (Option Blk)} {r : Ref} {x : Blk} (hn : r.ix ∉ wr.map (·.1.ix)) : putAll (putH h r x) wr = putH (putAll h wr) r x := by
  cases r with
  | l n => simp only [putH]; exact set_putAll wr h n _ hn
  | o k i q =>
    have hk : (putAll h wr)[k]? = h[k]? := putAll_other wr h k hn
    simp only [putH, hk]
    split
    · split
      · exact set_putAll wr h k _ hn
      · split
        · exact set_putAll wr h k _ hn
        · rfl
      · rfl
    · rfl

theorem putAll_comm : ∀ (wr wr' : List (Ref × Blk)) (h : List (Option Blk)), (∀ id, id ∈ wr.map (·.1.ix) → id ∉ wr'.map (·.1.ix)) → putAll (putAll h wr) wr' = putAll (putAll h wr') wr
  | [], _, _, _ => rfl
  | (k, x) :: r, wr', h, hd => by
    simp only [putAll]
    rw [putAll_comm r wr' _ (fun id hid => hd id (by simp at hid ⊢; exact .inr hid)), putH_putAll (hd k.ix (by simp))]

theorem putD_comm (env : List AV) (d e : Option Tmp) (x y : AV) (h : ∀ k, d = some k → e ≠ some k) : putD (putD env d x) e y = putD (putD env e y) d x := by
  cases d with
  | none => rfl
  | some d =>
    cases e with
    | none => rfl
    | some e =>
      have : d ≠ e := fun he => h d rfl (by rw [he])
      simp only [putD]
      exact List.set_comm _ _ this

theorem St.app_comm (s : St) (d e : Option Tmp) (x y : Dl) (h : ∀ k, d = some k → e ≠ some k) (hw : ∀ id, id ∈ x.wr.map (·.1.ix) → id ∉ y.wr.map (·.1.ix)) : (s.app d x).app e y = (s.app e y).app d x := by
  simp only [St.app, putD_comm _ _ _ _ _ h, putAll_comm _ _ _ hw]

theorem part_same {p q : Nat → Bool} : ∀ n, (∀ j, j < n → p j = q j) → part ops D s0 p n = part ops D s0 q n
  | 0, _ => rfl
  | n + 1, h => by simp only [part]; rw [h n (by omega), part_same n fun j hj => h j (by omega)]

/-- one more is done -/
theorem part_more {p q : Nat → Bool} {i : Nat} (hi : p i = false) (hq : q i = true) (hne : ∀ j, j ≠ i → q j = p j) : ∀ n, i < n → (∀ j, i < j → j < n → p j = true → (∀ k, dstOf ops i = some k → dstOf ops j ≠ some k) ∧ ∀ id, id ∈ (D i).wr.map (·.1.ix) → id ∉ (D j).wr.map (·.1.ix)) →
    part ops D s0 q n = (part ops D s0 p n).app (dstOf ops i) (D i)
  | 0, h, _ => by omega
  | n + 1, h, hc => by
    by_cases hn : i = n
    · subst hn
      simp only [part, hi, hq]
      rw [part_same i fun j hj => hne j (by omega)]
    · have ih := part_more hi hq hne n (by omega) fun j h1 h2 => hc j h1 (by omega)
      simp only [part]
      rw [hne n (fun e => hn e.symm)]
      split
      · rename_i hp
        rw [ih]
        obtain ⟨h1, h2⟩ := hc n (by omega) (by omega) hp
        exact St.app_comm _ _ _ _ _ h1 h2
      · exact ih

end

/-! What an operation sees. -/

theorem aeval_congr {e e' : List AV} {x : Operand} (h : ∀ t, x = .tmp t → e[t]? = e'[t]?) : aeval e x = aeval e' x := by
  cases x with
  | tmp t => simp only [aeval, List.getD_eq_getElem?_getD, h t rfl]
  | _ => rfl

theorem aop_congr (E : Env) {ρ ρ' : Operand → AV} (newId : Nat) (o : Op) (h : ∀ x ∈ o.operands, ρ x = ρ' x) : aop E ρ newId o = aop E ρ' newId o := by
  have arr : ∀ xs : Array Operand, (∀ x ∈ xs, ρ x = ρ' x) → xs.toList.map ρ = xs.toList.map ρ' := fun xs hx => List.map_congr_left fun x hm => hx x (Array.mem_toList_iff.1 hm)
  have pairs : ∀ ps : Array (Nat × Operand), (∀ x ∈ ps.map (·.2), ρ x = ρ' x) → (ps.toList.map fun (i, x) => (i, ρ x)) = (ps.toList.map fun (i, x) => (i, ρ' x)) := fun ps hp =>
    List.map_congr_left fun p hm => by
      obtain ⟨i, x⟩ := p
      simp only [hp x (Array.mem_map.2 ⟨(i, x), Array.mem_toList_iff.1 hm, rfl⟩)]
  cases o <;> simp only [Op.operands] at h <;> simp only [aop]
  case makeMap t r => cases r <;> rfl
  case build t ps => rw [pairs ps fun x hx => h x (by simpa using hx)]
  case buildSlice t n ps => rw [pairs ps fun x hx => h x (by simpa using hx)]
  case makeFunc f a c => rw [arr a fun x hx => h x (by simp [hx]), arr c fun x hx => h x (by simp [hx])]
  case call c =>
    have hargs : c.args.toList.map ρ = c.args.toList.map ρ' := arr _ fun x hx => h x (by simp [Call.operands, hx])
    cases hc : c.callee with
    | value f => have hf : ρ f = ρ' f := h f (by simp [Call.operands, hc]); simp only [hf, hargs]
    | invoke r m => rfl
    | builtin b => simp only [hargs]
  case slice t x lo hi mx => cases lo <;> cases hi <;> cases mx <;> simp_all
  all_goals (first | rfl | (simp_all; done))

theorem HM.run_local {α : Type} {call : CallF} {h h' : Ref → Option Blk} : ∀ (m : HM α) {x : α} {l : List Nat}, m.run call h = some (x, l) → (∀ r, r.ix ∈ l → h' r = h r) → m.run call h' = some (x, l)
  | .ret a, _, _, e, _ => e
  | .rd id k, x, l, e, hh => by
    obtain ⟨b, l', hb, e', rfl⟩ := HM.run_rd e
    have := HM.run_local (k b) e' (fun i hi => hh i (by simp [hi]))
    simp only [HM.run, hh id (by simp), hb, this]
  | .chk b k, x, l, e, hh => by
    simp only [HM.run] at e ⊢
    cases b
    · cases e
    · exact HM.run_local k e hh
  | .dec b y z, x, l, e, hh => by
    simp only [HM.run] at e ⊢
    cases b
    · exact HM.run_local z e hh
    · exact HM.run_local y e hh
  | .call f as bs n k, x, l, e, hh => by
    simp only [HM.run] at e ⊢
    split at e
    · rename_i r ts wr hr
      exact HM.run_local (k r ts wr) e hh
    · cases e
  | .fail, _, _, e, _ => by cases e

/-- what is read hangs on one place of the heap -/
theorem rdH_congr {h h' : List (Option Blk)} {r : Ref} (e : h[r.ix]? = h'[r.ix]?) : rdH h r = rdH h' r := by
  cases r with
  | l id => simp only [Ref.ix] at e; simp only [rdH, e]
  | o k i q => simp only [Ref.ix] at e; simp only [rdH, e]

theorem stepH_congr (E : Env) {ops : Array Oper} (newId : Nat) (o : Oper) {e e' : List AV} (h : ∀ d, d ∈ o.looksAt ops → e[d]? = e'[d]?) : stepH E ops.toList newId o e = stepH E ops.toList newId o e' := by
  have ha : aop E (aeval e) newId o.op = aop E (aeval e') newId o.op := aop_congr E newId o.op fun x hx => aeval_congr fun t ht => by
    subst ht
    exact h t (List.mem_append_left _ (List.mem_filterMap.2 ⟨.tmp t, by simpa using hx, rfl⟩))
  unfold stepH
  rw [ha]
  split
  · rfl
  · rename_i j want hg
    split
    · rename_i d hd
      have : e[d]? = e'[d]? := h d (by
        refine List.mem_append_right _ ?_
        rw [hg]
        rw [Array.getElem?_toList] at hd
        simp [hd])
      rw [List.getD_eq_getElem?_getD, List.getD_eq_getElem?_getD, this]
    · rfl

end Go.Eng

/-
  The abstract machine, part 20: a region whose order is drawn.
-/
namespace Go.Eng

/-- what a region must be like whose order is drawn: edges go back; what touches the same slot is bound -/
def edgesOK (ops : List Oper) : Bool := (List.range ops.length).all fun i => match ops[i]? with
  | some o => o.after.toList.all fun e => !Region.binds .any e || decide (e.on < i)
  | none => true

def apartOK (ops : Array Oper) (ms : List Nat) : Bool := (List.range ops.size).all fun i => (List.range i).all fun j => match ops[j]?, ops[i]? with
  | some x, some y => x.apart ops y || (ms.getD i 0).testBit j
  | _, _ => true

def drawOK (ops : Array Oper) : Bool := edgesOK ops.toList && apartOK ops (masks ops.toList [])

section
variable {E : Env} {call : CallF} {ops : List Oper} {base : Nat} {s0 : St}

/-- the states, one after the other -/
def stA (E : Env) (call : CallF) (ops : List Oper) (base : Nat) (s0 : St) : Nat → St
  | 0 => s0
  | k + 1 => match (ops[k]?).bind fun o => stepA E call ops (base + widL (ops.take k)) k o (stA E call ops base s0 k) with
    | some (s', _) => s'
    | none => stA E call ops base s0 k

def fpA (E : Env) (call : CallF) (ops : List Oper) (base : Nat) (s0 : St) (k : Nat) : Option (Dl × List Nat) :=
  (ops[k]?).bind fun o => ((stepH E ops (base + widL (ops.take k)) o (stA E call ops base s0 k).env).run call (stA E call ops base s0 k).rd).map fun x => (dlOf x.1, x.2)

def meet (f g : Fp) : Bool := meets f.ws g.rs || meets f.ws g.ws || meets f.rs g.ws

def mkFp (k : Nat) (x : Dl × List Nat) : Fp := ⟨k, x.2, x.1.wr.map (·.1.ix)⟩

theorem mem_consF {f g : Fp} {l : List Fp} (h : g ∈ l) : g ∈ consF f l := by
  unfold consF
  split
  · exact h
  · exact List.mem_cons_of_mem _ h

theorem mem_consF_self {f : Fp} {l : List Fp} : f ∈ consF f l ∨ (f.rs = [] ∧ f.ws = []) := by
  unfold consF
  split
  · rename_i h1 h2
    exact .inr ⟨h1, h2⟩
  · exact .inl (by simp)

theorem fpsOK_tail {ms : List Nat} {f : Fp} {l : List Fp} (h : fpsOK ms (consF f l) = true) : fpsOK ms l = true := by
  unfold consF at h
  split at h
  · exact h
  · simp only [fpsOK, Bool.and_eq_true] at h
    exact h.2

theorem fpsOK_head {ms : List Nat} {f g : Fp} {l : List Fp} (h : fpsOK ms (consF f l) = true) (hg : g ∈ l) (hm : meet f g = true) : (ms.getD g.i 0).testBit f.i = true := by
  unfold consF at h
  split at h
  · rename_i h1 h2
    simp [meet, meets, h1, h2] at hm
  · simp only [fpsOK, Bool.and_eq_true, List.all_eq_true, Bool.or_eq_true, Bool.not_eq_true'] at h
    rcases h.1 g hg with h0 | h0
    · simp only [meet] at hm
      rw [h0] at hm
      cases hm
    · exact h0

theorem widL_succ : ∀ {os : List Oper} {k : Nat} {o : Oper}, os[k]? = some o → widL (os.take (k + 1)) = widL (os.take k) + wid o.op
  | [], _, _, h => by simp at h
  | x :: r, 0, o, h => by
    simp only [List.getElem?_cons_zero, Option.some.injEq] at h
    subst h
    simp [widL]
  | x :: r, k + 1, o, h => by
    have := widL_succ (os := r) (k := k) (o := o) (by simpa using h)
    simp only [List.take_succ_cons, widL] at this ⊢
    omega

theorem widL_mono {os : List Oper} {i j : Nat} {o : Oper} (ho : os[i]? = some o) (hij : i < j) : widL (os.take i) + wid o.op ≤ widL (os.take j) := by
  have := widL_le (os.take j) i o (by rw [List.getElem?_take_of_lt hij]; exact ho)
  rw [List.take_take, Nat.min_eq_left (by omega)] at this
  exact this

/-- what a run in the order of the text comes to -/
theorem runOps_trace : ∀ (os : List Oper) (i : Nat) (t : St) (l : List Fp), os = ops.drop i → i ≤ ops.length → runOps E call ops (base + widL (ops.take i)) i os (stA E call ops base s0 i) = some (t, l) →
    t = stA E call ops base s0 ops.length ∧ (∀ k, i ≤ k → k < ops.length → ∃ o δ rs, ops[k]? = some o ∧ (stepH E ops (base + widL (ops.take k)) o (stA E call ops base s0 k).env).run call (stA E call ops base s0 k).rd = some (δ, rs) ∧
      stA E call ops base s0 (k + 1) = (stA E call ops base s0 k).app o.dst (dlOf δ) ∧ fpA E call ops base s0 k = some (dlOf δ, rs) ∧ (mkFp k (dlOf δ, rs) ∈ l ∨ (rs = [] ∧ (dlOf δ).wr.map (·.1.ix) = []))) ∧
      (∀ ms, fpsOK ms l = true → ∀ j k x y, i ≤ j → j < k → k < ops.length → fpA E call ops base s0 j = some x → fpA E call ops base s0 k = some y → meet (mkFp j x) (mkFp k y) = true → (ms.getD k 0).testBit j = true)
  | [], i, t, l, hos, hle, e => by
    have : i = ops.length := by
      have h0 := congrArg List.length hos
      simp at h0
      omega
    simp only [runOps, Option.some.injEq, Prod.mk.injEq] at e
    obtain ⟨rfl, rfl⟩ := e
    refine ⟨by rw [this], fun k h1 h2 => by omega, fun ms _ j k x y h1 h2 h3 => by omega⟩
  | o :: r, i, t, l, hos, hle, e => by
    have hlt : i < ops.length := by
      have h0 := congrArg List.length hos
      simp at h0
      omega
    have hoi : ops[i]? = some o := by
      have h0 : (ops.drop i)[0]? = some o := by rw [← hos]; rfl
      rw [List.getElem?_drop] at h0
      exact h0
    have hr : r = ops.drop (i + 1) := by
      rw [← List.tail_drop, ← hos]
      rfl
    simp only [runOps] at e
    split at e
    · rename_i s' f hstep
      have hstep0 := hstep
      unfold stepA at hstep
      split at hstep
      · rename_i δ rs hst
        simp only [Option.some.injEq, Prod.mk.injEq] at hstep
        obtain ⟨rfl, rfl⟩ := hstep
        have hnext : stA E call ops base s0 (i + 1) = (stA E call ops base s0 i).app o.dst (dlOf δ) := by
          simp only [stA, hoi, Option.bind_some, hstep0]
        have hfp : fpA E call ops base s0 i = some (dlOf δ, rs) := by
          simp only [fpA, hoi, Option.bind_some, hst, Option.map_some]
        split at e
        · rename_i t' l' hrest
          simp only [Option.some.injEq, Prod.mk.injEq] at e
          obtain ⟨rfl, rfl⟩ := e
          rw [← hnext, Nat.add_assoc, ← widL_succ hoi] at hrest
          obtain ⟨h1, h2, h3⟩ := runOps_trace r (i + 1) _ _ hr hlt hrest
          refine ⟨h1, fun k hk1 hk2 => ?_, fun ms hms j k x y hj hjk hk hx hy hm => ?_⟩
          · by_cases hki : k = i
            · subst hki
              exact ⟨o, δ, rs, hoi, hst, hnext, hfp, mem_consF_self⟩
            · obtain ⟨o', δ', rs', g1, g2, g3, g4, g5⟩ := h2 k (by omega) hk2
              refine ⟨o', δ', rs', g1, g2, g3, g4, g5.imp mem_consF id⟩
          · by_cases hji : j = i
            · subst hji
              rw [hfp] at hx
              injection hx with hx
              subst hx
              obtain ⟨o', δ', rs', g1, g2, g3, g4, g5⟩ := h2 k (by omega) hk
              rw [g4] at hy
              injection hy with hy
              subst hy
              rcases g5 with g5 | ⟨g5, g6⟩
              · exact fpsOK_head hms g5 hm
              · have : meet (mkFp j (dlOf δ, rs)) (mkFp k (dlOf δ', rs')) = false := by
                  simp only [meet, mkFp, g5, g6, meets]
                  simp
                rw [this] at hm
                cases hm
            · exact h3 ms (fpsOK_tail hms) j k x y (by omega) hjk hk hx hy hm
        · cases e
      · cases hstep
    · cases e

theorem meets_of {a b : List Nat} {x : Nat} (ha : x ∈ a) (hb : x ∈ b) : meets a b = true := by
  simp only [meets, List.any_eq_true]
  exact ⟨x, ha, by simpa using hb⟩

end

theorem filter_one {i : Nat} {p q : Nat → Bool} (hp : p i = true) (hq : q i = false) (hne : ∀ j, j ≠ i → q j = p j) : ∀ (l : List Nat), l.Nodup → i ∈ l → (l.filter q).length + 1 = (l.filter p).length
  | [], _, h => by cases h
  | x :: r, hn, h => by
    have hnr := (List.nodup_cons.1 hn)
    by_cases hx : x = i
    · subst hx
      have : r.filter q = r.filter p := List.filter_congr fun j hj => hne j fun e => hnr.1 (e ▸ hj)
      rw [List.filter_cons_of_pos hp, List.filter_cons_of_neg (by simp [hq]), this]
      rfl
    · have hm : i ∈ r := by
        rcases List.mem_cons.1 h with h | h
        · exact absurd h.symm hx
        · exact h
      have ih := filter_one hp hq hne r hnr.2 hm
      by_cases hpx : p x = true
      · rw [List.filter_cons_of_pos hpx, List.filter_cons_of_pos (by rw [hne x hx]; exact hpx)]
        simp only [List.length_cons]
        omega
      · rw [List.filter_cons_of_neg hpx, List.filter_cons_of_neg (by rw [hne x hx]; exact hpx)]
        exact ih

section
variable {c : Ctx} {I : Nat → Prop} {L : Ref → Option Pl} {s : St} {a : Act} {w : World} {call : CallF}

theorem draw_sound (h : Sim c I L s a w) (hE : EnvOK c.P c.E) (hW : WOK c.P c.E c.S c.w0) (hC : CallOK c.P c.E c.S call) {ops : Array Oper} {base : Nat} {Q : Exit → Act → World → Prop} {t : St} {l : List Fp}
    (hfree : ∀ k, k < widL ops.toList → s.heap[base + k]? = some none) (e : runOps c.E call ops.toList base 0 ops.toList s = some (t, l)) (hd : drawOK ops = true) (hf : fpsOK (masks ops.toList []) l = true)
    (hQ : ∀ I' L' a' w', Sim c I' L' t a' w' → Q .normal a' w') : wpAny c.P .any ops Q ops.size (Array.replicate ops.size false) a w := by
  obtain ⟨ht, htr, hfp⟩ := runOps_trace (s0 := s) (base := base) ops.toList 0 t l rfl (Nat.zero_le _) (by simpa [widL, stA] using e)
  simp only [drawOK, Bool.and_eq_true] at hd
  obtain ⟨hedge, hapart⟩ := hd
  have hlen : ops.toList.length = ops.size := Array.length_toList
  rw [hlen] at ht htr hfp
  have hms : ∀ j i, ((masks ops.toList []).getD j 0).testBit i = true → Ahead ops.toList i j := masks_sound ops.toList [] rfl (fun j i hj => by simp at hj)
  obtain ⟨D, hD⟩ : ∃ D : Nat → Dl, D = fun k => ((fpA c.E call ops.toList base s k).map (·.1)).getD (dlOf none) := ⟨_, rfl⟩
  obtain ⟨R, hR⟩ : ∃ R : Nat → List Nat, R = fun k => ((fpA c.E call ops.toList base s k).map (·.2)).getD [] := ⟨_, rfl⟩
  -- the states are those where all ahead in the text is done
  have hst : ∀ k, k ≤ ops.size → stA c.E call ops.toList base s k = part ops.toList D s (fun _ => true) k := by
    intro k
    induction k with
    | zero => intro _; rfl
    | succ k ih =>
      intro hk
      obtain ⟨o, δ, rs, g1, g2, g3, g4, _⟩ := htr k (Nat.zero_le _) (by omega)
      rw [g3, ih (by omega)]
      simp only [part]
      congr 1
      · simp [dstOf, g1]
      · rw [hD]; simp [g4]
  have hst' : ∀ k, k ≤ ops.size → ∀ m, k ≤ m → part ops.toList D s (fun _ => true) k = part ops.toList D s (fun j => decide (j < k)) m := by
    intro k hk m hm
    induction m with
    | zero =>
      have : k = 0 := by omega
      subst this
      rfl
    | succ m ih =>
      by_cases hkm : k = m + 1
      · subst hkm
        exact part_same _ fun j hj => by simp [hj]
      · rw [ih (by omega)]
        simp only [part]
        rw [show decide (m < k) = false from by simp; omega]
  -- the footprints
  have hfoot : ∀ k, k < ops.size → ∃ o δ rs, ops.toList[k]? = some o ∧ (stepH c.E ops.toList (base + widL (ops.toList.take k)) o (part ops.toList D s (fun j => decide (j < k)) ops.size).env).run call (part ops.toList D s (fun j => decide (j < k)) ops.size).rd = some (δ, rs) ∧ dlOf δ = D k ∧ rs = R k := by
    intro k hk
    obtain ⟨o, δ, rs, g1, g2, g3, g4, _⟩ := htr k (Nat.zero_le _) hk
    rw [hst k (by omega), hst' k (by omega) ops.size (by omega)] at g2
    exact ⟨o, δ, rs, g1, g2, by rw [hD]; simp [g4], by rw [hR]; simp [g4]⟩
  have hmeet : ∀ j k, j < k → k < ops.size → (∃ id, (id ∈ (D j).wr.map (·.1.ix) ∧ (id ∈ R k ∨ id ∈ (D k).wr.map (·.1.ix))) ∨ (id ∈ R j ∧ id ∈ (D k).wr.map (·.1.ix))) → Ahead ops.toList j k := by
    intro j k hjk hk hm
    obtain ⟨_, δ1, rs1, _, _, _, g4, _⟩ := htr j (Nat.zero_le _) (by omega)
    obtain ⟨_, δ2, rs2, _, _, _, g4', _⟩ := htr k (Nat.zero_le _) hk
    refine hms k j (hfp _ hf j k _ _ (Nat.zero_le _) hjk hk g4 g4' ?_)
    obtain ⟨id, hm⟩ := hm
    have e1 : D j = dlOf δ1 := by rw [hD]; simp [g4]
    have e2 : D k = dlOf δ2 := by rw [hD]; simp [g4']
    have e3 : R j = rs1 := by rw [hR]; simp [g4]
    have e4 : R k = rs2 := by rw [hR]; simp [g4']
    rw [e1, e2, e3, e4] at hm
    simp only [meet, mkFp, Bool.or_eq_true]
    rcases hm with ⟨h1, h2 | h2⟩ | ⟨h1, h2⟩
    · exact .inl (.inl (meets_of h1 h2))
    · exact .inl (.inr (meets_of h1 h2))
    · exact .inr (meets_of h1 h2)
  have hslot : ∀ j k x y, j < k → k < ops.size → ops[j]? = some x → ops[k]? = some y → ¬ Ahead ops.toList j k → x.apart ops y = true := by
    intro j k x y hjk hk hx hy hn
    simp only [apartOK, List.all_eq_true, List.mem_range] at hapart
    have := hapart k hk j hjk
    rw [hx, hy] at this
    simp only [Bool.or_eq_true] at this
    exact this.resolve_right fun hb => hn (hms k j hb)
  have hback : ∀ i o, ops.toList[i]? = some o → ∀ e, e ∈ o.after.toList → Region.binds .any e = true → e.on < i := by
    intro i o ho e he hb
    simp only [edgesOK, List.all_eq_true, List.mem_range] at hedge
    have := hedge i (List.getElem?_eq_some_iff.1 ho).1
    rw [ho] at this
    simp only [List.all_eq_true] at this
    have := this e he
    simpa [hb] using this
  -- no one writes a new place before its own operation has
  have hnew : ∀ i o, ops.toList[i]? = some o → ∀ id, base + widL (ops.toList.take i) ≤ id → id < base + widL (ops.toList.take i) + wid o.op → ∀ j, j < ops.size → id ∈ (D j).wr.map (·.1.ix) → i ≤ j ∧ (i < j → id ∈ R j ∧ id ∈ (D i).wr.map (·.1.ix)) := by
    intro i oi hoi id hid1 hid2 j
    have htot := widL_le _ _ _ hoi
    have hidf : s.heap[id]? = some none := by
      have := hfree (id - base) (by omega)
      rwa [show base + (id - base) = id from by omega] at this
    induction j using Nat.strongRecOn with
    | _ j ih =>
      intro hj hm
      obtain ⟨o, δ, rs, g1, g2, g3, g4⟩ := hfoot j hj
      have hin : (base + widL (ops.toList.take j) ≤ id ∧ id < base + widL (ops.toList.take j) + wid o.op) ∨ (id ∈ R j ∧ ∃ b, (part ops.toList D s (fun m => decide (m < j)) ops.size).rd (.l id) = some b) := by
        rcases stepH_inv g2 with ⟨δ', r1, rfl, e1, hwr, _⟩ | ⟨rfl, _⟩
        · have := hwr id (by rw [← g3] at hm; exact hm)
          rw [g4] at this
          exact this
        · rw [← g3] at hm
          simp [dlOf] at hm
      rcases hin with hin | ⟨hin, b, hb⟩
      · have : i = j := by
          rcases Nat.lt_trichotomy i j with hlt | rfl | hgt
          · have := widL_mono hoi hlt
            omega
          · rfl
          · have := widL_mono g1 hgt
            omega
        subst this
        exact ⟨Nat.le_refl _, fun h => by omega⟩
      · -- somebody wrote it
        have hb' := rdv_l.1 (show rdv _ (.l id) = some b from hb)
        have : ∃ m, m < j ∧ id ∈ (D m).wr.map (·.1.ix) := by
          refine Classical.byContradiction fun hno => ?_
          have := part_heap (ops := ops.toList) (D := D) (s0 := s) (p := fun m => decide (m < j)) (q := fun _ => false) (id := id) ops.size fun m hm hw => by
            have hmj : ¬ m < j := fun hlt => hno ⟨m, hlt, hw⟩
            simp [hmj]
          rw [hb'] at this
          have h0 : ∀ n, part ops.toList D s (fun _ => false) n = s := by
            intro n
            induction n with
            | zero => rfl
            | succ n ih => simp only [part]; exact ih
          rw [h0, hidf] at this
          cases this
        obtain ⟨m, hmj, hmw⟩ := this
        obtain ⟨h1, h2⟩ := ih m hmj (by omega) hmw
        refine ⟨by omega, fun _ => ⟨hin, ?_⟩⟩
        by_cases him : i = m
        · subst him; exact hmw
        · exact (h2 (by omega)).2
  -- some are done: one more
  have key : ∀ (fuel : Nat) (listed : Array Bool) (I : Nat → Prop) (L : Ref → Option Pl) (a : Act) (w : World), listed.size = ops.size → Closed ops.toList (fun j => listed.getD j false) →
      ((List.range ops.size).filter fun j => !listed.getD j false).length = fuel → Sim c I L (part ops.toList D s (fun j => listed.getD j false) ops.size) a w → wpAny c.P .any ops Q fuel listed a w := by
    have alldone : ∀ (listed : Array Bool) (I : Nat → Prop) (L : Ref → Option Pl) (a : Act) (w : World), (∀ j, j < ops.size → listed.getD j false = true) → Sim c I L (part ops.toList D s (fun j => listed.getD j false) ops.size) a w → Q .normal a w := by
      intro listed I L a w hall hs
      refine hQ I L a w ?_
      rw [ht, hst ops.size (Nat.le_refl _)]
      rw [part_same (q := fun _ => true) ops.size (fun j hj => hall j hj)] at hs
      exact hs
    intro fuel
    induction fuel with
    | zero =>
      intro listed I L a w hsz hcl hcount hs
      have hall : ∀ j, j < ops.size → listed.getD j false = true := by
        intro j hj
        have := List.length_eq_zero_iff.1 hcount
        rw [List.filter_eq_nil_iff] at this
        have := this j (List.mem_range.2 hj)
        simpa using this
      refine ⟨?_, alldone listed I L a w hall hs⟩
      rw [List.eq_nil_iff_forall_not_mem]
      intro j hj
      obtain ⟨h0, o, ho, _⟩ := mem_ready.1 hj
      have hjl := (Array.getElem?_eq_some_iff.1 ho).1
      have h1 := hall j hjl
      rw [Array.getD_eq_getD_getElem?] at h0 h1
      rw [Array.getElem?_eq_getElem (by omega)] at h0 h1
      simp only [Option.getD_some] at h0 h1
      rw [h0] at h1
      cases h1
    | succ fuel ih =>
      intro listed I L a w hsz hcl hcount hs
      refine ⟨fun hr => ?_, fun i hi => ?_⟩
      · refine alldone listed I L a w (fun j => ?_) hs
        induction j using Nat.strongRecOn with
        | _ j ihj =>
          intro hj
          refine Classical.byContradiction fun hn => ?_
          have hjo : ops[j]? = some ops[j] := Array.getElem?_eq_getElem hj
          have : j ∈ Region.ready .any ops listed := by
            refine mem_ready.2 ⟨?_, ops[j], hjo, fun e he hb => ?_⟩
            · have hn : listed.getD j false = false := by simpa using hn
              rw [Array.getD_eq_getD_getElem?] at hn ⊢
              rw [Array.getElem?_eq_getElem (by omega)] at hn ⊢
              exact hn
            · have hlt := hback j ops[j] (by rw [Array.getElem?_toList]; exact hjo) e (Array.mem_toList_iff.2 he) hb
              exact ihj e.on hlt (by omega)
          rw [hr] at this
          cases this
      · obtain ⟨hi0, o, ho, hall⟩ := mem_ready.1 hi
        have hil := (Array.getElem?_eq_some_iff.1 ho).1
        have hoL : ops.toList[i]? = some o := by rw [Array.getElem?_toList]; exact ho
        have hpi : listed.getD i false = false := by
          rw [Array.getD_eq_getD_getElem?] at hi0 ⊢
          rw [Array.getElem?_eq_getElem (by omega)] at hi0 ⊢
          exact hi0
        have hready : ∀ o', ops.toList[i]? = some o' → ∀ e, e ∈ o'.after.toList → Region.binds .any e = true → listed.getD e.on false = true := by
          intro o' ho' e he hb
          rw [hoL] at ho'
          injection ho' with ho'
          subst ho'
          exact hall e (Array.mem_toList_iff.1 he) hb
        -- whoever is bound to it, is done just if he stands ahead in the text
        have hbound : ∀ j, j ≠ i → (j < i → Ahead ops.toList j i) → (i < j → Ahead ops.toList i j) → listed.getD j false = decide (j < i) := by
          intro j hne h1 h2
          rcases Nat.lt_or_gt_of_ne hne with hlt | hgt
          · rw [(h1 hlt).ready hcl hready]
            simp [hlt]
          · have : listed.getD j false = false := by
              cases hb : listed.getD j false with
              | false => rfl
              | true =>
                have := (h2 hgt).closed hcl hb
                rw [hpi] at this
                cases this
            rw [this]
            simp; omega
        obtain ⟨o', δ, rs, g1, g2, g3, g4⟩ := hfoot i hil
        rw [hoL] at g1
        injection g1 with g1
        subst g1
        -- the operation sees the same
        have henv : ∀ d, d ∈ o.looksAt ops → (part ops.toList D s (fun j => listed.getD j false) ops.size).env[d]? = (part ops.toList D s (fun j => decide (j < i)) ops.size).env[d]? := by
          intro d hd
          refine part_env ops.size fun j hj hdst => ?_
          by_cases hji : j = i
          · subst hji; simp [hpi]
          · have hjo : ops[j]? = some ops[j] := Array.getElem?_eq_getElem hj
            have hdj : ops[j].dst = some d := by
              unfold dstOf at hdst
              rw [Array.getElem?_toList, hjo] at hdst
              simpa using hdst
            refine hbound j hji (fun hlt => ?_) (fun hgt => ?_)
            · refine Classical.byContradiction fun hn => ?_
              exact (Oper.apart_spec (hslot j i _ _ hlt hil hjo ho hn)).1 d hdj hd
            · refine Classical.byContradiction fun hn => ?_
              exact (Oper.apart_spec (hslot i j _ _ hgt hj ho hjo hn)).2.2 d hdj hd
        have hheap : ∀ id, id ∈ R i → (part ops.toList D s (fun j => listed.getD j false) ops.size).heap[id]? = (part ops.toList D s (fun j => decide (j < i)) ops.size).heap[id]? := by
          intro id hid
          refine part_heap ops.size fun j hj hw => ?_
          by_cases hji : j = i
          · subst hji; simp [hpi]
          · exact hbound j hji (fun hlt => hmeet j i hlt hil ⟨id, .inl ⟨hw, .inl hid⟩⟩) (fun hgt => hmeet i j hgt hj ⟨id, .inr ⟨hid, hw⟩⟩)
        have hstep : (stepH c.E ops.toList (base + widL (ops.toList.take i)) o (part ops.toList D s (fun j => listed.getD j false) ops.size).env).run call (part ops.toList D s (fun j => listed.getD j false) ops.size).rd = some (δ, rs) := by
          rw [stepH_congr c.E (base + widL (ops.toList.take i)) o henv]
          refine HM.run_local _ g2 fun id hid => ?_
          rw [g4] at hid
          exact rdH_congr (hheap _ hid)
        have hfr : ∀ q, q < wid o.op → (part ops.toList D s (fun j => listed.getD j false) ops.size).heap[base + widL (ops.toList.take i) + q]? = some none := by
          intro q hq
          have htot := widL_le _ _ _ hoL
          have := part_heap (ops := ops.toList) (D := D) (s0 := s) (p := fun j => listed.getD j false) (q := fun _ => false) (id := base + widL (ops.toList.take i) + q) ops.size fun j hj hw => by
            by_cases hji : j = i
            · subst hji; exact hpi
            · obtain ⟨h1, h2⟩ := hnew i o hoL _ (by omega) (by omega) j hj hw
              obtain ⟨h3, h4⟩ := h2 (by omega)
              rw [hbound j hji (fun hlt => by omega) (fun hgt => hmeet i j hgt hj ⟨_, .inl ⟨h4, .inl h3⟩⟩)]
              simp; omega
          rw [this]
          have h0 : ∀ n, part ops.toList D s (fun _ => false) n = s := by
            intro n
            induction n with
            | zero => rfl
            | succ n ih => simp only [part]; exact ih
          rw [h0, Nat.add_assoc]
          exact hfree _ (by omega)
        refine step_sound hs hE hW hC ho hfr hstep fun I' L' a' w' h' => ?_
        have hset : ∀ j, j ≠ i → (listed.setIfInBounds i true).getD j false = listed.getD j false := fun j hne => getD_set_ne false (Ne.symm hne)
        have hself : (listed.setIfInBounds i true).getD i false = true := by
          simp [hsz, hil]
        refine ih (listed.setIfInBounds i true) I' L' a' w' (by simp [hsz]) ?_ ?_ ?_
        · intro j o' ho' hj e he hb
          by_cases hji : j = i
          · subst hji
            exact getD_set_true (hready o' ho' e he hb)
          · simp only at hj
            rw [hset j hji] at hj
            exact getD_set_true (hcl j o' ho' hj e he hb)
        · have := filter_one (i := i) (p := fun j => !listed.getD j false) (q := fun j => !(listed.setIfInBounds i true).getD j false) (by simp [hpi]) (by rw [hself]; rfl) (fun j hne => by rw [hset j hne]) (List.range ops.size) List.nodup_range (List.mem_range.2 hil)
          omega
        · have hdst : dstOf ops.toList i = o.dst := by simp [dstOf, ho]
          rw [part_more (i := i) (p := fun j => listed.getD j false) hpi hself hset ops.size hil]
          · rw [hdst, ← g3]
            exact h'
          · intro j hij hj hp
            refine ⟨fun k hk hkj => ?_, fun id hid hidj => ?_⟩
            · have hjo : ops[j]? = some ops[j] := Array.getElem?_eq_getElem hj
              have hn : ¬ Ahead ops.toList i j := fun ha => by
                have := ha.closed hcl hp
                rw [hpi] at this
                cases this
              have hkj' : ops[j].dst = some k := by
                unfold dstOf at hkj
                rw [Array.getElem?_toList, hjo] at hkj
                simpa using hkj
              rw [hdst] at hk
              exact (Oper.apart_spec (hslot i j _ _ hij hj ho hjo hn)).2.1 k hk hkj'
            · have := (hmeet i j hij hj ⟨id, .inl ⟨hid, .inr hidj⟩⟩).closed hcl hp
              rw [hpi] at this
              cases this
  refine key ops.size (Array.replicate ops.size false) I L a w (by simp) ?_ ?_ ?_
  · intro j o ho hj e he hb
    simp only [Array.getD_eq_getD_getElem?, Array.getElem?_replicate] at hj
    split at hj <;> simp at hj
  · have : ((List.range ops.size).filter fun j => !(Array.replicate ops.size false).getD j false) = List.range ops.size := by
      rw [List.filter_eq_self]
      intro j hj
      simp only [Array.getD_eq_getD_getElem?, Array.getElem?_replicate]
      split <;> rfl
    rw [this, List.length_range]
  · have : part ops.toList D s (fun j => (Array.replicate ops.size false).getD j false) ops.size = s := by
      have h0 : ∀ n, part ops.toList D s (fun j => (Array.replicate ops.size false).getD j false) n = s := by
        intro n
        induction n with
        | zero => rfl
        | succ n ih =>
          simp only [part]
          split
          · rename_i hp
            simp only [Array.getD_eq_getD_getElem?, Array.getElem?_replicate] at hp
            split at hp <;> simp at hp
          · exact ih
      exact h0 _
    rw [this]
    exact h

end
end Go.Eng

/-
  The abstract machine, part 21: code; functions.
-/
namespace Go.Eng

def AX.toExit : AX → Exit
  | .normal => .normal
  | .exit id => .exit id
  | .ret => .ret

/-- regions whose order is drawn are fit for it -/
def codeOK : Code → Bool
  | .region _ ops draw => !draw || drawOK ops
  | .seq a b => codeOK a && codeOK b
  | .cond _ a b => codeOK a && codeOK b
  | .block _ c => codeOK c
  | .loop c => codeOK c
  | .scope c => codeOK c
  | _ => true

section
variable (P : Program) (E : Env) (S : Ini)

def CodeCon (c : Code) (s : St) (x : AX) (t : St) : Prop :=
  ∀ (w0 : World) (Rt : Nat → Prop) (B : Nat → Nat → Option Pl) (Ds : List Deferred) (I0 I : Nat → Prop) (L : Ref → Option Pl) (a : Act) (w : World), WOK P E S w0 → Sim ⟨P, E, S, w0, I0, Rt, B, Ds⟩ I L s a w →
    ∀ Q : Exit → Act → World → Prop, (∀ I' L' a' w', Sim ⟨P, E, S, w0, I0, Rt, B, Ds⟩ I' L' t a' w' → Q x.toExit a' w') → c.wp P Q a w

/-- the rest of a loop, from its head on -/
def loopWp (c : Code) (Q : Exit → Act → World → Prop) (a : Act) (w : World) : Prop :=
  ∀ (b : Frame) (k : List Item) (cs : List Frame), ∃ e a' w', Q e a' w' ∧ Arrives P (lone (b.at a (.code c :: .inLoop c :: k)) cs w) b k cs e a' w'

def LoopCon (c : Code) (s : St) (x : AX) (t : St) : Prop :=
  ∀ (w0 : World) (Rt : Nat → Prop) (B : Nat → Nat → Option Pl) (Ds : List Deferred) (I0 I : Nat → Prop) (L : Ref → Option Pl) (a : Act) (w : World), WOK P E S w0 → Sim ⟨P, E, S, w0, I0, Rt, B, Ds⟩ I L s a w →
    ∀ Q : Exit → Act → World → Prop, (∀ I' L' a' w', Sim ⟨P, E, S, w0, I0, Rt, B, Ds⟩ I' L' t a' w' → Q x.toExit a' w') → loopWp P c Q a w

/-- a state may be taken for another -/
def May (s t : St) : Prop :=
  ∀ (w0 : World) (Rt : Nat → Prop) (B : Nat → Nat → Option Pl) (Ds : List Deferred) (I0 I : Nat → Prop) (L : Ref → Option Pl) (a : Act) (w : World), Sim ⟨P, E, S, w0, I0, Rt, B, Ds⟩ I L s a w → ∃ I' L', Sim ⟨P, E, S, w0, I0, Rt, B, Ds⟩ I' L' t a w

end

section
variable {P : Program} {E : Env} {S : Ini}

theorem CodeCon.ref {c : Code} {s s' t : St} {x : AX} (h : CodeCon P E S c s' x t) (hr : May P E S s s') : CodeCon P E S c s x t := by
  intro w0 Rt B Ds I0 I L a w hW hs Q hQ
  obtain ⟨I', L', hs'⟩ := hr w0 Rt B Ds I0 I L a w hs
  exact h w0 Rt B Ds I0 I' L' a w hW hs' Q hQ

theorem LoopCon.ref {c : Code} {s s' t : St} {x : AX} (h : LoopCon P E S c s' x t) (hr : May P E S s s') : LoopCon P E S c s x t := by
  intro w0 Rt B Ds I0 I L a w hW hs Q hQ
  obtain ⟨I', L', hs'⟩ := hr w0 Rt B Ds I0 I L a w hs
  exact h w0 Rt B Ds I0 I' L' a w hW hs' Q hQ

theorem CodeCon.post {c : Code} {s t t' : St} {x : AX} (h : CodeCon P E S c s x t) (hr : May P E S t t') : CodeCon P E S c s x t' := by
  intro w0 Rt B Ds I0 I L a w hW hs Q hQ
  refine h w0 Rt B Ds I0 I L a w hW hs Q fun I' L' a' w' h' => ?_
  obtain ⟨I2, L2, h2⟩ := hr w0 Rt B Ds I0 I' L' a' w' h'
  exact hQ I2 L2 a' w' h2

theorem LoopCon.code {c : Code} {s t : St} {x : AX} (h : LoopCon P E S c s x t) : CodeCon P E S (.loop c) s x t := by
  intro w0 Rt B Ds I0 I L a w hW hs Q hQ b k cs
  obtain ⟨e, a', w', hq, harr⟩ := h w0 Rt B Ds I0 I L a w hW hs Q hQ b k cs
  exact ⟨e, a', w', hq, .of_steps (.one step_loop) harr⟩

theorem loopWp_of {c : Code} {Q : Exit → Act → World → Prop} {a : Act} {w : World} (h : c.wp P (Exit.then (loopWp P c Q) Q) a w) : loopWp P c Q a w := by
  intro b k cs
  obtain ⟨e, a₁, w₁, hq, harr⟩ := h b (.inLoop c :: k) cs
  cases e with
  | normal =>
    obtain ⟨e₂, a₂, w₂, hq₂, harr₂⟩ := hq b k cs
    exact ⟨e₂, a₂, w₂, hq₂, .of_steps (Steps.trans harr (.one step_inLoop)) harr₂⟩
  | exit id => exact ⟨_, a₁, w₁, hq, .pass (x := .inLoop c) rfl (fun _ _ => .inl (by simp)) harr⟩
  | goto l => exact ⟨_, a₁, w₁, hq, .pass (x := .inLoop c) rfl (fun _ _ => .inl (by simp)) harr⟩
  | ret => exact ⟨_, a₁, w₁, hq, .pass (x := .inLoop c) rfl (fun _ _ => .inl (by simp)) harr⟩
  | panic ch => exact ⟨_, a₁, w₁, hq, .pass (x := .inLoop c) rfl (fun _ _ => .inl (by simp)) harr⟩
  | outgrown => exact ⟨_, a₁, w₁, hq, .pass (x := .inLoop c) rfl (fun _ _ => .inl (by simp)) harr⟩

theorem LoopCon.again {c : Code} {s s1 t : St} {x : AX} (h : CodeCon P E S c s .normal s1) (h' : LoopCon P E S c s1 x t) : LoopCon P E S c s x t := by
  intro w0 Rt B Ds I0 I L a w hW hs Q hQ
  refine loopWp_of (h w0 Rt B Ds I0 I L a w hW hs _ fun I' L' a' w' hs' => ?_)
  exact h' w0 Rt B Ds I0 I' L' a' w' hW hs' Q hQ

theorem LoopCon.leave {c : Code} {s t : St} {x : AX} (h : CodeCon P E S c s x t) (hx : x ≠ .normal) : LoopCon P E S c s x t := by
  intro w0 Rt B Ds I0 I L a w hW hs Q hQ
  refine loopWp_of (h w0 Rt B Ds I0 I L a w hW hs _ fun I' L' a' w' hs' => ?_)
  cases x with
  | normal => exact absurd rfl hx
  | exit id => exact hQ I' L' a' w' hs'
  | ret => exact hQ I' L' a' w' hs'

theorem region_sound (hE : EnvOK P E) (hm : P.follows .mixedOrders = true) {call : CallF} (hC : CallOK P E S call) {id : Nat} {ops : Array Oper} {draw : Bool} {s t : St} {x : AX}
    (hok : codeOK (.region id ops draw) = true) (e : regionA E call ops.toList draw s = some (x, t)) : CodeCon P E S (.region id ops draw) s x t := by
  intro w0 Rt B Ds I0 I L a w hW hs Q hQ
  unfold regionA at e
  split at e
  · rename_i s' l hrun
    have hs0 : Sim ⟨P, E, S, w0, I0, Rt, B, Ds⟩ I L ⟨s.env, s.heap ++ List.replicate (widL ops.toList) none⟩ a w := hs.heap fun id b => pad_some
    have hfree : ∀ k, k < widL ops.toList → (s.heap ++ List.replicate (widL ops.toList) (none : Option Blk))[s.heap.length + k]? = some none := by
      intro k hk
      rw [List.getElem?_append_right (by omega), List.getElem?_replicate]
      simp [hk]
    have fin : ∀ I' L' a' w', Sim ⟨P, E, S, w0, I0, Rt, B, Ds⟩ I' L' s' a' w' → some (AX.normal, (⟨s'.env, trim s'.heap⟩ : St)) = some (x, t) → Q .normal a' w' := by
      intro I' L' a' w' h' e
      simp only [Option.some.injEq, Prod.mk.injEq] at e
      obtain ⟨rfl, rfl⟩ := e
      exact hQ I' L' a' w' (h'.heap fun id b => trim_some)
    cases draw with
    | false =>
      simp only at e
      refine wp_region ?_
      have := runOps_sound (c := ⟨P, E, S, w0, I0, Rt, B, Ds⟩) hE hW hC (ops := ops) (Q := Q) ops.toList s.heap.length 0 I L _ a w s' l rfl (Nat.zero_le _) hs0 hfree hrun (fun I' L' a' w' h' => fin I' L' a' w' h' e)
      rw [List.range_eq_range']
      simpa using this
    | true =>
      cases hf : fpsOK (masks ops.toList []) l with
      | false => rw [hf] at e; cases e
      | true =>
        rw [hf] at e
        simp only at e
        refine wp_region_any hm ?_
        exact draw_sound (c := ⟨P, E, S, w0, I0, Rt, B, Ds⟩) (hs0.draw (w' := { w with drawn := w.drawn + 1 }) rfl ⟨rfl, rfl, rfl⟩) hE hW hC hfree hrun (by simpa [codeOK] using hok) hf (fun I' L' a' w' h' => fin I' L' a' w' h' e)
  · cases e

/-- CODE -/
theorem run_sound (hE : EnvOK P E) (hm : P.follows .mixedOrders = true) {call : CallF} (hC : CallOK P E S call) {loop : Nat → St → Option (AX × St)} {all : List Code}
    (hL : ∀ i c s x t, all[i]? = some c → loop i s = some (x, t) → CodeCon P E S (.loop c) s x t) :
    ∀ (c : Code) (k : Nat) (s : St) (x : AX) (t : St), codeOK c = true → (∀ i d, (loopsOf c)[i]? = some d → all[k + i]? = some d) → run E call loop k c s = some (x, t) → CodeCon P E S c s x t := by
  have hn : ∀ c : Code, (loopsOf c).length = nloops c := by
    intro c
    induction c with
    | seq a b iha ihb => simp [loopsOf, nloops, iha, ihb]
    | cond _ a b iha ihb => simp [loopsOf, nloops, iha, ihb]
    | block _ c ih => simpa [loopsOf, nloops] using ih
    | loop c ih => simp [loopsOf, nloops, ih]
    | scope c ih => simpa [loopsOf, nloops] using ih
    | _ => rfl
  intro c
  induction c with
  | skip =>
    intro k s x t _ _ e w0 Rt B Ds I0 I L a w hW hs Q hQ
    simp only [run, Option.some.injEq, Prod.mk.injEq] at e
    obtain ⟨rfl, rfl⟩ := e
    exact wp_skip (hQ I L a w hs)
  | region id ops draw =>
    intro k s x t hok _ e
    simp only [run] at e
    exact region_sound hE hm hC hok e
  | seq c d ihc ihd =>
    intro k s x t hok hall e w0 Rt B Ds I0 I L a w hW hs Q hQ
    simp only [codeOK, Bool.and_eq_true] at hok
    simp only [run] at e
    have hc : ∀ i d', (loopsOf c)[i]? = some d' → all[k + i]? = some d' := fun i d' h => hall i d' (by
      simp only [loopsOf]
      rw [List.getElem?_append_left (List.getElem?_eq_some_iff.1 h).1]
      exact h)
    have hd : ∀ i d', (loopsOf d)[i]? = some d' → all[k + nloops c + i]? = some d' := fun i d' h => by
      have := hall (nloops c + i) d' (by
        simp only [loopsOf]
        rw [List.getElem?_append_right (by rw [hn]; omega), hn, Nat.add_sub_cancel_left]
        exact h)
      rw [Nat.add_assoc]
      exact this
    cases hr : run E call loop k c s with
    | none => rw [hr] at e; cases e
    | some p =>
      obtain ⟨y, s'⟩ := p
      rw [hr] at e
      refine wp_seq (ihc k s y s' hok.1 hc hr w0 Rt B Ds I0 I L a w hW hs _ fun I' L' a' w' hs' => ?_)
      cases y with
      | normal => exact ihd _ s' x t hok.2 hd e w0 Rt B Ds I0 I' L' a' w' hW hs' Q hQ
      | exit id =>
        simp only [Option.some.injEq, Prod.mk.injEq] at e
        obtain ⟨rfl, rfl⟩ := e
        exact hQ I' L' a' w' hs'
      | ret =>
        simp only [Option.some.injEq, Prod.mk.injEq] at e
        obtain ⟨rfl, rfl⟩ := e
        exact hQ I' L' a' w' hs'
  | cond q c d ihc ihd =>
    intro k s x t hok hall e w0 Rt B Ds I0 I L a w hW hs Q hQ
    simp only [codeOK, Bool.and_eq_true] at hok
    simp only [run] at e
    have hq := hs.eval q
    have hc : ∀ i d', (loopsOf c)[i]? = some d' → all[k + i]? = some d' := fun i d' h => hall i d' (by
      simp only [loopsOf]
      rw [List.getElem?_append_left (List.getElem?_eq_some_iff.1 h).1]
      exact h)
    have hd : ∀ i d', (loopsOf d)[i]? = some d' → all[k + nloops c + i]? = some d' := fun i d' h => by
      have := hall (nloops c + i) d' (by
        simp only [loopsOf]
        rw [List.getElem?_append_right (by rw [hn]; omega), hn, Nat.add_sub_cancel_left]
        exact h)
      rw [Nat.add_assoc]
      exact this
    split at e
    · rename_i tb hav
      rw [hav] at hq
      simp only [Rep] at hq
      cases tb with
      | true => exact wp_cond_true hq (ihc k s x t hok.1 hc e w0 Rt B Ds I0 I L a w hW hs Q hQ)
      | false => exact wp_cond_false hq (ihd _ s x t hok.2 hd e w0 Rt B Ds I0 I L a w hW hs Q hQ)
    · cases e
  | block id c ih =>
    intro k s x t hok hall e w0 Rt B Ds I0 I L a w hW hs Q hQ
    simp only [codeOK] at hok
    simp only [run] at e
    cases hr : run E call loop k c s with
    | none => rw [hr] at e; cases e
    | some p =>
      obtain ⟨y, s'⟩ := p
      rw [hr] at e
      refine wp_block (ih k s y s' hok hall hr w0 Rt B Ds I0 I L a w hW hs _ fun I' L' a' w' hs' => ?_)
      cases y with
      | normal =>
        simp only [Option.some.injEq, Prod.mk.injEq] at e
        obtain ⟨rfl, rfl⟩ := e
        exact hQ I' L' a' w' hs'
      | exit id' =>
        simp only at e
        simp only [AX.toExit, Exit.inBlock]
        split
        · rename_i h
          rw [if_pos h] at e
          simp only [Option.some.injEq, Prod.mk.injEq] at e
          obtain ⟨rfl, rfl⟩ := e
          exact hQ I' L' a' w' hs'
        · rename_i h
          rw [if_neg h] at e
          simp only [Option.some.injEq, Prod.mk.injEq] at e
          obtain ⟨rfl, rfl⟩ := e
          exact hQ I' L' a' w' hs'
      | ret =>
        simp only [Option.some.injEq, Prod.mk.injEq] at e
        obtain ⟨rfl, rfl⟩ := e
        exact hQ I' L' a' w' hs'
  | scope c ih =>
    intro k s x t hok hall e w0 Rt B Ds I0 I L a w hW hs Q hQ
    simp only [codeOK] at hok
    simp only [run] at e
    refine wp_scope_straight (ih k s x t hok hall e w0 Rt B Ds I0 I L a w hW hs _ fun I' L' a' w' hs' => ?_)
    have := hQ I' L' a' w' hs'
    cases x <;> exact this
  | label l =>
    intro k s x t _ _ e w0 Rt B Ds I0 I L a w hW hs Q hQ
    simp only [run, Option.some.injEq, Prod.mk.injEq] at e
    obtain ⟨rfl, rfl⟩ := e
    exact wp_label (hQ I L a w hs)
  | loop c _ =>
    intro k s x t _ hall e
    simp only [run] at e
    exact hL k c s x t (by have := hall 0 c rfl; simpa using this) e
  | exit id =>
    intro k s x t _ _ e w0 Rt B Ds I0 I L a w hW hs Q hQ
    simp only [run, Option.some.injEq, Prod.mk.injEq] at e
    obtain ⟨rfl, rfl⟩ := e
    exact wp_exit (hQ I L a w hs)
  | ret =>
    intro k s x t _ _ e w0 Rt B Ds I0 I L a w hW hs Q hQ
    simp only [run, Option.some.injEq, Prod.mk.injEq] at e
    obtain ⟨rfl, rfl⟩ := e
    exact wp_ret (hQ I L a w hs)
  | _ => intro k s x t _ _ e; simp only [run] at e; cases e

/-! Functions. -/

def resA (E : Env) (s : St) : List ResultVar → HM (List AV)
  | [] => .ret []
  | .tmp t :: r => (resA E s r).bind fun l => .ret (s.env.getD t .top :: l)
  | .cell a t :: r => (loadA E t (s.env.getD a .top)).bind fun x => (resA E s r).bind fun l => .ret (x :: l)

def packA : List AV → AV
  | [x] => x
  | l => .tup l

def entry (fi : FnI) (args : List AV) : St := ⟨args ++ List.replicate (fi.ntmps - args.length) .top, []⟩

def resOne (tmps : Array Value) : ResultVar → Sem Value
  | .tmp t => pure (tmps.getD t undef)
  | .cell a t => do loadVar t (← asAddr (tmps.getD a undef))

theorem results_eq (fn : Func) (tmps : Array Value) : results fn tmps = (do
    let vs ← fn.results.mapM (resOne tmps)
    pure (if h : vs.size = 1 then vs[0] else .tuple vs)) := by
  unfold results
  congr 2

theorem resA_sound {c : Ctx} {I : Nat → Prop} {L : Ref → Option Pl} {s : St} {a : Act} {w : World} {call : CallF} (h : Sim c I L s a w) (hE : EnvOK c.P c.E) (hW : WOK c.P c.E c.S c.w0) :
    ∀ {rs : List ResultVar} {l : List AV} {ids : List Nat}, (resA c.E s rs).run call s.rd = some (l, ids) → ∃ vs, (rs.mapM (resOne a.tmps)).run c.P w = .ok vs w ∧ RepL (c.rc I L w) L l vs
  | [], l, ids, e => by
    obtain ⟨rfl, _⟩ := HM.run_ret e
    exact ⟨[], rfl, by simp [RepL]⟩
  | .tmp t :: r, l, ids, e => by
    simp only [resA] at e
    obtain ⟨l', r1, r2, e1, e2, rfl⟩ := HM.run_bind e
    obtain ⟨rfl, rfl⟩ := HM.run_ret e2
    obtain ⟨vs, h1, h2⟩ := resA_sound h hE hW e1
    refine ⟨a.tmps.getD t undef :: vs, ?_, ?_⟩
    · simp only [List.mapM_cons, resOne, Sem.run_bind, Sem.run_pure, Result.andThen_ok, h1]
    · simp only [RepL]
      exact ⟨_, vs, rfl, h.tmp t, h2⟩
  | .cell q t :: r, l, ids, e => by
    simp only [resA] at e
    obtain ⟨x, r1, r2, e1, e2, rfl⟩ := HM.run_bind e
    obtain ⟨l', r3, r4, e3, e4, rfl⟩ := HM.run_bind e2
    obtain ⟨rfl, rfl⟩ := HM.run_ret e4
    obtain ⟨vs, h1, h2⟩ := resA_sound h hE hW e3
    obtain ⟨ad, y', hq, hrun, hrep⟩ := load_run h hE hW (h.tmp q) e1
    refine ⟨y' :: vs, ?_, ?_⟩
    · simp only [List.mapM_cons, resOne, Sem.run_bind, Sem.run_pure, Result.andThen_ok, hq, asAddr, hrun, h1]
    · simp only [RepL]
      exact ⟨_, vs, rfl, hrep, h2⟩

end
end Go.Eng

/-
  The abstract machine, part 22: the same, handed on; values told as plain data.
-/
namespace Go.Eng

section
variable {E : Env} {call : CallF} {loop : Nat → St → Option (AX × St)} {R : Type}
  {callK : CallK R} {loopK : Nat → St → (AX → St → Option R) → Option R}

theorem HM.runK_eq {α : Type} (hc : ∀ f as bs n k, callK f as bs n k = (call f as bs n).bind fun p => k p.1 p.2.1 p.2.2) (h : Ref → Option Blk) : ∀ (m : HM α) (l : List Nat) (k : α → List Nat → Option R), m.runK callK h l k = (m.run call h).bind fun p => k p.1 (l ++ p.2)
  | .ret a, l, k => by simp [HM.runK, HM.run]
  | .rd id f, l, k => by
    simp only [HM.runK, HM.run]
    cases h id with
    | none => rfl
    | some b =>
      simp only
      rw [HM.runK_eq hc h (f b)]
      cases (f b).run call h with
      | none => rfl
      | some p => simp
  | .chk b f, l, k => by
    simp only [HM.runK, HM.run]
    cases b
    · rfl
    · simp only [cond_true]; exact HM.runK_eq hc h f l k
  | .dec b x y, l, k => by
    simp only [HM.runK, HM.run]
    cases b
    · simp only [cond_false]; exact HM.runK_eq hc h y l k
    · simp only [cond_true]; exact HM.runK_eq hc h x l k
  | .call f as bs n g, l, k => by
    simp only [HM.runK, HM.run, hc]
    cases call f as bs n with
    | none => rfl
    | some r => simp only [Option.bind_some]; exact HM.runK_eq hc h (g r.1 r.2.1 r.2.2) l k
  | .fail, l, k => rfl

theorem consF_append (f : Fp) (l : List Fp) : consF f l = consF f [] ++ l := by
  unfold consF
  split <;> simp

theorem setB_self {env : List AV} {d : Nat} {b : Bool} (h : env.getD d .top = .v (.bool b)) : setB env d b = env := by
  unfold setB
  rcases Nat.lt_or_ge d env.length with hl | hl
  · rw [List.getD_eq_getElem?_getD, List.getElem?_eq_getElem hl] at h
    simp only [Option.getD_some] at h
    rw [← h]
    exact List.set_getElem_self hl
  · exact List.set_eq_of_length_le hl

theorem touch_run {α : Type} {h : Ref → Option Blk} (newId n : Nat) (f : Dl → α) : ∀ (wr : List (Ref × Blk)) (δ : Dl), (touch newId n wr (.ret (f δ))).run call h = ((touch newId n wr (.ret δ)).run call h).map fun p => (f p.1, p.2)
  | [], δ => rfl
  | p :: r, δ => by
    simp only [touch]
    split
    · exact touch_run newId n f r δ
    · simp only [HM.run]
      cases h (.l p.1.ix) with
      | none => rfl
      | some b =>
        simp only
        rw [touch_run newId n f r δ]
        cases (touch newId n r (.ret δ)).run call h <;> rfl

theorem HM.run_bind_eq {α β : Type} (h : Ref → Option Blk) : ∀ (m : HM α) (f : α → HM β), (m.bind f).run call h = (m.run call h).bind fun p => ((f p.1).run call h).map fun q => (q.1, p.2 ++ q.2)
  | .ret a, f => by
    simp only [HM.bind, HM.run, Option.bind_some]
    cases (f a).run call h <;> simp
  | .rd id g, f => by
    simp only [HM.bind, HM.run]
    cases h id with
    | none => rfl
    | some b =>
      simp only
      rw [HM.run_bind_eq h (g b) f]
      cases (g b).run call h with
      | none => rfl
      | some p =>
        simp only [Option.bind_some]
        cases (f p.1).run call h <;> simp
  | .chk b g, f => by
    simp only [HM.bind, HM.run]
    cases b
    · rfl
    · exact HM.run_bind_eq h g f
  | .dec b x y, f => by
    simp only [HM.bind, HM.run]
    cases b
    · exact HM.run_bind_eq h y f
    · exact HM.run_bind_eq h x f
  | .call g as bs n k, f => by
    simp only [HM.bind, HM.run]
    cases call g as bs n with
    | none => rfl
    | some r => exact HM.run_bind_eq h (k r.1 r.2.1 r.2.2) f
  | .fail, f => rfl

theorem doneK_eq (hc : ∀ f as bs n k, callK f as bs n k = (call f as bs n).bind fun p => k p.1 p.2.1 p.2.2) (newId : Nat) (o : Oper) (s : St) (k : St → List Nat → List Nat → Option R) :
    doneK E callK newId o s k = (((aop E (aeval s.env) newId o.op).bind fun δ => touch newId (wid o.op) δ.wr (.ret (some δ))).run call s.rd).bind fun p => k (s.app o.dst (dlOf p.1)) p.2 ((dlOf p.1).wr.map (·.1.ix)) := by
  unfold doneK
  rw [HM.runK_eq hc, HM.run_bind_eq, HM.run_bind_eq]
  cases (aop E (aeval s.env) newId o.op).run call s.rd with
  | none => rfl
  | some p =>
    simp only [Option.bind_some, List.nil_append]
    rw [touch_run newId _ some]
    cases (touch newId (wid o.op) p.1.wr (.ret p.1)).run call s.rd with
    | none => rfl
    | some q => rfl

theorem stepK_eq (hc : ∀ f as bs n k, callK f as bs n k = (call f as bs n).bind fun p => k p.1 p.2.1 p.2.2) (ops : List Oper) (newId : Nat) (o : Oper) (s : St) (k : St → List Nat → List Nat → Option R) :
    stepK E callK ops newId o s k = ((stepH E ops newId o s.env).run call s.rd).bind fun p => k (s.app o.dst (dlOf p.1)) p.2 ((dlOf p.1).wr.map (·.1.ix)) := by
  unfold stepK stepH
  split
  · exact doneK_eq hc newId o s k
  · split
    · rename_i d hd
      split
      · rename_i b hb
        cases b with
        | true =>
          rw [setB_self hb]
          split
          · simp only [cond_true, HM.run]
            exact doneK_eq hc newId o s k
          · simp only [cond_true, HM.run, Option.bind_some]
            rfl
        | false =>
          rw [setB_self hb]
          split
          · simp only [cond_false, HM.run, Option.bind_some]
            rfl
          · simp only [cond_false, HM.run]
            exact doneK_eq hc newId o s k
      · simp only [HM.run, Option.bind_some]
        rfl
      · rfl
    · rfl

theorem runOpsK_eq (hc : ∀ f as bs n k, callK f as bs n k = (call f as bs n).bind fun p => k p.1 p.2.1 p.2.2) (ops : List Oper) : ∀ (os : List Oper) (n i : Nat) (s : St) (l : List Fp) (k : St → List Fp → Option R),
    runOpsK E callK ops n i os s l k = (runOps E call ops n i os s).bind fun p => k p.1 (l ++ p.2)
  | [], n, i, s, l, k => by simp [runOpsK, runOps]
  | o :: r, n, i, s, l, k => by
    simp only [runOpsK, runOps, stepA]
    rw [stepK_eq hc]
    cases (stepH E ops n o s.env).run call s.rd with
    | none => rfl
    | some p =>
      obtain ⟨δ, rs⟩ := p
      simp only [Option.bind_some]
      rw [runOpsK_eq hc ops r]
      cases runOps E call ops (n + wid o.op) (i + 1) r (s.app o.dst (dlOf δ)) with
      | none => rfl
      | some q =>
        obtain ⟨t, l'⟩ := q
        simp only [Option.bind_some]
        rw [consF_append _ l', List.append_assoc]

theorem regionK_eq (hc : ∀ f as bs n k, callK f as bs n k = (call f as bs n).bind fun p => k p.1 p.2.1 p.2.2) (ops : List Oper) (draw : Bool) (s : St) (k : AX → St → Option R) : regionK E callK ops draw s k = (regionA E call ops draw s).bind fun p => k p.1 p.2 := by
  unfold regionK regionA
  rw [runOpsK_eq hc]
  cases runOps E call ops s.heap.length 0 ops ⟨s.env, s.heap ++ List.replicate (widL ops) none⟩ with
  | none => rfl
  | some p =>
    obtain ⟨t, l⟩ := p
    simp only [Option.bind_some, List.nil_append]
    cases draw <;> cases fpsOK (masks ops []) l <;> rfl

theorem runK_eq (hc : ∀ f as bs n k, callK f as bs n k = (call f as bs n).bind fun p => k p.1 p.2.1 p.2.2) (hl : ∀ i s k, loopK i s k = (loop i s).bind fun p => k p.1 p.2) : ∀ (c : Code) (n : Nat) (s : St) (k : AX → St → Option R),
    runK E callK loopK n c s k = (run E call loop n c s).bind fun p => k p.1 p.2 := by
  intro c
  induction c with
  | skip => intro n s k; rfl
  | region id ops draw => intro n s k; simp only [runK, run]; exact regionK_eq hc _ _ _ _
  | seq a b iha ihb =>
    intro n s k
    simp only [runK, run]
    rw [iha]
    cases run E call loop n a s with
    | none => rfl
    | some p =>
      obtain ⟨e, t⟩ := p
      cases e with
      | normal => simp only [Option.bind_some]; exact ihb _ _ _
      | _ => rfl
  | cond q a b iha ihb =>
    intro n s k
    simp only [runK, run]
    split
    · rename_i t hq
      split
      · rename_i d
        have hq' : s.env.getD d .top = .v (.bool t) := hq
        cases t
        · simp only [cond_false]; rw [setB_self hq']; exact ihb _ _ _
        · simp only [cond_true]; rw [setB_self hq']; exact iha _ _ _
      · cases t
        · simp only [cond_false]; exact ihb _ _ _
        · simp only [cond_true]; exact iha _ _ _
    · rfl
  | block id c ih =>
    intro n s k
    simp only [runK, run]
    rw [ih]
    cases run E call loop n c s with
    | none => rfl
    | some p =>
      obtain ⟨e, t⟩ := p
      cases e with
      | exit id' =>
        simp only [Option.bind_some]
        split <;> rfl
      | _ => rfl
  | scope c ih => intro n s k; simp only [runK, run]; exact ih _ _ _
  | label l => intro n s k; rfl
  | loop c _ => intro n s k; simp only [runK, run]; exact hl _ _ _
  | exit id => intro n s k; rfl
  | ret => intro n s k; rfl
  | _ => intro n s k; rfl

end

/-! Values told as plain data. -/

theorem decV_sound {R : RC} {L L' : Ref → Option Pl} {t : Ty} {x : AV} {y : Val t} {v : Value} (e : decV R.T.N t x = some y) (hx : Rep R L x v) : Rep R L' (encA t y) v := by
  unfold decV at e
  split at e
  · rename_i ha
    split at e
    · split at e
      · rename_i y' hd
        injection e with e
        subst e
        simp only [Rep] at hx
        obtain ⟨cs, rfl, hl⟩ := hx
        obtain ⟨d, r, h1, h2, h3⟩ := decT_sound t hd hl
        simp only [RepL] at h3
        subst h3
        unfold encA
        rw [ha]
        simp only [Rep]
        refine ⟨cs, rfl, ?_⟩
        rw [h1, List.append_nil]
        exact RepL.ofT t h2
      · cases e
    · cases e
  · split at e
    · rename_i h1t h1x
      split at e
      · rename_i y' hd
        injection e with e
        subst e
        obtain ⟨d, r, h1, h2, h3⟩ := decT_sound t hd (show RepL R L [x] [v] by simp only [RepL]; exact ⟨v, [], rfl, hx, rfl⟩)
        simp only [RepL] at h3
        subst h3
        rw [List.append_nil] at h1
        subst h1
        obtain ⟨z, hz, hz2⟩ := cellsT_one t y' h1t
        have := RepL.ofT (L := L') t h2
        rw [hz] at this
        simp only [RepL] at this
        obtain ⟨u, tl, hu, hr, _⟩ := this
        simp only [List.cons.injEq] at hu
        rw [hz2, hu.1]
        exact hr
      · cases e
    · cases e

def rowTy : List Ty → Ty
  | [] => .unit
  | t :: r => .pair t (rowTy r)

def encL : (ts : List Ty) → Val (rowTy ts) → List AV
  | [], _ => []
  | t :: r, x => encA t x.1 :: encL r x.2

def decL (N : Names) : (ts : List Ty) → List AV → Option (Val (rowTy ts))
  | [], [] => some ()
  | t :: r, x :: l => match decV N t x with
    | some y => match decL N r l with
      | some z => some (y, z)
      | none => none
    | none => none
  | _, _ => none

theorem decL_sound {R : RC} {L L' : Ref → Option Pl} : ∀ {ts : List Ty} {l : List AV} {x : Val (rowTy ts)} {vs : List Value}, decL R.T.N ts l = some x → RepL R L l vs → RepL R L' (encL ts x) vs
  | [], [], x, vs, _, h => by simpa only [encL, RepL] using h
  | [], _ :: _, _, _, e, _ => by simp [decL] at e
  | _ :: _, [], _, _, e, _ => by simp [decL] at e
  | t :: r, y :: l, x, vs, e, h => by
    simp only [decL] at e
    split at e
    · rename_i y' hy
      split at e
      · rename_i z hz
        injection e with e
        subst e
        simp only [RepL] at h
        obtain ⟨v, tl, rfl, hv, ht⟩ := h
        simp only [encL, RepL]
        exact ⟨v, tl, rfl, decV_sound hy hv, decL_sound hz ht⟩
      · cases e
    · cases e

theorem Sim.args {c : Ctx} {I : Nat → Prop} {L : Ref → Option Pl} {args args' : List AV} {h : List (Option Blk)} {a : Act} {w : World} (hs : Sim c I L ⟨args, h⟩ a w) (hr : RepL (c.rc I L w) L args' a.tmps.toList) : Sim c I L ⟨args', h⟩ a w :=
  ⟨hr, hs.defers, hs.blk, hs.dom, hs.own, hs.inj, hs.imm, hs.i0, hs.iN, hs.same, hs.fix, hs.bx, hs.grow, hs.io⟩

theorem Con.args {P : Program} {E : Env} {S : Ini} {f : FuncId} {ts : List Ty} {x : Val (rowTy ts)} {bs : List Blk} {b0 : Nat} {r : AV} {us : List Blk} {hp : List (Option Blk)} (h : Con P E S f (encL ts x) bs b0 r us hp) {args : List AV} (e : decL E.toNames ts args = some x) : Con P E S f args bs b0 r us hp := by
  intro w I L Rt B vs hW hb hs
  exact h w I L Rt B vs hW hb (hs.args (decL_sound (R := rcW (statOf E S) I L w) e hs.env))

end Go.Eng

/-
  The abstract machine, part 23: the state at a loop's head, told as plain data.
-/
namespace Go.Eng

inductive Slot where
  | dead
  | data (t : Ty)      -- plain data
  | sl (t : Ty)        -- a slice of the call's own
  | cut (t : Ty)       -- one that may be cut short
  | box (r : List Cell)  -- a variable of the call's own
  | ag (r : List Cell)   -- an aggregate
  | bor (t : Ty) (k q : Nat)   -- a piece of a slice of an object's own

/-- how many slices lie there -/
def rowsN : List Cell → Nat
  | [] => 0
  | .d _ :: r => rowsN r
  | .sl _ :: r => rowsN r + 1

def encRow : (cs : List Cell) → Nat → Val (rowsTy cs) → List AV
  | [], _, _ => []
  | .d t :: r, b, x => cellsT t x.1 ++ encRow r b x.2
  | .sl t :: r, b, x => .lsl t (.l b) 0 (List.length x.1) 0 :: encRow r (b + 1) x.2

def encRowH : (cs : List Cell) → Val (rowsTy cs) → List (Option Blk)
  | [], _ => []
  | .d _ :: r, x => encRowH r x.2
  | .sl t :: r, x => some { ct := .sl t x.1, gen := 0, frozen := false } :: encRowH r x.2

def slotsTy : List Slot → Ty
  | [] => .unit
  | .dead :: r => slotsTy r
  | .data t :: r => .pair t (slotsTy r)
  | .sl t :: r => .pair (.sl t) (slotsTy r)
  | .cut t :: r => .pair (.sl t) (slotsTy r)
  | .box cs :: r => .pair (rowsTy cs) (slotsTy r)
  | .ag cs :: r => .pair (rowsTy cs) (slotsTy r)
  | .bor _ _ _ :: r => .pair (.pair .nat (.pair .nat .nat)) (slotsTy r)

def encEnv : (sl : List Slot) → Nat → Val (slotsTy sl) → List AV
  | [], _, _ => []
  | .dead :: r, b, x => .top :: encEnv r b x
  | .data t :: r, b, x => encA t x.1 :: encEnv r b x.2
  | .sl t :: r, b, x => .lsl t (.l b) 0 (List.length x.1) 0 :: encEnv r (b + 1) x.2
  | .cut t :: r, b, x => .lsl t (.l b) 0 (List.length x.1) 0 :: encEnv r (b + 1) x.2
  | .box cs :: r, b, x => .lptr (.l b) 0 0 0 :: encEnv r (b + 1 + rowsN cs) x.2
  | .ag cs :: r, b, x => .agg (encRow cs b x.1) :: encEnv r (b + rowsN cs) x.2
  | .bor t k q :: r, b, x => .lsl t (.o k x.1.1 q) x.1.2.1 x.1.2.2 0 :: encEnv r b x.2

def encHeap : (sl : List Slot) → Nat → Val (slotsTy sl) → List (Option Blk)
  | [], _, _ => []
  | .dead :: r, b, x => encHeap r b x
  | .data _ :: r, b, x => encHeap r b x.2
  | .sl t :: r, b, x => some { ct := .sl t x.1, gen := 0, frozen := false } :: encHeap r (b + 1) x.2
  | .cut t :: r, b, x => some { ct := .sl t x.1, gen := 0, frozen := false } :: encHeap r (b + 1) x.2
  | .box cs :: r, b, x => some { ct := .box (encRow cs (b + 1) x.1), gen := 0, frozen := false } :: (encRowH cs x.1 ++ encHeap r (b + 1 + rowsN cs) x.2)
  | .ag cs :: r, b, x => encRowH cs x.1 ++ encHeap r (b + rowsN cs) x.2
  | .bor _ _ _ :: r, b, x => encHeap r b x.2

/-- a row's data told as values; its slices stay -/
def expRow : List Cell → List AV → HM (List AV × List Ref)
  | [], row => .ret (row, [])
  | .d t :: cs, row => (exportN.exportL 8 (row.take t.size)).bind fun (y, f) => (expRow cs (row.drop t.size)).bind fun (r, f') => .ret (y ++ r, f ++ f')
  | .sl _ :: cs, row => match row with
    | x :: r => (expRow cs r).bind fun (r', f) => .ret (x :: r', f)
    | [] => .fail

/-- an aggregate's data told as values -/
def expAg (cs : List Cell) : AV → HM (AV × List Ref)
  | .agg row => (expRow cs row).bind fun (r, f) => .ret (.agg r, f)
  | _ => .fail

/-- what a variable's data come to -/
def expBox (cs : List Cell) : AV → HM (List Ref)
  | .lptr (.l id) _ _ _ => .rd (.l id) fun b => match b.ct with
    | .box row => (expRow cs row).bind fun (_, f) => .ret f
    | _ => .fail
  | _ => .fail

def expA : List Slot → List AV → HM (List AV × List Ref)
  | [], [] => .ret ([], [])
  | .data _ :: sl, x :: env => (exportN 8 x).bind fun (y, f) => (expA sl env).bind fun (r, f') => .ret (y :: r, f ++ f')
  | .dead :: sl, _ :: env => (expA sl env).bind fun (r, f) => .ret (.top :: r, f)
  | .sl _ :: sl, x :: env => (expA sl env).bind fun (r, f) => .ret (x :: r, f)
  | .cut _ :: sl, x :: env => (expA sl env).bind fun (r, f) => .ret (x :: r, f)
  | .bor _ _ _ :: sl, x :: env => (expA sl env).bind fun (r, f) => .ret (x :: r, f)
  | .box cs :: sl, x :: env => (expBox cs x).bind fun f => (expA sl env).bind fun (r, f') => .ret (x :: r, f ++ f')
  | .ag cs :: sl, x :: env => (expAg cs x).bind fun (y, f) => (expA sl env).bind fun (r, f') => .ret (y :: r, f ++ f')
  | _, _ => .fail

/-- a slice of the call's own: its elements; the blocks that are taken -/
def takeSl (t : Ty) (u : List Nat) : AV → HM (List (Val t) × List Nat)
  | .v (.slice none 0 0) => .ret ([], u)
  | .lsl _ (.l id) i n g => match u.contains id with
    | true => .fail
    | false => .rd (.l id) fun b => if g = b.gen ∧ b.frozen = false ∧ i = 0 then (match b.ct with
      | .sl t' l => if h : t' = t then .chk (decide (n = l.length)) (.ret (castL h l, id :: u)) else .fail
      | _ => .fail) else .fail
  | _ => .fail

/-- … that may be cut short -/
def takeCut (t : Ty) (u : List Nat) : AV → HM (List (Val t) × List Nat)
  | .v (.slice none 0 0) => .ret ([], u)
  | .lsl _ (.l id) i n g => match u.contains id with
    | true => .fail
    | false => .rd (.l id) fun b => if g = b.gen ∧ b.frozen = false ∧ i = 0 then (match b.ct with
      | .sl t' l => if h : t' = t then .chk (decide (n ≤ l.length)) (.ret ((castL h l).take n, id :: u)) else .fail
      | _ => .fail) else .fail
  | _ => .fail

/-- a piece of a slice of an object's own (of nothing: one of no length) -/
def takeBor (t : Ty) (k q : Nat) : AV → HM (Nat × Nat × Nat)
  | .lsl _ (.o k' i q') lo n g => match Nat.beq k' k && Nat.beq q' q && Nat.blt 0 q with
    | true => .rd (.o k' i q') fun b => if g = b.gen then (match b.ct with
      | .sl t' _ => if t' = t then .ret (i, lo, n) else .fail
      | _ => .fail) else .fail
    | false => .fail
  | .v (.slice none 0 0) => .rd (.l k) fun b => match b.ct with
    | .tab cs l _ _ => match Nat.blt 0 q, slO q cs 1 (dfl (rowsTy cs)) with
      | true, some ⟨t', _⟩ => if t' = t then .chk (decide (0 < l.length)) (.ret (0, 0, 0)) else .fail
      | _, _ => .fail
    | _ => .fail
  | _ => .fail

/-- what lies in a variable -/
def takeRow (N : Names) : (cs : List Cell) → List Nat → List AV → HM (Val (rowsTy cs) × List Nat)
  | [], u, row => match row with
    | [] => .ret ((), u)
    | _ => .fail
  | .d t :: cs, u, row => match decT N t row with
    | some (y, r) => (takeRow N cs u r).bind fun (z, u') => .ret ((y, z), u')
    | none => .fail
  | .sl t :: cs, u, row => match row with
    | x :: r => (takeSl t u x).bind fun (l, u1) => (takeRow N cs u1 r).bind fun (z, u') => .ret ((l, z), u')
    | [] => .fail

/-- a variable of the call's own -/
def takeBox (N : Names) (cs : List Cell) (hd : List Ref) (u : List Nat) : AV → HM (Val (rowsTy cs) × List Nat)
  | .lptr (.l id) i j g => match u.contains id with
    | true => .fail
    | false => .rd (.l id) fun b => if g = b.gen ∧ b.frozen = false ∧ i = 0 ∧ j = 0 then (match b.ct with
      | .box row => (expRow cs row).bind fun (row', f) => match f.all hd.contains with
        | true => takeRow N cs (id :: u) row'
        | false => .fail
      | _ => .fail) else .fail
  | _ => .fail

/-- an aggregate -/
def takeAg (N : Names) (cs : List Cell) (u : List Nat) : AV → HM (Val (rowsTy cs) × List Nat)
  | .agg row => takeRow N cs u row
  | _ => .fail

def nextA {α : Type} (k : AV → List AV → HM α) : List AV → HM α
  | [] => .fail
  | x :: r => k x r

def decE' (N : Names) (hd : List Ref) : (sl : List Slot) → List Nat → List AV → HM (Val (slotsTy sl))
  | [], _ => fun env => match env with
    | [] => .ret ()
    | _ => .fail
  | .dead :: sl, u => nextA fun _ env => decE' N hd sl u env
  | .data t :: sl, u => nextA fun x env => match decV N t x with
    | some y => (decE' N hd sl u env).bind fun r => .ret (y, r)
    | none => .fail
  | .cut t :: sl, u => nextA fun x env => (takeCut t u x).bind fun (l, u') => (decE' N hd sl u' env).bind fun r => .ret (l, r)
  | .sl t :: sl, u => nextA fun x env => (takeSl t u x).bind fun (l, u') => (decE' N hd sl u' env).bind fun r => .ret (l, r)
  | .box cs :: sl, u => nextA fun x env => (takeBox N cs hd u x).bind fun (y, u') => (decE' N hd sl u' env).bind fun r => .ret (y, r)
  | .ag cs :: sl, u => nextA fun x env => (takeAg N cs u x).bind fun (y, u') => (decE' N hd sl u' env).bind fun r => .ret (y, r)
  | .bor t k q :: sl, u => nextA fun x env => (takeBor t k q x).bind fun y => (decE' N hd sl u env).bind fun r => .ret (y, r)

/-! The objects. -/

/-- they are told as lists of rows -/
def tabsTy (ks : List (List Cell)) : List Nat → Ty
  | [] => .unit
  | k :: r => .pair (.sl (rowsTy (ks.getD k []))) (tabsTy ks r)

def tabB (cs : List Cell) (l : List (Val (rowsTy cs))) : Blk := { ct := .tab cs l [] (List.replicate ((ownQs cs 1).length + 1) 0), gen := 0, frozen := false }

def encTabs (ks : List (List Cell)) : (tk : List Nat) → Val (tabsTy ks tk) → List Blk
  | [], _ => []
  | k :: r, x => tabB (ks.getD k []) x.1 :: encTabs ks r x.2

def castR {a b : List Cell} (h : a = b) (l : List (Val (rowsTy a))) : List (Val (rowsTy b)) := h ▸ l

/-- a kind's objects -/
def tabOf (cs : List Cell) (b : Blk) : HM (List (Val (rowsTy cs))) := match b.ct with
  | .tab cs' l st _ => if h : cs' = cs then (match st.isEmpty with
    | true => .ret (castR h l)
    | false => .fail) else .fail
  | _ => .fail

def decTabs (ks : List (List Cell)) : (tk : List Nat) → HM (Val (tabsTy ks tk))
  | [] => .ret ()
  | k :: r => .rd (.l k) fun b => (tabOf (ks.getD k []) b).bind fun l => (decTabs ks r).bind fun z => .ret (l, z)

/-- of these there are none -/
def noTabs : List Nat → HM Unit
  | [] => .ret ()
  | k :: r => .rd (.l k) fun b => match b.ct with
    | .tab _ l _ _ => (match l with
      | [] => noTabs r
      | _ => .fail)
    | _ => .fail

def others (n : Nat) (tk : List Nat) : List Nat := (List.range n).filter fun k => !(tk.any (Nat.beq k))

def Ref.isL : Ref → Bool
  | .l _ => true
  | .o _ _ _ => false

def lids : List Ref → List Nat
  | [] => []
  | .l id :: r => id :: lids r
  | .o _ _ _ :: r => lids r

def noTab : Option Blk → Bool
  | some b => !b.isTab
  | none => true

/-- a state: objects, and what the variables bear -/
abbrev StV (E : Env) (tk : List Nat) (sl : List Slot) : Type := Val (tabsTy E.kinds tk) × Val (slotsTy sl)

def decSlots (E : Env) (tk : List Nat) (sl : List Slot) (s : St) : HM (StV E tk sl) :=
  (expA sl s.env).bind fun (env, ids) => match ids.all Ref.isL && (s.heap.drop E.kinds.length).all noTab with
    | true => (noTabs (others E.kinds.length tk)).bind fun _ => (decTabs E.kinds tk).bind fun t => (decE' E.toNames ids sl (lids ids) env).bind fun y => .ret (t, y)
    | false => .fail

/-- … new blocks from a number on -/
def encAt (E : Env) (tk : List Nat) (sl : List Slot) (b0 : Nat) (x : StV E tk sl) : St := ⟨encEnv sl b0 x.2, outH E tk (encTabs E.kinds tk x.1) b0 (encHeap sl b0 x.2)⟩

def encSlots (E : Env) (tk : List Nat) (sl : List Slot) (x : StV E tk sl) : St := encAt E tk sl E.kinds.length x

section
variable {c : Ctx} {I : Nat → Prop} {L : Ref → Option Pl} {s : St} {a : Act} {w : World} {call : CallF}

theorem expRow_sound (h : Sim c I L s a w) : ∀ {cs : List Cell} {row y : List AV} {ids : List Ref} {rs : List Nat} {v : List Value}, (expRow cs row).run call s.rd = some ((y, ids), rs) → RepL (c.rc I L w) L row v →
    (∀ id, id ∈ ids → ∃ p, L id = some p) ∧
    ∀ I' : Nat → Prop, (∀ b, I b → I' b) → (∀ id, id ∈ ids → ∀ p, L id = some p → p.virt = false → I' p.b) → RepL (c.rc I' L w) L y v
  | [], row, y, ids, rs, v, e, hx => by
    obtain ⟨h1, rfl⟩ := HM.run_ret e
    simp only [Prod.mk.injEq] at h1
    obtain ⟨rfl, rfl⟩ := h1
    exact ⟨fun id hid => (by simp at hid), fun I' hi _ => hx.mono (rle_of_heap hi (fun _ _ => rfl) (LLe.refl L)) (LLe.refl L)⟩
  | .d t :: cs, row, y, ids, rs, v, e, hx => by
    simp only [expRow] at e
    obtain ⟨⟨y1, f1⟩, r1, r2, e1, e2, rfl⟩ := HM.run_bind e
    obtain ⟨⟨y2, f2⟩, r3, r4, e3, e4, rfl⟩ := HM.run_bind e2
    obtain ⟨h1, rfl⟩ := HM.run_ret e4
    simp only [Prod.mk.injEq] at h1
    obtain ⟨rfl, rfl⟩ := h1
    rw [← List.take_append_drop t.size row] at hx
    obtain ⟨v1, v2, rfl, hv1, hv2⟩ := hx.split
    obtain ⟨g1, g2⟩ := exportL_sound h 8 e1 hv1
    obtain ⟨g3, g4⟩ := expRow_sound h e3 hv2
    refine ⟨fun id hid => ?_, fun I' hi hh => ?_⟩
    · rcases List.mem_append.1 hid with hid | hid
      · obtain ⟨p, hp, _⟩ := (g1 id hid).2; exact ⟨p, hp⟩
      · exact g3 id hid
    · exact (g2 I' hi fun id hid => hh id (List.mem_append_left _ hid)).noL.append (g4 I' hi fun id hid => hh id (List.mem_append_right _ hid))
  | .sl t :: cs, [], y, ids, rs, v, e, hx => by cases e
  | .sl t :: cs, x :: row, y, ids, rs, v, e, hx => by
    simp only [expRow] at e
    obtain ⟨⟨y2, f2⟩, r3, r4, e3, e4, rfl⟩ := HM.run_bind e
    obtain ⟨h1, rfl⟩ := HM.run_ret e4
    simp only [Prod.mk.injEq] at h1
    obtain ⟨rfl, rfl⟩ := h1
    simp only [RepL] at hx
    obtain ⟨z, tl, rfl, hz, ht⟩ := hx
    obtain ⟨g3, g4⟩ := expRow_sound h e3 ht
    refine ⟨g3, fun I' hi hh => ?_⟩
    simp only [RepL]
    exact ⟨z, tl, rfl, hz.mono (rle_of_heap hi (fun _ _ => rfl) (LLe.refl L)) (LLe.refl L), g4 I' hi hh⟩

theorem expA_sound (h : Sim c I L s a w) : ∀ {sl : List Slot} {x y : List AV} {ids : List Ref} {rs : List Nat} {v : List Value}, (expA sl x).run call s.rd = some ((y, ids), rs) → RepL (c.rc I L w) L x v →
    (∀ id, id ∈ ids → ∃ p, L id = some p) ∧
    ∀ I' : Nat → Prop, (∀ b, I b → I' b) → (∀ id, id ∈ ids → ∀ p, L id = some p → p.virt = false → I' p.b) → RepL (c.rc I' L w) L y v
  | [], [], y, ids, rs, v, e, hx => by
    obtain ⟨h1, rfl⟩ := HM.run_ret e
    simp only [Prod.mk.injEq] at h1
    obtain ⟨rfl, rfl⟩ := h1
    exact ⟨fun id hid => (by simp at hid), fun I' _ _ => by simpa only [RepL] using hx⟩
  | .data t :: sl, x :: env, y, ids, rs, v, e, hx => by
    simp only [expA] at e
    obtain ⟨⟨y1, f1⟩, r1, r2, e1, e2, rfl⟩ := HM.run_bind e
    obtain ⟨⟨y2, f2⟩, r3, r4, e3, e4, rfl⟩ := HM.run_bind e2
    obtain ⟨h1, rfl⟩ := HM.run_ret e4
    simp only [Prod.mk.injEq] at h1
    obtain ⟨rfl, rfl⟩ := h1
    simp only [RepL] at hx
    obtain ⟨z, tl, rfl, hz, ht⟩ := hx
    obtain ⟨g1, g2⟩ := exportN_sound h 8 e1 hz
    obtain ⟨g3, g4⟩ := expA_sound h e3 ht
    refine ⟨fun id hid => ?_, fun I' hi hh => ?_⟩
    · rcases List.mem_append.1 hid with hid | hid
      · obtain ⟨p, hp, _⟩ := (g1 id hid).2; exact ⟨p, hp⟩
      · exact g3 id hid
    · simp only [RepL]
      exact ⟨z, tl, rfl, (g2 I' hi fun id hid => hh id (List.mem_append_left _ hid)).noL, g4 I' hi fun id hid => hh id (List.mem_append_right _ hid)⟩
  | .dead :: sl, x :: env, y, ids, rs, v, e, hx => by
    simp only [expA] at e
    obtain ⟨⟨y2, f2⟩, r3, r4, e3, e4, rfl⟩ := HM.run_bind e
    obtain ⟨h1, rfl⟩ := HM.run_ret e4
    simp only [Prod.mk.injEq] at h1
    obtain ⟨rfl, rfl⟩ := h1
    simp only [RepL] at hx
    obtain ⟨z, tl, rfl, hz, ht⟩ := hx
    obtain ⟨g3, g4⟩ := expA_sound h e3 ht
    refine ⟨g3, fun I' hi hh => ?_⟩
    simp only [RepL]
    exact ⟨z, tl, rfl, by simp [Rep], g4 I' hi hh⟩
  | .sl t :: sl, x :: env, y, ids, rs, v, e, hx => by
    simp only [expA] at e
    obtain ⟨⟨y2, f2⟩, r3, r4, e3, e4, rfl⟩ := HM.run_bind e
    obtain ⟨h1, rfl⟩ := HM.run_ret e4
    simp only [Prod.mk.injEq] at h1
    obtain ⟨rfl, rfl⟩ := h1
    simp only [RepL] at hx
    obtain ⟨z, tl, rfl, hz, ht⟩ := hx
    obtain ⟨g3, g4⟩ := expA_sound h e3 ht
    refine ⟨g3, fun I' hi hh => ?_⟩
    simp only [RepL]
    exact ⟨z, tl, rfl, hz.mono (rle_of_heap hi (fun _ _ => rfl) (LLe.refl L)) (LLe.refl L), g4 I' hi hh⟩
  | .cut t :: sl, x :: env, y, ids, rs, v, e, hx => by
    simp only [expA] at e
    obtain ⟨⟨y2, f2⟩, r3, r4, e3, e4, rfl⟩ := HM.run_bind e
    obtain ⟨h1, rfl⟩ := HM.run_ret e4
    simp only [Prod.mk.injEq] at h1
    obtain ⟨rfl, rfl⟩ := h1
    simp only [RepL] at hx
    obtain ⟨z, tl, rfl, hz, ht⟩ := hx
    obtain ⟨g3, g4⟩ := expA_sound h e3 ht
    refine ⟨g3, fun I' hi hh => ?_⟩
    simp only [RepL]
    exact ⟨z, tl, rfl, hz.mono (rle_of_heap hi (fun _ _ => rfl) (LLe.refl L)) (LLe.refl L), g4 I' hi hh⟩
  | .bor t k q :: sl, x :: env, y, ids, rs, v, e, hx => by
    simp only [expA] at e
    obtain ⟨⟨y2, f2⟩, r3, r4, e3, e4, rfl⟩ := HM.run_bind e
    obtain ⟨h1, rfl⟩ := HM.run_ret e4
    simp only [Prod.mk.injEq] at h1
    obtain ⟨rfl, rfl⟩ := h1
    simp only [RepL] at hx
    obtain ⟨z, tl, rfl, hz, ht⟩ := hx
    obtain ⟨g3, g4⟩ := expA_sound h e3 ht
    refine ⟨g3, fun I' hi hh => ?_⟩
    simp only [RepL]
    exact ⟨z, tl, rfl, hz.mono (rle_of_heap hi (fun _ _ => rfl) (LLe.refl L)) (LLe.refl L), g4 I' hi hh⟩
  | .box cs :: sl, x :: env, y, ids, rs, v, e, hx => by
    simp only [expA] at e
    obtain ⟨f1, r1, r2, e1, e2, rfl⟩ := HM.run_bind e
    obtain ⟨⟨y2, f2⟩, r3, r4, e3, e4, rfl⟩ := HM.run_bind e2
    obtain ⟨h1, rfl⟩ := HM.run_ret e4
    simp only [Prod.mk.injEq] at h1
    obtain ⟨rfl, rfl⟩ := h1
    simp only [RepL] at hx
    obtain ⟨z, tl, rfl, hz, ht⟩ := hx
    obtain ⟨g3, g4⟩ := expA_sound h e3 ht
    refine ⟨fun id hid => ?_, fun I' hi hh => ?_⟩
    · rcases List.mem_append.1 hid with hid | hid
      · unfold expBox at e1
        split at e1
        · obtain ⟨b, l', hb, e1', rfl⟩ := HM.run_rd e1
          clear e1
          split at e1'
          · rename_i row hct
            obtain ⟨⟨y3, f3⟩, r5, r6, e5, e6, rfl⟩ := HM.run_bind e1'
            obtain ⟨rfl, rfl⟩ := HM.run_ret e6
            obtain ⟨p, hp, hk, _⟩ := h.blk (.l _) b hb
            obtain ⟨_, hk⟩ := hk
            rw [hct] at hk
            obtain ⟨_, _, cells, T, _, hrow⟩ := hk
            exact (expRow_sound h e5 hrow).1 id hid
          · cases e1'
        · cases e1
      · exact g3 id hid
    · simp only [RepL]
      exact ⟨z, tl, rfl, hz.mono (rle_of_heap hi (fun _ _ => rfl) (LLe.refl L)) (LLe.refl L), g4 I' hi fun id hid => hh id (List.mem_append_right _ hid)⟩
  | .ag cs :: sl, x :: env, y, ids, rs, v, e, hx => by
    simp only [expA] at e
    obtain ⟨⟨y1, f1⟩, r1, r2, e1, e2, rfl⟩ := HM.run_bind e
    obtain ⟨⟨y2, f2⟩, r3, r4, e3, e4, rfl⟩ := HM.run_bind e2
    obtain ⟨h1, rfl⟩ := HM.run_ret e4
    simp only [Prod.mk.injEq] at h1
    obtain ⟨rfl, rfl⟩ := h1
    simp only [RepL] at hx
    obtain ⟨z, tl, rfl, hz, ht⟩ := hx
    obtain ⟨g3, g4⟩ := expA_sound h e3 ht
    unfold expAg at e1
    split at e1
    · rename_i row
      obtain ⟨⟨y3, f3⟩, r5, r6, e5, e6, rfl⟩ := HM.run_bind e1
      obtain ⟨h1, rfl⟩ := HM.run_ret e6
      simp only [Prod.mk.injEq] at h1
      obtain ⟨rfl, rfl⟩ := h1
      simp only [Rep] at hz
      obtain ⟨cs', rfl, hrow⟩ := hz
      obtain ⟨g1, g2⟩ := expRow_sound h e5 hrow
      refine ⟨fun id hid => ?_, fun I' hi hh => ?_⟩
      · rcases List.mem_append.1 hid with hid | hid
        · exact g1 id hid
        · exact g3 id hid
      · simp only [RepL, Rep]
        exact ⟨_, tl, rfl, ⟨cs', rfl, g2 I' hi fun id hid => hh id (List.mem_append_left _ hid)⟩, g4 I' hi fun id hid => hh id (List.mem_append_right _ hid)⟩
    · cases e1
  | [], _ :: _, _, _, _, _, e, _ => by simp [expA, HM.run] at e
  | .data _ :: _, [], _, _, _, _, e, _ => by simp [expA, HM.run] at e
  | .dead :: _, [], _, _, _, _, e, _ => by simp [expA, HM.run] at e
  | .sl _ :: _, [], _, _, _, _, e, _ => by simp [expA, HM.run] at e
  | .cut _ :: _, [], _, _, _, _, e, _ => by simp [expA, HM.run] at e
  | .bor _ _ _ :: _, [], _, _, _, _, e, _ => by simp [expA, HM.run] at e
  | .box _ :: _, [], _, _, _, _, e, _ => by simp [expA, HM.run] at e
  | .ag _ :: _, [], _, _, _, _, e, _ => by simp [expA, HM.run] at e

end

/-- places as they are told -/
def Agree (L' : Ref → Option Pl) (b0 : Nat) (pls : List Pl) : Prop := ∀ j p, pls[j]? = some p → L' (.l (b0 + j)) = some p

/-- an object's slices are as new -/
def Fresh (L L' : Ref → Option Pl) : Prop := ∀ k i q p, L (.o k i q) = some p → L' (.o k i q) = some { p with gen := 0 }

theorem Agree.tail {L' : Ref → Option Pl} {b0 : Nat} {q : Pl} {pls : List Pl} (h : Agree L' b0 (q :: pls)) : Agree L' (b0 + 1) pls := fun j p hj => by
  have := h (j + 1) p (by simpa using hj)
  rw [Nat.add_assoc, Nat.add_comm 1 j]
  exact this
theorem Agree.head {L' : Ref → Option Pl} {b0 : Nat} {q : Pl} {pls : List Pl} (h : Agree L' b0 (q :: pls)) : L' (.l b0) = some q := h 0 q rfl
theorem Agree.left {L' : Ref → Option Pl} {b0 : Nat} {p1 p2 : List Pl} (h : Agree L' b0 (p1 ++ p2)) : Agree L' b0 p1 := fun j p hj => h j p (by
  rw [List.getElem?_append_left (List.getElem?_eq_some_iff.1 hj).1]
  exact hj)
theorem Agree.right {L' : Ref → Option Pl} {b0 : Nat} {p1 p2 : List Pl} (h : Agree L' b0 (p1 ++ p2)) : Agree L' (b0 + p1.length) p2 := fun j p hj => by
  have := h (p1.length + j) p (by
    rw [List.getElem?_append_right (by omega), Nat.add_sub_cancel_left]
    exact hj)
  rw [Nat.add_assoc]
  exact this

/-- what is kept of the call's own blocks -/
structure Kept (R : RC) (L : Ref → Option Pl) (I : Nat → Prop) (w : World) (b0 : Nat) (used used' : List Nat) (hp : List (Option Blk)) (src : List (Option Nat)) (pls : List Pl) : Prop where
  len : pls.length = src.length ∧ src.length = hp.length
  sub : ∀ i, i ∈ used → i ∈ used'
  blk : ∀ (j : Nat) (x : Option Blk), hp[j]? = some x → ∃ B p, x = some B ∧ B.frozen = false ∧ B.isTab = false ∧ pls[j]? = some p ∧ ∀ L', Agree L' b0 pls → BlkOK R L' w p B
  own : ∀ (j id : Nat), src[j]? = some (some id) → id ∉ used ∧ id ∈ used' ∧ ∃ p q, L (.l id) = some p ∧ pls[j]? = some q ∧ q.b = p.b ∧ q.virt = p.virt ∧ (p.virt = false → ¬ I p.b)
  virt : ∀ (j : Nat), src[j]? = some none → ∃ q, pls[j]? = some q ∧ q.virt = true
  inj : ∀ (i j id : Nat), src[i]? = some (some id) → src[j]? = some (some id) → i = j

section
variable {R : RC} {L : Ref → Option Pl} {I : Nat → Prop} {w : World}

theorem Kept.nil {b0 : Nat} {used : List Nat} : Kept R L I w b0 used used [] [] [] :=
  ⟨⟨rfl, rfl⟩, fun _ h => h, by simp, by simp, by simp, by simp⟩

theorem Kept.cons {b0 : Nat} {used used' : List Nat} {hp : List (Option Blk)} {src : List (Option Nat)} {pls : List Pl} {id : Nat} (h : Kept R L I w (b0 + 1) (id :: used) used' hp src pls) {p q : Pl} {B : Blk}
    (hid : id ∉ used) (hp' : L (.l id) = some p) (hq : q.b = p.b ∧ q.virt = p.virt) (hI : p.virt = false → ¬ I p.b) (hz : B.frozen = false) (hnt : B.isTab = false) (hB : ∀ L', Agree L' (b0 + 1) pls → BlkOK R L' w q B) : Kept R L I w b0 used used' (some B :: hp) (some id :: src) (q :: pls) := by
  refine ⟨⟨by simp [h.len.1], by simp [h.len.2]⟩, fun i hi => h.sub i (by simp [hi]), fun j x hx => ?_, fun j i hj => ?_, fun j hj => ?_, fun i j k hi hj => ?_⟩
  · cases j with
    | zero => simp only [List.getElem?_cons_zero, Option.some.injEq] at hx; exact ⟨B, q, hx.symm, hz, hnt, rfl, fun L' ha => hB L' ha.tail⟩
    | succ j =>
      obtain ⟨B', p', h1, h2, h2', h3, h4⟩ := h.blk j x (by simpa using hx)
      exact ⟨B', p', h1, h2, h2', by simpa using h3, fun L' ha => h4 L' ha.tail⟩
  · cases j with
    | zero =>
      simp only [List.getElem?_cons_zero, Option.some.injEq] at hj
      subst hj
      exact ⟨hid, h.sub _ (by simp), p, q, hp', rfl, hq.1, hq.2, hI⟩
    | succ j =>
      obtain ⟨h1, h2, h3⟩ := h.own j i (by simpa using hj)
      exact ⟨fun hm => h1 (by simp [hm]), h2, by simpa using h3⟩
  · cases j with
    | zero => simp at hj
    | succ j => exact h.virt j (by simpa using hj)
  · cases i with
    | zero =>
      cases j with
      | zero => rfl
      | succ j =>
        simp only [List.getElem?_cons_zero, Option.some.injEq] at hi
        subst hi
        exact absurd (List.mem_cons_self) (h.own j id (by simpa using hj)).1
    | succ i =>
      cases j with
      | zero =>
        simp only [List.getElem?_cons_zero, Option.some.injEq] at hj
        subst hj
        exact absurd (List.mem_cons_self) (h.own i id (by simpa using hi)).1
      | succ j => rw [h.inj i j k (by simpa using hi) (by simpa using hj)]

theorem Kept.consV {b0 : Nat} {used used' : List Nat} {hp : List (Option Blk)} {src : List (Option Nat)} {pls : List Pl} (h : Kept R L I w (b0 + 1) used used' hp src pls) {q : Pl} {B : Blk}
    (hq : q.virt = true) (hz : B.frozen = false) (hnt : B.isTab = false) (hB : ∀ L', BlkOK R L' w q B) : Kept R L I w b0 used used' (some B :: hp) (none :: src) (q :: pls) := by
  refine ⟨⟨by simp [h.len.1], by simp [h.len.2]⟩, h.sub, fun j x hx => ?_, fun j i hj => ?_, fun j hj => ?_, fun i j k hi hj => ?_⟩
  · cases j with
    | zero => simp only [List.getElem?_cons_zero, Option.some.injEq] at hx; exact ⟨B, q, hx.symm, hz, hnt, rfl, fun L' _ => hB L'⟩
    | succ j =>
      obtain ⟨B', p', h1, h2, h2', h3, h4⟩ := h.blk j x (by simpa using hx)
      exact ⟨B', p', h1, h2, h2', by simpa using h3, fun L' ha => h4 L' ha.tail⟩
  · cases j with
    | zero => simp at hj
    | succ j => exact h.own j i (by simpa using hj)
  · cases j with
    | zero => exact ⟨q, rfl, hq⟩
    | succ j => exact h.virt j (by simpa using hj)
  · cases i with
    | zero => simp at hi
    | succ i =>
      cases j with
      | zero => simp at hj
      | succ j => rw [h.inj i j k (by simpa using hi) (by simpa using hj)]

theorem get_app {α : Type} {l m : List α} {j : Nat} {x : α} (h : (l ++ m)[j]? = some x) : (j < l.length ∧ l[j]? = some x) ∨ (l.length ≤ j ∧ m[j - l.length]? = some x) := by
  rcases Nat.lt_or_ge j l.length with hl | hl
  · rw [List.getElem?_append_left hl] at h; exact .inl ⟨hl, h⟩
  · rw [List.getElem?_append_right hl] at h; exact .inr ⟨hl, h⟩

theorem app_l {α : Type} {l m : List α} {j : Nat} {x : α} (h : l[j]? = some x) : (l ++ m)[j]? = some x := by
  rw [List.getElem?_append_left (List.getElem?_eq_some_iff.1 h).1]; exact h
theorem app_r {α : Type} {l m : List α} {j : Nat} {x : α} (hl : l.length ≤ j) (h : m[j - l.length]? = some x) : (l ++ m)[j]? = some x := by
  rw [List.getElem?_append_right hl]; exact h

theorem Kept.append {b0 : Nat} {u u1 u2 : List Nat} {h1 h2 : List (Option Blk)} {s1 s2 : List (Option Nat)} {p1 p2 : List Pl} (k1 : Kept R L I w b0 u u1 h1 s1 p1) (k2 : Kept R L I w (b0 + p1.length) u1 u2 h2 s2 p2) :
    Kept R L I w b0 u u2 (h1 ++ h2) (s1 ++ s2) (p1 ++ p2) := by
  have e1 : h1.length = p1.length := by rw [k1.len.1, k1.len.2]
  have e2 : s1.length = p1.length := k1.len.1.symm
  refine ⟨⟨by simp [k1.len.1, k2.len.1], by simp [k1.len.2, k2.len.2]⟩, fun i hi => k2.sub i (k1.sub i hi), fun j x hx => ?_, fun j i hj => ?_, fun j hj => ?_, fun i j k hi hj => ?_⟩
  · rcases get_app hx with ⟨hl, hx⟩ | ⟨hl, hx⟩
    · obtain ⟨B, p, g1, g2, g2', g3, g4⟩ := k1.blk j x hx
      exact ⟨B, p, g1, g2, g2', app_l g3, fun L' ha => g4 L' ha.left⟩
    · obtain ⟨B, p, g1, g2, g2', g3, g4⟩ := k2.blk _ x hx
      exact ⟨B, p, g1, g2, g2', app_r (by omega) (by rw [← e1]; exact g3), fun L' ha => g4 L' ha.right⟩
  · rcases get_app hj with ⟨hl, hj⟩ | ⟨hl, hj⟩
    · obtain ⟨g1, g2, p, q, g3, g4, g5⟩ := k1.own j i hj
      exact ⟨g1, k2.sub _ g2, p, q, g3, app_l g4, g5⟩
    · obtain ⟨g1, g2, p, q, g3, g4, g5⟩ := k2.own _ i hj
      exact ⟨fun hm => g1 (k1.sub _ hm), g2, p, q, g3, app_r (by omega) (by rw [← e2]; exact g4), g5⟩
  · rcases get_app hj with ⟨hl, hj⟩ | ⟨hl, hj⟩
    · obtain ⟨q, g1, g2⟩ := k1.virt j hj
      exact ⟨q, app_l g1, g2⟩
    · obtain ⟨q, g1, g2⟩ := k2.virt _ hj
      exact ⟨q, app_r (by omega) (by rw [← e2]; exact g1), g2⟩
  · rcases get_app hi with ⟨hl, hi⟩ | ⟨hl, hi⟩ <;> rcases get_app hj with ⟨hm, hj⟩ | ⟨hm, hj⟩
    · exact k1.inj i j k hi hj
    · exact absurd (k1.own i k hi).2.1 (k2.own _ k hj).1
    · exact absurd (k1.own j k hj).2.1 (k2.own _ k hi).1
    · have := k2.inj _ _ k hi hj
      omega

end

end Go.Eng

/-
  The abstract machine, part 23a: what is taken over.
-/
namespace Go.Eng

def Shows0 (R : RC) (b0 : Nat) (env : List AV) (vs : List Value) (pls : List Pl) : Prop :=
  ∀ (L' : Ref → Option Pl), Agree L' b0 pls → RepL R L' env vs

def Shows (R : RC) (L : Ref → Option Pl) (b0 : Nat) (env : List AV) (vs : List Value) (pls : List Pl) : Prop :=
  ∀ (L' : Ref → Option Pl), Agree L' b0 pls → Fresh L L' → RepL R L' env vs

section
variable {c : Ctx} {I I' : Nat → Prop} {L : Ref → Option Pl} {s : St} {a : Act} {w : World} {call : CallF}

theorem takeSl_kept (h : Sim c I L s a w) (hi : ∀ b, I b → I' b) {t : Ty} {u u' : List Nat} {y : AV} {z : Value} {l0 : List (Val t)} {rs : List Nat} (et : (takeSl t u y).run call s.rd = some ((l0, u'), rs)) (hz : Rep (c.rc I' L w) L y z) (b0 : Nat) :
    ∃ o q, Kept (c.rc I' L w) L I w b0 u u' [some { ct := .sl t l0, gen := 0, frozen := false }] [o] [q] ∧ ∀ L', L' (.l b0) = some q → Rep (c.rc I' L w) L' (.lsl t (.l b0) 0 l0.length 0) z := by
  unfold takeSl at et
  split at et
  · obtain ⟨h0, rfl⟩ := HM.run_ret et
    simp only [Prod.mk.injEq] at h0
    obtain ⟨rfl, rfl⟩ := h0
    refine ⟨none, ⟨0, 0, t.size, 0, 0, true⟩, Kept.nil.consV rfl rfl rfl (fun L' => ⟨rfl, .inl ⟨rfl, rfl, rfl⟩⟩), fun L' hp => ?_⟩
    simp only [Rep] at hz ⊢
    exact ⟨_, hp, rfl, Nat.le_refl _, none, 0, by simpa using hz, by simp, fun hne => absurd rfl hne, fun _ => .inl rfl⟩
  · rename_i t0 id i n g
    split at et
    · cases et
    · rename_i hu
      have hu : id ∉ u := by
        intro hm
        have : u.contains id = true := by simpa using hm
        rw [this] at hu
        cases hu
      obtain ⟨b, l', hb, et1, rfl⟩ := HM.run_rd et
      split at et1
      · rename_i hc
        obtain ⟨hg, hf, rfl⟩ := hc
        split at et1
        · rename_i t' l hct
          split at et1
          · rename_i htt
            subst htt
            obtain ⟨hn, et2⟩ := HM.run_chk et1
            have hn := of_decide_eq_true hn
            obtain ⟨h0, rfl⟩ := HM.run_ret et2
            simp only [Prod.mk.injEq] at h0
            obtain ⟨h0, rfl⟩ := h0
            have h0 : l = l0 := h0.symm
            subst h0
            obtain ⟨p, hp, hk, hfr⟩ := h.blk (.l _) b hb
            have hk' := hk.mono (R' := c.rc I' L w) (L' := L) (rle_of_heap hi (fun _ _ => rfl) (LLe.refl L)) (LLe.refl L) (w' := w) (fun _ => rfl) (fun _ _ => rfl)
            simp only [Rep] at hz
            obtain ⟨p', hp', hpw, hge, ad, cap, hv, hcap, hsome, hcur⟩ := hz
            rw [hp] at hp'
            injection hp' with hp'
            subst hp'
            have hpg : p.gen = g := by rw [hk.1, hg]
            by_cases hvirt : p.virt = true ∨ cap = 0 ∧ l = []
            · have hl0 : l = [] ∧ cap = 0 := by
                rcases hvirt with hvt | ⟨h0, h1⟩
                · obtain ⟨_, hk⟩ := hk
                  rw [hct] at hk
                  rcases hk with ⟨_, h0, _⟩ | ⟨h0, _⟩
                  · refine ⟨h0, ?_⟩
                    rcases hcur hpg with hc | ⟨hc, _⟩
                    · exact hc
                    · rw [hvt] at hc; cases hc
                  · rw [hvt] at h0; cases h0
                · exact ⟨h1, h0⟩
              obtain ⟨rfl, rfl⟩ := hl0
              refine ⟨some id, { p with gen := 0, w := t'.size, virt := p.virt }, ?_, ?_⟩
              · refine Kept.cons (p := p) Kept.nil hu hp ⟨rfl, rfl⟩ (fun hv => hfr hf hv) rfl rfl fun L' _ => ⟨rfl, ?_⟩
                cases hv' : p.virt with
                | true => exact .inl ⟨rfl, rfl, rfl⟩
                | false =>
                  obtain ⟨_, hk⟩ := hk'
                  rw [hct] at hk
                  rcases hk with ⟨h0, _⟩ | ⟨_, hpw2, cs, T, hh, hps, hle, _⟩
                  · rw [hv'] at h0; cases h0
                  · refine .inr ⟨rfl, rfl, cs, T, hh, hps, ?_, fun i hi => by simp at hi⟩
                    simpa using hle
              · intro L' hpl
                simp only [Rep]
                exact ⟨_, hpl, rfl, Nat.le_refl _, ad, 0, by rw [hv, hn], Nat.zero_le _, fun hne => absurd rfl hne, fun _ => .inl rfl⟩
            · have hvf : p.virt = false := by
                cases hv' : p.virt with
                | true => exact absurd (.inl hv') hvirt
                | false => rfl
              obtain ⟨_, hk2⟩ := hk'
              rw [hct] at hk2
              rcases hk2 with ⟨h0, _⟩ | ⟨_, hpw2, cs, T, hh, hps, hle, hrow⟩
              · rw [hvf] at h0; cases h0
              refine ⟨some id, { p with gen := 0 }, ?_, ?_⟩
              · exact Kept.cons (p := p) Kept.nil hu hp ⟨rfl, rfl⟩ (fun hv => hfr hf hv) rfl rfl fun L' _ => ⟨rfl, .inr ⟨hvf, hpw2, cs, T, hh, hps, hle, hrow⟩⟩
              · intro L' hpl
                simp only [Rep]
                refine ⟨_, hpl, hpw2, Nat.le_refl _, ad, cap, by rw [hv, hn], ?_, ?_, fun _ => hcur hpg⟩
                · rw [hn] at hcap; exact hcap
                · rw [hn] at hsome; exact hsome
          · cases et1
        · cases et1
      · cases et1
  · cases et

theorem takeCut_kept (h : Sim c I L s a w) (hi : ∀ b, I b → I' b) {t : Ty} {u u' : List Nat} {y : AV} {z : Value} {l0 : List (Val t)} {rs : List Nat} (et : (takeCut t u y).run call s.rd = some ((l0, u'), rs)) (hz : Rep (c.rc I' L w) L y z) (b0 : Nat) :
    ∃ o q, Kept (c.rc I' L w) L I w b0 u u' [some { ct := .sl t l0, gen := 0, frozen := false }] [o] [q] ∧ ∀ L', L' (.l b0) = some q → Rep (c.rc I' L w) L' (.lsl t (.l b0) 0 l0.length 0) z := by
  unfold takeCut at et
  split at et
  · obtain ⟨h0, rfl⟩ := HM.run_ret et
    simp only [Prod.mk.injEq] at h0
    obtain ⟨rfl, rfl⟩ := h0
    refine ⟨none, ⟨0, 0, t.size, 0, 0, true⟩, Kept.nil.consV rfl rfl rfl (fun L' => ⟨rfl, .inl ⟨rfl, rfl, rfl⟩⟩), fun L' hp => ?_⟩
    simp only [Rep] at hz ⊢
    exact ⟨_, hp, rfl, Nat.le_refl _, none, 0, by simpa using hz, by simp, fun hne => absurd rfl hne, fun _ => .inl rfl⟩
  · rename_i t0 id i n g
    split at et
    · cases et
    · rename_i hu
      have hu : id ∉ u := by
        intro hm
        have : u.contains id = true := by simpa using hm
        rw [this] at hu
        cases hu
      obtain ⟨b, l', hb, et1, rfl⟩ := HM.run_rd et
      split at et1
      · rename_i hc
        obtain ⟨hg, hf, rfl⟩ := hc
        split at et1
        · rename_i t' l hct
          split at et1
          · rename_i htt
            subst htt
            obtain ⟨hn, et2⟩ := HM.run_chk et1
            have hn := of_decide_eq_true hn
            obtain ⟨h0, rfl⟩ := HM.run_ret et2
            simp only [Prod.mk.injEq] at h0
            obtain ⟨h0, rfl⟩ := h0
            have h0 : l0 = l.take n := h0
            subst h0
            have hlt : (l.take n).length = n := by rw [List.length_take]; omega
            obtain ⟨p, hp, hk, hfr⟩ := h.blk (.l _) b hb
            have hk' := hk.mono (R' := c.rc I' L w) (L' := L) (rle_of_heap hi (fun _ _ => rfl) (LLe.refl L)) (LLe.refl L) (w' := w) (fun _ => rfl) (fun _ _ => rfl)
            simp only [Rep] at hz
            obtain ⟨p', hp', hpw, hge, ad, cap, hv, hcap, hsome, hcur⟩ := hz
            rw [hp] at hp'
            injection hp' with hp'
            subst hp'
            have hpg : p.gen = g := by rw [hk.1, hg]
            by_cases hvirt : p.virt = true ∨ cap = 0
            · have hn0 : n = 0 := by
                rcases hvirt with hvt | h0
                · obtain ⟨_, hk⟩ := hk
                  rw [hct] at hk
                  rcases hk with ⟨_, h0, _⟩ | ⟨h0, _⟩
                  · rw [h0] at hn; simpa using hn
                  · rw [hvt] at h0; cases h0
                · omega
              subst hn0
              rw [List.take_zero]
              refine ⟨some id, { p with gen := 0, w := t'.size, virt := p.virt }, ?_, ?_⟩
              · refine Kept.cons (p := p) Kept.nil hu hp ⟨rfl, rfl⟩ (fun hv => hfr hf hv) rfl rfl fun L' _ => ⟨rfl, ?_⟩
                cases hv' : p.virt with
                | true => exact .inl ⟨rfl, rfl, rfl⟩
                | false =>
                  obtain ⟨_, hk⟩ := hk'
                  rw [hct] at hk
                  rcases hk with ⟨h0, _⟩ | ⟨_, hpw2, cs, T, hh, hps, hle, _⟩
                  · rw [hv'] at h0; cases h0
                  · refine .inr ⟨rfl, rfl, cs, T, hh, hps, ?_, fun i hi => by simp at hi⟩
                    simp only [List.length_nil, Nat.zero_mul, Nat.add_zero]
                    omega
              · intro L' hpl
                simp only [Rep]
                refine ⟨_, hpl, rfl, Nat.le_refl _, ad, cap, hv, Nat.zero_le _, fun hne => absurd rfl hne, fun _ => ?_⟩
                rcases hcur hpg with hc | ⟨h1, h2, h3⟩
                · exact .inl hc
                · rcases hvirt with hvt | h0
                  · rw [hvt] at h1; cases h1
                  · exact .inl h0
            · have hvf : p.virt = false := by
                cases hv' : p.virt with
                | true => exact absurd (.inl hv') hvirt
                | false => rfl
              obtain ⟨_, hk2⟩ := hk'
              rw [hct] at hk2
              rcases hk2 with ⟨h0, _⟩ | ⟨_, hpw2, cs, T, hh, hps, hle, hrow⟩
              · rw [hvf] at h0; cases h0
              refine ⟨some id, { p with gen := 0 }, ?_, ?_⟩
              · refine Kept.cons (p := p) Kept.nil hu hp ⟨rfl, rfl⟩ (fun hv => hfr hf hv) rfl rfl fun L' _ => ⟨rfl, .inr ⟨hvf, hpw2, cs, T, hh, hps, ?_, fun i hi => ?_⟩⟩
                · rw [hlt]
                  exact Nat.le_trans (Nat.add_le_add_left (Nat.mul_le_mul_right _ hn) _) hle
                · rw [hlt] at hi
                  have := hrow i (by omega)
                  rw [List.getD_eq_getElem?_getD] at this ⊢
                  rw [List.getElem?_take, if_pos hi]
                  exact this
              · intro L' hpl
                simp only [Rep]
                rw [hlt]
                exact ⟨_, hpl, hpw2, Nat.le_refl _, ad, cap, hv, hcap, hsome, fun _ => hcur hpg⟩
          · cases et1
        · cases et1
      · cases et1
  · cases et

theorem takeRow_kept (h : Sim c I L s a w) (hi : ∀ b, I b → I' b) : ∀ (cs : List Cell) (u u' : List Nat) (row : List AV) (x : Val (rowsTy cs)) (rs : List Nat) (vs : List Value) (b0 : Nat), (takeRow c.E.toNames cs u row).run call s.rd = some ((x, u'), rs) → RepL (c.rc I' L w) L row vs →
    ∃ src pls, Kept (c.rc I' L w) L I w b0 u u' (encRowH cs x) src pls ∧ pls.length = rowsN cs ∧ Shows0 (c.rc I' L w) b0 (encRow cs b0 x) vs pls
  | [], u, u', row, x, rs, vs, b0, e, hr => by
    simp only [takeRow] at e
    split at e
    · obtain ⟨h0, rfl⟩ := HM.run_ret e
      have h1 : u' = u := congrArg Prod.snd h0
      subst h1
      exact ⟨[], [], Kept.nil, rfl, fun L' _ => by simpa only [encRow, RepL] using hr⟩
    · cases e
  | .d t :: cs, u, u', row, x, rs, vs, b0, e, hr => by
    simp only [takeRow] at e
    split at e
    · rename_i y r hd
      obtain ⟨⟨z, u1⟩, r1, r2, e1, e2, rfl⟩ := HM.run_bind e
      obtain ⟨h0, rfl⟩ := HM.run_ret e2
      injection h0 with h0 h00
      subst h0 h00
      obtain ⟨d, v2, rfl, hT, hr2⟩ := decT_sound (R := c.rc I' L w) t hd hr
      obtain ⟨src, pls, k1, k2, k3⟩ := takeRow_kept h hi cs u _ r z _ v2 b0 e1 hr2
      refine ⟨src, pls, k1, k2, fun L' ha => ?_⟩
      simp only [encRow]
      exact (RepL.ofT t hT).append (k3 L' ha)
    · cases e
  | .sl t :: cs, u, u', row, x, rs, vs, b0, e, hr => by
    simp only [takeRow] at e
    split at e
    · rename_i y r
      obtain ⟨⟨l, u1⟩, r1, r2, e1, e2, rfl⟩ := HM.run_bind e
      obtain ⟨⟨z, u2⟩, r3, r4, e3, e4, rfl⟩ := HM.run_bind e2
      obtain ⟨h0, rfl⟩ := HM.run_ret e4
      injection h0 with h0 h00
      subst h0 h00
      simp only [RepL] at hr
      obtain ⟨v, tl, rfl, hv, ht⟩ := hr
      obtain ⟨o, q, k1, k2⟩ := takeSl_kept h hi e1 hv b0
      obtain ⟨src, pls, k3, k4, k5⟩ := takeRow_kept h hi cs u1 _ r z _ tl (b0 + 1) e3 ht
      refine ⟨[o] ++ src, [q] ++ pls, k1.append k3, by simp [k4, rowsN, Nat.add_comm], fun L' ha => ?_⟩
      simp only [encRow, RepL]
      exact ⟨v, tl, rfl, k2 L' (Agree.head ha), k5 L' (Agree.tail ha)⟩
    · cases e

theorem takeBox_kept (h : Sim c I L s a w) (hi : ∀ b, I b → I' b) {hd : List Ref} (hh : ∀ id, id ∈ hd → ∀ p, L id = some p → p.virt = false → I' p.b) {cs : List Cell} {u u' : List Nat} {y : AV} {z : Value} {x : Val (rowsTy cs)} {rs : List Nat} (et : (takeBox c.E.toNames cs hd u y).run call s.rd = some ((x, u'), rs)) (hz : Rep (c.rc I' L w) L y z) (b0 : Nat) :
    ∃ src pls, Kept (c.rc I' L w) L I w b0 u u' (some { ct := .box (encRow cs (b0 + 1) x), gen := 0, frozen := false } :: encRowH cs x) src pls ∧ pls.length = rowsN cs + 1 ∧ ∀ L', Agree L' b0 pls → Rep (c.rc I' L w) L' (.lptr (.l b0) 0 0 0) z := by
  unfold takeBox at et
  split at et
  · rename_i id i j0 g
    split at et
    · cases et
    · rename_i hu
      have hu : id ∉ u := by
        intro hm
        have : u.contains id = true := by simpa using hm
        rw [this] at hu
        cases hu
      obtain ⟨b, l', hb, et1, rfl⟩ := HM.run_rd et
      split at et1
      · rename_i hc
        obtain ⟨hg, hf, rfl, rfl⟩ := hc
        split at et1
        · rename_i row0 hct
          obtain ⟨⟨row, f⟩, r1, r2, ex, et2, rfl⟩ := HM.run_bind et1
          clear et1
          have et1 := et2
          clear et2
          simp only at et1
          split at et1
          case h_2 => cases et1
          rename_i hall
          obtain ⟨p, hp, hk, hfr⟩ := h.blk (.l _) b hb
          have hpg : p.gen = g := by rw [hk.1, hg]
          obtain ⟨_, hk2⟩ := hk
          rw [hct] at hk2
          obtain ⟨hv, ho, cells, T, hcells, hrow0⟩ := hk2
          have hrow := (expRow_sound h ex hrow0).2 I' hi fun id hid => hh id (by
            rw [List.all_eq_true] at hall
            simpa using hall id hid)
          obtain ⟨src, pls, k1, k2, k3⟩ := takeRow_kept h hi cs _ _ row x _ _ (b0 + 1) et1 hrow
          simp only [Rep] at hz
          obtain ⟨p', hp', hge, q, hq, hcur⟩ := hz
          rw [hp] at hp'
          injection hp' with hp'
          subst hp'
          refine ⟨some id :: src, { p with gen := 0 } :: pls, ?_, by simp [k2], ?_⟩
          · exact k1.cons (p := p) hu hp ⟨rfl, rfl⟩ (fun hv => hfr hf hv) rfl rfl fun L' ha => ⟨rfl, hv, ho, cells, T, hcells, k3 L' ha⟩
          · intro L' ha
            simp only [Rep]
            exact ⟨_, ha.head, Nat.le_refl _, q, hq, fun _ => hcur hpg⟩
        · cases et1
      · cases et1
  · cases et

theorem takeAg_kept (h : Sim c I L s a w) (hi : ∀ b, I b → I' b) {cs : List Cell} {u u' : List Nat} {y : AV} {z : Value} {x : Val (rowsTy cs)} {rs : List Nat} (et : (takeAg c.E.toNames cs u y).run call s.rd = some ((x, u'), rs)) (hz : Rep (c.rc I' L w) L y z) (b0 : Nat) :
    ∃ src pls, Kept (c.rc I' L w) L I w b0 u u' (encRowH cs x) src pls ∧ pls.length = rowsN cs ∧ ∀ L', Agree L' b0 pls → Rep (c.rc I' L w) L' (.agg (encRow cs b0 x)) z := by
  unfold takeAg at et
  split at et
  · rename_i row
    simp only [Rep] at hz
    obtain ⟨cells, rfl, hrow⟩ := hz
    obtain ⟨src, pls, k1, k2, k3⟩ := takeRow_kept h hi cs _ _ row x _ _ b0 et hrow
    refine ⟨src, pls, k1, k2, fun L' ha => ?_⟩
    simp only [Rep]
    exact ⟨cells, rfl, k3 L' ha⟩
  · cases et

/-- a piece of an object's own, told anew -/
theorem takeBor_kept (h : Sim c I L s a w) {t : Ty} {k q : Nat} {y : AV} {z : Value} {x : Nat × Nat × Nat} {rs : List Nat} (et : (takeBor t k q y).run call s.rd = some (x, rs)) (hz : Rep (c.rc I' L w) L y z) :
    ∀ L', Fresh L L' → Rep (c.rc I' L w) L' (.lsl t (.o k x.1 q) x.2.1 x.2.2 0) z := by
  intro L' hfr
  unfold takeBor at et
  split at et
  · rename_i t0 k' i q' lo n g
    split at et
    · rename_i hc
      simp only [Bool.and_eq_true] at hc
      obtain ⟨⟨h1, h2⟩, h3⟩ := hc
      have h1 := Nat.eq_of_beq_eq_true h1
      have h2 := Nat.eq_of_beq_eq_true h2
      subst h1; subst h2
      obtain ⟨b, l', hb, et1, rfl⟩ := HM.run_rd et
      split at et1
      · rename_i hg
        split at et1
        · rename_i t' l hct
          split at et1
          · rename_i htt
            subst htt
            obtain ⟨rfl, rfl⟩ := HM.run_ret et1
            simp only [Rep] at hz ⊢
            obtain ⟨p, hp, hw, hge, ad, cap, hv, hcap, hsome, hcur⟩ := hz
            obtain ⟨hk, _⟩ := h.get hp hb
            refine ⟨_, hfr _ _ _ p hp, ?_, Nat.le_refl _, ad, cap, hv, hcap, hsome, fun _ => hcur (by rw [hk.1, hg])⟩
            have hk2 := hk.2
            rw [hct] at hk2
            rcases hk2 with ⟨_, _, e⟩ | ⟨_, e, _⟩
            · exact e
            · exact e
          · cases et1
        · cases et1
      · cases et1
    · cases et
  · obtain ⟨b, l', hb, et1, rfl⟩ := HM.run_rd et
    split at et1
    · rename_i cs l st gs hct
      split at et1
      · rename_i t' y' hq hsl
        split at et1
        · rename_i htt
          subst htt
          obtain ⟨hlt, et2⟩ := HM.run_chk et1
          have hlt := of_decide_eq_true hlt
          obtain ⟨rfl, rfl⟩ := HM.run_ret et2
          have hq : 0 < q := Nat.le_of_ble_eq_true hq
          obtain ⟨q, rfl⟩ := Nat.exists_eq_add_of_le' hq
          have hb' := rdv_l.1 (show rdv s.heap (.l k) = some b from hb)
          obtain ⟨t2, l2, hs2⟩ := slO_some (x := l.getD 0 (dfl (rowsTy cs))) (slO_own hsl)
          have := slO_same hs2 hsl
          subst this
          obtain ⟨v2, hv2⟩ : ∃ v2, rdv s.heap (.o k 0 (q + 1)) = some v2 ∧ (∃ l3, v2.ct = .sl t2 l3) := by
            simp only [rdv, hb', hct, if_pos hlt, viewV, hs2]
            refine ⟨_, rfl, ?_⟩
            split
            · exact ⟨_, rfl⟩
            · exact ⟨_, rfl⟩
          obtain ⟨hv2, l3, hc3⟩ := hv2
          obtain ⟨p, hp, hk, _⟩ := h.blk _ v2 hv2
          simp only [Rep] at hz ⊢
          refine ⟨_, hfr _ _ _ p hp, ?_, Nat.le_refl _, none, 0, hz, Nat.le_refl _, fun h0 => absurd rfl h0, fun _ => .inl rfl⟩
          have hk2 := hk.2
          rw [hc3] at hk2
          rcases hk2 with ⟨_, _, e⟩ | ⟨_, e, _⟩
          · exact e
          · exact e
        · cases et1
      · cases et1
    · cases et1
  · cases et

theorem decE_kept (h : Sim c I L s a w) (hi : ∀ b, I b → I' b) {hd : List Ref} (hh : ∀ id, id ∈ hd → ∀ p, L id = some p → p.virt = false → I' p.b) : ∀ (sl : List Slot) (env : List AV) (used : List Nat) (x : Val (slotsTy sl)) (rs : List Nat) (vs : List Value) (b0 : Nat), (decE' c.E.toNames hd sl used env).run call s.rd = some (x, rs) → RepL (c.rc I' L w) L env vs →
    ∃ used' src pls, Kept (c.rc I' L w) L I w b0 used used' (encHeap sl b0 x) src pls ∧ Shows (c.rc I' L w) L b0 (encEnv sl b0 x) vs pls
  | [], env, used, x, rs, vs, b0, e, hx => by
    cases env with
    | nil => exact ⟨used, [], [], Kept.nil, fun L' _ _ => by simpa only [encEnv, RepL] using hx⟩
    | cons y env => cases e
  | .dead :: sl, env, used, x, rs, vs, b0, e, hx => by
    cases env with
    | nil => cases e
    | cons y env =>
      simp only [decE', nextA] at e
      simp only [RepL] at hx
      obtain ⟨z, tl, rfl, hz, ht⟩ := hx
      obtain ⟨u', src, pls, h1, h2⟩ := decE_kept h hi hh sl env used x rs tl b0 e ht
      refine ⟨u', src, pls, h1, fun L' hp hfr => ?_⟩
      simp only [encEnv, RepL]
      exact ⟨z, tl, rfl, by simp [Rep], h2 L' hp hfr⟩
  | .data t :: sl, env, used, x, rs, vs, b0, e, hx => by
    cases env with
    | nil => cases e
    | cons y env =>
      simp only [decE', nextA] at e
      split at e
      · rename_i y' hy
        obtain ⟨r, r1, r2, e1, e2, rfl⟩ := HM.run_bind e
        obtain ⟨rfl, rfl⟩ := HM.run_ret e2
        simp only [RepL] at hx
        obtain ⟨z, tl, rfl, hz, ht⟩ := hx
        obtain ⟨u', src, pls, h1, h2⟩ := decE_kept h hi hh sl env used r _ tl b0 e1 ht
        refine ⟨u', src, pls, h1, fun L' hp hfr => ?_⟩
        simp only [encEnv, RepL]
        exact ⟨z, tl, rfl, decV_sound (R := c.rc I' L w) hy hz, h2 L' hp hfr⟩
      · cases e
  | .sl t :: sl, env, used, x, rs, vs, b0, e, hx => by
    cases env with
    | nil => cases e
    | cons y env =>
      simp only [decE', nextA] at e
      simp only [RepL] at hx
      obtain ⟨z, tl, rfl, hz, ht⟩ := hx
      obtain ⟨⟨l0, u'⟩, q1, q2, et, ek, rfl⟩ := HM.run_bind e
      simp only at ek
      obtain ⟨r, r1, r2, e1, e2, rfl⟩ := HM.run_bind ek
      obtain ⟨rfl, rfl⟩ := HM.run_ret e2
      obtain ⟨o, q, k1, k2⟩ := takeSl_kept h hi et hz b0
      obtain ⟨u2, src, pls, k3, k4⟩ := decE_kept h hi hh sl env u' r _ tl (b0 + 1) e1 ht
      refine ⟨u2, [o] ++ src, [q] ++ pls, k1.append k3, fun L' ha hfr => ?_⟩
      simp only [encEnv, RepL]
      exact ⟨z, tl, rfl, k2 L' (Agree.head ha), k4 L' (Agree.tail ha) hfr⟩
  | .cut t :: sl, env, used, x, rs, vs, b0, e, hx => by
    cases env with
    | nil => cases e
    | cons y env =>
      simp only [decE', nextA] at e
      simp only [RepL] at hx
      obtain ⟨z, tl, rfl, hz, ht⟩ := hx
      obtain ⟨⟨l0, u'⟩, q1, q2, et, ek, rfl⟩ := HM.run_bind e
      simp only at ek
      obtain ⟨r, r1, r2, e1, e2, rfl⟩ := HM.run_bind ek
      obtain ⟨rfl, rfl⟩ := HM.run_ret e2
      obtain ⟨o, q, k1, k2⟩ := takeCut_kept h hi et hz b0
      obtain ⟨u2, src, pls, k3, k4⟩ := decE_kept h hi hh sl env u' r _ tl (b0 + 1) e1 ht
      refine ⟨u2, [o] ++ src, [q] ++ pls, k1.append k3, fun L' ha hfr => ?_⟩
      simp only [encEnv, RepL]
      exact ⟨z, tl, rfl, k2 L' (Agree.head ha), k4 L' (Agree.tail ha) hfr⟩
  | .box cs :: sl, env, used, x, rs, vs, b0, e, hx => by
    cases env with
    | nil => cases e
    | cons y env =>
      simp only [decE', nextA] at e
      simp only [RepL] at hx
      obtain ⟨z, tl, rfl, hz, ht⟩ := hx
      obtain ⟨⟨l0, u'⟩, q1, q2, et, ek, rfl⟩ := HM.run_bind e
      simp only at ek
      obtain ⟨r, r1, r2, e1, e2, rfl⟩ := HM.run_bind ek
      obtain ⟨rfl, rfl⟩ := HM.run_ret e2
      obtain ⟨s1, p1, k1, kl, k2⟩ := takeBox_kept h hi hh et hz b0
      obtain ⟨u2, src, pls, k3, k4⟩ := decE_kept h hi hh sl env u' r _ tl (b0 + 1 + rowsN cs) e1 ht
      have hb : b0 + 1 + rowsN cs = b0 + p1.length := by rw [kl]; omega
      rw [hb] at k3 k4
      refine ⟨u2, s1 ++ src, p1 ++ pls, ?_, fun L' ha hfr => ?_⟩
      · simp only [encHeap]
        rw [hb]
        exact k1.append k3
      · simp only [encEnv, RepL]
        rw [hb]
        exact ⟨z, tl, rfl, k2 L' ha.left, k4 L' ha.right hfr⟩
  | .bor t k q :: sl, env, used, x, rs, vs, b0, e, hx => by
    cases env with
    | nil => cases e
    | cons y env =>
      simp only [decE', nextA] at e
      simp only [RepL] at hx
      obtain ⟨z, tl, rfl, hz, ht⟩ := hx
      obtain ⟨y', q1, q2, et, ek, rfl⟩ := HM.run_bind e
      obtain ⟨r, r1, r2, e1, e2, rfl⟩ := HM.run_bind ek
      obtain ⟨rfl, rfl⟩ := HM.run_ret e2
      have k2 := takeBor_kept (I' := I') h et hz
      obtain ⟨u2, src, pls, k3, k4⟩ := decE_kept h hi hh sl env used r _ tl b0 e1 ht
      refine ⟨u2, src, pls, k3, fun L' ha hfr => ?_⟩
      simp only [encEnv, RepL]
      exact ⟨z, tl, rfl, k2 L' hfr, k4 L' ha hfr⟩
  | .ag cs :: sl, env, used, x, rs, vs, b0, e, hx => by
    cases env with
    | nil => cases e
    | cons y env =>
      simp only [decE', nextA] at e
      simp only [RepL] at hx
      obtain ⟨z, tl, rfl, hz, ht⟩ := hx
      obtain ⟨⟨l0, u'⟩, q1, q2, et, ek, rfl⟩ := HM.run_bind e
      simp only at ek
      obtain ⟨r, r1, r2, e1, e2, rfl⟩ := HM.run_bind ek
      obtain ⟨rfl, rfl⟩ := HM.run_ret e2
      obtain ⟨s1, p1, k1, kl, k2⟩ := takeAg_kept h hi et hz b0
      obtain ⟨u2, src, pls, k3, k4⟩ := decE_kept h hi hh sl env u' r _ tl (b0 + rowsN cs) e1 ht
      rw [← kl] at k3 k4
      refine ⟨u2, s1 ++ src, p1 ++ pls, ?_, fun L' ha hfr => ?_⟩
      · simp only [encHeap]
        rw [← kl]
        exact k1.append k3
      · simp only [encEnv, RepL]
        rw [← kl]
        exact ⟨z, tl, rfl, k2 L' ha.left, k4 L' ha.right hfr⟩

end


end Go.Eng

/-
  The abstract machine, part 23b: a state told as plain data.
-/
namespace Go.Eng

theorem tabOf_inv {call : CallF} {h : Ref → Option Blk} {cs : List Cell} {b : Blk} {l : List (Val (rowsTy cs))} {rs : List Nat} (e : (tabOf cs b).run call h = some (l, rs)) : ∃ gs, b.ct = .tab cs l [] gs := by
  unfold tabOf at e
  split at e
  · rename_i cs' l' st gs hct
    split at e
    · rename_i hc
      subst hc
      cases hs : st.isEmpty with
      | false => simp only [hs] at e; cases e
      | true =>
        simp only [hs] at e
        obtain ⟨h1, _⟩ := HM.run_ret e
        have hst : st = [] := by simpa using hs
        subst hst
        have h1 : l = l' := h1
        subst h1
        exact ⟨gs, hct⟩
    · cases e
  · cases e

theorem decTabs_sound {call : CallF} {s : St} {ks : List (List Cell)} : ∀ {tk : List Nat} {t : Val (tabsTy ks tk)} {rs : List Nat}, (decTabs ks tk).run call s.rd = some (t, rs) →
    ∀ (j k : Nat), tk[j]? = some k → ∃ b l gs, s.heap[k]? = some (some b) ∧ b.ct = .tab (ks.getD k []) l [] gs ∧ (encTabs ks tk t)[j]? = some (tabB (ks.getD k []) l)
  | [], _, _, _, j, k, hj => by simp at hj
  | k0 :: r, t, rs, e, j, k, hj => by
    simp only [decTabs] at e
    obtain ⟨b, l', hb, e1, rfl⟩ := HM.run_rd e
    obtain ⟨l, r1, r2, e2, e3, rfl⟩ := HM.run_bind e1
    obtain ⟨z, r3, r4, e4, e5, rfl⟩ := HM.run_bind e3
    obtain ⟨h1, rfl⟩ := HM.run_ret e5
    subst h1
    obtain ⟨gs, hct⟩ := tabOf_inv e2
    cases j with
    | zero =>
      simp only [List.getElem?_cons_zero, Option.some.injEq] at hj
      subst hj
      exact ⟨b, l, gs, rdv_l.1 (show rdv s.heap (.l k0) = some b from hb), hct, rfl⟩
    | succ j =>
      obtain ⟨b', l', gs', g1, g2, g3⟩ := decTabs_sound e4 j k (by simpa using hj)
      exact ⟨b', l', gs', g1, g2, by simpa [encTabs] using g3⟩

theorem noTabs_sound {call : CallF} {s : St} : ∀ {l : List Nat} {u : Unit} {rs : List Nat}, (noTabs l).run call s.rd = some (u, rs) → ∀ k, k ∈ l → ∃ b cs st gs, s.heap[k]? = some (some b) ∧ b.ct = .tab cs [] st gs
  | [], _, _, _, k, hk => by cases hk
  | k0 :: r, u, rs, e, k, hk => by
    simp only [noTabs] at e
    obtain ⟨b, l', hb, e1, rfl⟩ := HM.run_rd e
    split at e1
    · rename_i cs l st gs hct
      cases l with
      | cons _ _ => cases e1
      | nil =>
        simp only at e1
        rcases List.mem_cons.1 hk with rfl | hk
        · exact ⟨b, cs, st, gs, rdv_l.1 (show rdv s.heap (.l k) = some b from hb), hct⟩
        · exact noTabs_sound e1 k hk
    · cases e1

theorem mem_others {n k : Nat} {tk : List Nat} (h1 : k < n) (h2 : k ∉ tk) : k ∈ others n tk := by
  unfold others
  rw [List.mem_filter, List.mem_range]
  refine ⟨h1, ?_⟩
  cases hb : tk.any (Nat.beq k) with
  | true => exact absurd (any_beq.1 hb) h2
  | false => rfl

/-- an object's row, in a reading that goes on -/
theorem rowO_le {R R' : RC} {L L' : Ref → Option Pl} (h : RLe R R') {k i : Nat} {gs gs' : List Nat}
    (hq : ∀ q p, L (.o k i q) = some p → 1 ≤ q → p.gen = gs.getD q 0 ∧ L' (.o k i q) = some { p with gen := gs'.getD q 0 }) : ∀ {cs : List Cell} {q : Nat} {x : Val (rowsTy cs)} {ys : List Value}, 1 ≤ q →
    RepL R L (rowO k i (fun q => decide ((q, i) ∈ ([] : List (Nat × Nat)))) gs cs q x) ys → RepL R' L' (rowO k i (fun q => decide ((q, i) ∈ ([] : List (Nat × Nat)))) gs' cs q x) ys
  | [], _, _, _, _, h => h
  | .d t :: r, q, x, ys, h1, hx => by
    simp only [rowO] at hx ⊢
    obtain ⟨c, d, rfl, hc, hd⟩ := hx.split
    exact (RepL.ofT t (RepT.mono h t (RepL.toT t hc))).append (rowO_le h hq h1 hd)
  | .sl t :: r, q, x, ys, h1, hx => by
    simp only [rowO, RepL] at hx ⊢
    obtain ⟨y, tl, rfl, hy, ht⟩ := hx
    refine ⟨y, tl, rfl, ?_, rowO_le h hq (by omega) ht⟩
    simp only [List.not_mem_nil, decide_false, Rep] at hy ⊢
    obtain ⟨p, hp, hw, hge, ad, cap, hv, hcap, hsome, hcur⟩ := hy
    obtain ⟨hg, hp'⟩ := hq q p hp h1
    exact ⟨_, hp', hw, Nat.le_refl _, ad, cap, hv, hcap, hsome, fun _ => hcur hg⟩

section
variable {c : Ctx} {I : Nat → Prop} {L : Ref → Option Pl} {s : St} {a : Act} {w : World} {call : CallF}

/-- the places of a state that is told as plain data -/
def freshL (nk b0 : Nat) (L : Ref → Option Pl) (pls : List Pl) : Ref → Option Pl
  | .l id => if id < nk then some ⟨0, 0, 0, 0, 0, true⟩ else if b0 ≤ id then pls[id - b0]? else none
  | .o k i q => (L (.o k i q)).map fun p => { p with gen := 0 }

/-- A STATE TOLD AS PLAIN DATA stands for all that it stood for. -/
theorem dec_sim (h : Sim c I L s a w) {tk : List Nat} {sl : List Slot} {x : StV c.E tk sl} {rs : List Nat} {b0 : Nat} (hb0 : c.E.kinds.length ≤ b0) (hnd : tk.Nodup) (hlt : ∀ k, k ∈ tk → k < c.E.kinds.length)
    (e : (decSlots c.E tk sl s).run call s.rd = some (x, rs)) : ∃ I2 L2, Sim c I2 L2 (encAt c.E tk sl b0 x) a w := by
  unfold decSlots at e
  obtain ⟨⟨env, ids⟩, r1, r2, e1, e2, rfl⟩ := HM.run_bind e
  simp only at e2
  cases hall : (ids.all Ref.isL && (s.heap.drop c.E.kinds.length).all noTab) with
  | false => simp only [hall] at e2; cases e2
  | true =>
  simp only [hall] at e2
  simp only [Bool.and_eq_true, List.all_eq_true] at hall
  obtain ⟨hidL, hnoT⟩ := hall
  obtain ⟨u, r3, r4, e3, e4, rfl⟩ := HM.run_bind e2
  obtain ⟨t, r5, r6, e5, e6, rfl⟩ := HM.run_bind e4
  obtain ⟨y, r7, r8, e7, e8, rfl⟩ := HM.run_bind e6
  obtain ⟨hx, rfl⟩ := HM.run_ret e8
  subst hx
  obtain ⟨_, g2⟩ := expA_sound h e1 h.env
  have hi : ∀ b, I b → heldBy I L ids b := fun b hb => .inl hb
  have hh : ∀ id, id ∈ ids → ∀ p, L id = some p → p.virt = false → heldBy I L ids p.b := fun id hid p hp hv => .inr ⟨id, p, hid, hp, hv, rfl⟩
  have hrep := g2 (heldBy I L ids) hi hh
  obtain ⟨used', src, pls, hk, hs⟩ := decE_kept h hi hh sl _ _ _ _ _ b0 e7 hrep
  have htab := decTabs_sound e5
  have hnone := noTabs_sound e3
  obtain ⟨hp, hhp⟩ : ∃ hp, hp = encHeap sl b0 y := ⟨_, rfl⟩
  obtain ⟨T, hT⟩ : ∃ T, T = encTabs c.E.kinds tk t := ⟨_, rfl⟩
  rw [← hhp] at hk
  rw [← hT] at htab
  show ∃ I2 L2, Sim c I2 L2 ⟨encEnv sl b0 y, outH c.E tk (encTabs c.E.kinds tk t) b0 (encHeap sl b0 y)⟩ a w
  rw [← hhp, ← hT]
  -- the heap
  have hTk : ∀ k, k ∈ tk → ∃ b cs l gs, s.heap[k]? = some (some b) ∧ b.ct = .tab cs l [] gs ∧ (outH c.E tk T b0 hp)[k]? = some (some (tabB cs l)) := by
    intro k hkk
    obtain ⟨j, hj, ek⟩ := List.getElem_of_mem hkk
    have hj' : tk[j]? = some k := by rw [List.getElem?_eq_getElem hj, ek]
    obtain ⟨b, l, gs, g1, g2, g3⟩ := htab j k hj'
    refine ⟨b, _, l, gs, g1, g2, ?_⟩
    rw [outH_tab (hlt k hkk)]
    exact putK_at _ tk T j k _ hnd (fun k hk => by simpa using hlt k hk) hj' g3
  have hTn : ∀ k, k < c.E.kinds.length → k ∉ tk → ∃ cs, (outH c.E tk T b0 hp)[k]? = some (some (tab0 cs)) := by
    intro k hkl hkk
    refine ⟨c.E.kinds[k], ?_⟩
    rw [outH_tab hkl]
    unfold entryH
    rw [putK_other _ tk _ k hkk, List.getElem?_map, List.getElem?_eq_getElem hkl]
    rfl
  have hTm : ∀ id, c.E.kinds.length ≤ id → id < b0 → ∀ b, (outH c.E tk T b0 hp)[id]? = some (some b) → False := by
    intro id h1 h2 b hb
    unfold outH at hb
    rw [List.append_assoc, List.getElem?_append_right (by rw [entryH_length]; exact h1), entryH_length, List.getElem?_append_left (by simp; omega), List.getElem?_replicate] at hb
    split at hb <;> simp at hb
  have hTb : ∀ id, b0 ≤ id → (outH c.E tk T b0 hp)[id]? = hp[id - b0]? := by
    intro id h1
    have := outH_new (E := c.E) (ks := tk) (ts := T) (hp := hp) hb0 (id - b0)
    rw [show b0 + (id - b0) = id from by omega] at this
    exact this
  have hTt : ∀ k b, c.E.kinds.length ≤ k → (outH c.E tk T b0 hp)[k]? = some (some b) → b.isTab = false := by
    intro k b h1 hb
    rcases Nat.lt_or_ge k b0 with h2 | h2
    · exact (hTm k h1 h2 b hb).elim
    · rw [hTb k h2] at hb
      obtain ⟨B, p, hx, _, hz, _⟩ := hk.blk _ _ hb
      injection hx with hx
      subst hx
      exact hz
  have hno : ∀ k i q p, L (.o k i q) = some p → k ∈ tk := by
    intro k i q p hp0
    apply Classical.byContradiction
    intro hkk
    obtain ⟨x, hx⟩ := h.dom _ p hp0
    rcases Nat.lt_or_ge k c.E.kinds.length with hkl | hkl
    · obtain ⟨b, cs, st, gs, g1, g2⟩ := hnone k (mem_others hkl hkk)
      simp only [rdv, g1, g2, List.length_nil, Nat.not_lt_zero, if_false] at hx
      cases hx
    · simp only [rdv] at hx
      split at hx
      · rename_i b hb
        have := hnoT (some b) (List.mem_of_getElem? (show (s.heap.drop c.E.kinds.length)[k - c.E.kinds.length]? = some (some b) by rw [List.getElem?_drop, show c.E.kinds.length + (k - c.E.kinds.length) = k from by omega]; exact hb))
        simp only [noTab, Bool.not_eq_true'] at this
        unfold Blk.isTab at this
        split at hx
        · rename_i hct
          rw [hct] at this
          cases this
        · cases hx
      · cases hx
  -- the places
  obtain ⟨L2, hL2⟩ : ∃ L2, L2 = freshL c.E.kinds.length b0 L pls := ⟨_, rfl⟩
  have L2t : ∀ id, id < c.E.kinds.length → L2 (.l id) = some ⟨0, 0, 0, 0, 0, true⟩ := fun id h1 => by rw [hL2]; exact if_pos h1
  have L2b : ∀ id, b0 ≤ id → L2 (.l id) = pls[id - b0]? := fun id h1 => by
    rw [hL2]
    show (if id < c.E.kinds.length then _ else _) = _
    rw [if_neg (by omega), if_pos h1]
  have L2m : ∀ id, c.E.kinds.length ≤ id → id < b0 → L2 (.l id) = none := fun id h1 h2 => by
    rw [hL2]
    show (if id < c.E.kinds.length then _ else _) = _
    rw [if_neg (by omega), if_neg (by omega)]
  have L2o : ∀ k i q, L2 (.o k i q) = (L (.o k i q)).map fun p => { p with gen := 0 } := fun k i q => by rw [hL2]; rfl
  have hag : Agree L2 b0 pls := fun j p hj => by rw [L2b _ (Nat.le_add_right _ _), Nat.add_sub_cancel_left]; exact hj
  have hfr : Fresh L L2 := fun k i q p hp0 => by rw [L2o, hp0]; rfl
  have hH : hOf L2 = hOf L := by
    funext k i
    simp only [hOf, L2o]
    cases L (.o k i 0) <;> rfl
  have hR : c.rc (heldBy I L ids) L2 w = c.rc (heldBy I L ids) L w := by
    unfold Ctx.rc rcW
    rw [hH]
  have hrle : RLe (c.rc I L w) (c.rc (heldBy I L ids) L2 w) := by
    rw [hR]
    exact rle_of_heap hi (fun _ _ => rfl) (LLe.refl L)
  have hheld : ∀ k i q p, L (.o k i q) = some p → p.virt = false → ¬ I p.b → ¬ heldBy I L ids p.b := by
    intro k i q p hp0 hv hI hx
    rcases hx with hx | ⟨id, p', hid, hp', hv', hbb⟩
    · exact hI hx
    · have := h.inj _ _ p p' hp0 hp' hv hv' hbb
      subst this
      have := hidL _ hid
      simp [Ref.isL] at this
  have hsrc : ∀ (b : Nat) (q : Pl), pls[b]? = some q → q.virt = false → ∃ id p, src[b]? = some (some id) ∧ id ∉ lids ids ∧ L (.l id) = some p ∧ q.b = p.b ∧ p.virt = false ∧ ¬ I p.b := by
    intro b q hq hv
    have hlt : b < src.length := by rw [← hk.len.1]; exact (List.getElem?_eq_some_iff.1 hq).1
    cases hsb : src[b]? with
    | none => rw [List.getElem?_eq_none_iff] at hsb; omega
    | some o =>
      cases o with
      | none =>
        obtain ⟨q', hq', hv'⟩ := hk.virt b hsb
        rw [hq] at hq'
        injection hq' with hq'
        subst hq'
        rw [hv] at hv'
        cases hv'
      | some id =>
        obtain ⟨h1, _, p, q', h2, h3, h4, h5, h6⟩ := hk.own b id hsb
        rw [hq] at h3
        injection h3 with h3
        subst h3
        have hpv : p.virt = false := by rw [← h5]; exact hv
        exact ⟨id, p, rfl, h1, h2, h4, hpv, h6 hpv⟩
  have hmem : ∀ id, Ref.l id ∈ ids → id ∈ lids ids := by
    intro id
    generalize ids = l
    induction l with
    | nil => intro h0; cases h0
    | cons r l ih =>
      intro h0
      cases r with
      | l id' =>
        simp only [lids, List.mem_cons] at h0 ⊢
        rcases h0 with h0 | h0
        · injection h0 with h0; exact .inl h0
        · exact .inr (ih h0)
      | o k i q =>
        simp only [lids, List.mem_cons] at h0 ⊢
        rcases h0 with h0 | h0
        · cases h0
        · exact ih h0
  -- an object's blocks
  have hobj : ∀ k i q x, rdv (outH c.E tk T b0 hp) (.o k i q) = some x → ∃ p, L (.o k i q) = some p ∧ (p.virt = false → ¬ I p.b) ∧ x.frozen = false ∧ BlkOK (c.rc (heldBy I L ids) L2 w) L2 w { p with gen := 0 } x := by
    intro k i q x hx
    have hkl : k < c.E.kinds.length := by
      apply Classical.byContradiction
      intro hkl
      simp only [rdv] at hx
      split at hx
      · rename_i b hb
        have := hTt k b (by omega) hb
        unfold Blk.isTab at this
        split at hx
        · rename_i hct
          rw [hct] at this
          cases this
        · cases hx
      · cases hx
    by_cases hkk : k ∈ tk
    · obtain ⟨b, cs, l, gs, h1, h2, h4⟩ := hTk k hkk
      simp only [rdv, h4, tabB] at hx
      split at hx
      rotate_left
      · cases hx
      rename_i hil
      cases q with
      | zero =>
        simp only [viewV, Option.some.injEq] at hx
        subst hx
        have hbox : rdv s.heap (.o k i 0) = some { ct := objCt k i (fun q => decide ((q, i) ∈ ([] : List (Nat × Nat)))) gs cs (l.getD i (dfl (rowsTy cs))), gen := 0, frozen := false } := by
          simp only [rdv, h1, h2, if_pos hil, viewV]
        obtain ⟨p, hp0, hkk', hf⟩ := h.blk _ _ hbox
        refine ⟨p, hp0, hf rfl, rfl, ?_⟩
        obtain ⟨e1, hkk'⟩ := hkk'
        refine ⟨rfl, ?_⟩
        cases hm : mapL cs (l.getD i (dfl (rowsTy cs))) with
        | none =>
          simp only [objCt, hm] at hkk' ⊢
          obtain ⟨e2, e3, cc, T, e4, e5⟩ := hkk'
          refine ⟨e2, e3, cc, T, e4, ?_⟩
          refine rowO_le hrle (fun q p hp1 hq => ?_) (Nat.le_refl 1) e5
          obtain ⟨_, _, hg⟩ := slice_gen h h1 h2 hp1
          refine ⟨(hg hq).1, ?_⟩
          rw [L2o, hp1, zeros_getD]
          rfl
        | some m =>
          obtain ⟨ka, kb, kl, kc, rfl⟩ := mapL_some hm
          simp only [objCt, hm] at hkk' ⊢
          obtain ⟨e2, e3, es, e4, e5⟩ := hkk'
          exact ⟨e2, e3, es, e4, e5.mono hrle⟩
      | succ q =>
        simp only [viewV] at hx
        split at hx
        rotate_left
        · cases hx
        rename_i ty y' hsl
        simp only [List.not_mem_nil, if_false, Option.some.injEq, zeros_getD] at hx
        subst hx
        have hsl0 : rdv s.heap (.o k i (q + 1)) = some { ct := .sl ty y', gen := gs.getD (q + 1) 0, frozen := false } := by
          simp only [rdv, h1, h2, if_pos hil, viewV, hsl, List.not_mem_nil, if_false]
        obtain ⟨p, hp0, hkk', hf⟩ := h.blk _ _ hsl0
        refine ⟨p, hp0, hf rfl, rfl, rfl, ?_⟩
        rcases hkk'.2 with ⟨e1, e2, e3⟩ | ⟨e1, e2, cc, T, e3, e4, e5, e6⟩
        · exact .inl ⟨e1, e2, e3⟩
        · refine .inr ⟨e1, e2, cc, T, e3, e4, e5, fun j hj => ?_⟩
          obtain ⟨d, hd, hda⟩ := e6 j hj
          exact ⟨d, hd.mono hrle, hda⟩
    · exfalso
      obtain ⟨cs, h1⟩ := hTn k hkl hkk
      simp only [rdv, h1, tab0, List.length_nil, Nat.not_lt_zero, if_false] at hx
      cases hx
  refine ⟨heldBy I L ids, L2, ?_, h.defers, fun r x hx => ?_, fun r p hp0 => ?_, fun r p hp0 hv => ?_, fun r r' p p' hp0 hp0' hv hv' hbb => ?_, fun b hb => ?_, fun b hb => .inl (h.i0 b hb), fun b hb => ?_, h.same, h.fix, fun k i p hp0 => ?_, h.grow, h.io⟩
  · rw [hR]
    exact hs L2 hag hfr
  · cases r with
    | l id =>
      have hx' := rdv_l.1 hx
      rcases Nat.lt_or_ge id c.E.kinds.length with hkl | hkl
      · refine ⟨_, L2t id hkl, ?_, fun _ hv => by cases hv⟩
        by_cases hkk : id ∈ tk
        · obtain ⟨b, cs, l, gs, h1, h2, h4⟩ := hTk id hkk
          simp only at hx'
          rw [h4] at hx'
          injection hx' with hx'
          injection hx' with hx'
          subst hx'
          exact ⟨rfl, rfl⟩
        · obtain ⟨cs, h4⟩ := hTn id hkl hkk
          simp only at hx'
          rw [h4] at hx'
          injection hx' with hx'
          injection hx' with hx'
          subst hx'
          exact ⟨rfl, rfl⟩
      · rcases Nat.lt_or_ge id b0 with h2 | h2
        · exact (hTm id hkl h2 x hx').elim
        · simp only at hx'
          rw [hTb id h2] at hx'
          obtain ⟨B', p, hx2, hz, _, hp0, hB'⟩ := hk.blk _ _ hx'
          injection hx2 with hx2
          subst hx2
          refine ⟨p, by rw [L2b id h2]; exact hp0, by rw [hR]; exact hB' _ hag, fun _ hv hI => ?_⟩
          obtain ⟨id1, p0, _, hid, hp1, hb1, hv1, hI1⟩ := hsrc _ p hp0 hv
          rcases hI with hI | ⟨r2, p2, hid2, hp2, hv2, hb2⟩
          · rw [hb1] at hI; exact hI1 hI
          · have := h.inj _ _ p0 p2 hp1 hp2 hv1 hv2 (by rw [← hb1]; exact hb2)
            subst this
            exact hid (hmem _ hid2)
    | o k i q =>
      obtain ⟨p, hp0, hI, hz, hkk⟩ := hobj k i q x hx
      exact ⟨_, hfr _ _ _ p hp0, hkk, fun _ hv => hheld k i q p hp0 hv (hI hv)⟩
  · cases r with
    | l id =>
      rcases Nat.lt_or_ge id c.E.kinds.length with hkl | hkl
      · by_cases hkk : id ∈ tk
        · obtain ⟨b, cs, l, gs, h1, h2, h4⟩ := hTk id hkk
          exact ⟨_, rdv_l.2 h4⟩
        · obtain ⟨cs, h4⟩ := hTn id hkl hkk
          exact ⟨_, rdv_l.2 h4⟩
      · rcases Nat.lt_or_ge id b0 with h2 | h2
        · rw [L2m id hkl h2] at hp0; cases hp0
        · rw [L2b id h2] at hp0
          have hlt : id - b0 < hp.length := by rw [← hk.len.2, ← hk.len.1]; exact (List.getElem?_eq_some_iff.1 hp0).1
          have hB := List.getElem?_eq_getElem hlt
          obtain ⟨B, p', hx, _⟩ := hk.blk _ _ hB
          exact ⟨B, rdv_l.2 (by simp only; rw [hTb id h2, hB, hx])⟩
    | o k i q =>
      rw [L2o] at hp0
      obtain ⟨p0, hp1, rfl⟩ := Option.map_eq_some_iff.1 hp0
      obtain ⟨b, cs, l, gs, h1, h2, h4⟩ := hTk k (hno k i q p0 hp1)
      obtain ⟨hil, _, hq⟩ := slice_gen h h1 h2 hp1
      simp only [rdv, h4, tabB, if_pos hil]
      cases q with
      | zero => exact ⟨_, rfl⟩
      | succ q =>
        obtain ⟨_, _, ty, y', hsl, _⟩ := hq (by omega)
        simp only [viewV, hsl]
        exact ⟨_, rfl⟩
  · cases r with
    | l id =>
      rcases Nat.lt_or_ge id c.E.kinds.length with hkl | hkl
      · rw [L2t id hkl] at hp0
        injection hp0 with hp0
        subst hp0
        cases hv
      · rcases Nat.lt_or_ge id b0 with h2 | h2
        · rw [L2m id hkl h2] at hp0; cases hp0
        · rw [L2b id h2] at hp0
          obtain ⟨id1, p0, _, _, hp1, hb1, hv1, _⟩ := hsrc _ p hp0 hv
          rw [hb1]
          exact h.own _ p0 hp1 hv1
    | o k i q =>
      rw [L2o] at hp0
      obtain ⟨p0, hp1, rfl⟩ := Option.map_eq_some_iff.1 hp0
      exact h.own _ p0 hp1 hv
  · -- from where a place is
    have hfrom : ∀ r p, L2 r = some p → p.virt = false → ∃ r0 p0, L r0 = some p0 ∧ p0.virt = false ∧ p.b = p0.b ∧ (r = r0 ∧ r.isL = false ∨ ∃ id id1, r = .l id ∧ r0 = .l id1 ∧ b0 ≤ id ∧ src[id - b0]? = some (some id1)) := by
      intro r p hp0 hv
      cases r with
      | l id =>
        rcases Nat.lt_or_ge id c.E.kinds.length with hkl | hkl
        · rw [L2t id hkl] at hp0
          injection hp0 with hp0
          subst hp0
          cases hv
        · rcases Nat.lt_or_ge id b0 with h2 | h2
          · rw [L2m id hkl h2] at hp0; cases hp0
          · rw [L2b id h2] at hp0
            obtain ⟨id1, p0, hs0, _, hp1, hb1, hv1, _⟩ := hsrc _ p hp0 hv
            exact ⟨.l id1, p0, hp1, hv1, hb1, .inr ⟨id, id1, rfl, rfl, h2, hs0⟩⟩
      | o k i q =>
        rw [L2o] at hp0
        obtain ⟨p0, hp1, rfl⟩ := Option.map_eq_some_iff.1 hp0
        exact ⟨.o k i q, p0, hp1, hv, rfl, .inl ⟨rfl, rfl⟩⟩
    obtain ⟨r0, p0, a1, a2, a3, a4⟩ := hfrom r p hp0 hv
    obtain ⟨r0', p0', b1, b2, b3, b4⟩ := hfrom r' p' hp0' hv'
    have := h.inj _ _ p0 p0' a1 b1 a2 b2 (by rw [← a3, ← b3]; exact hbb)
    subst this
    rcases a4 with ⟨rfl, a5⟩ | ⟨id, id1, rfl, rfl, a5, a6⟩ <;> rcases b4 with ⟨rfl, b5⟩ | ⟨id', id1', rfl, e', b5, b6⟩
    · rfl
    · rw [e'] at a5; cases a5
    · cases b5
    · injection e' with e'
      subst e'
      have := hk.inj _ _ id1 a6 b6
      rw [show id = id' from by omega]
  · rcases hb with hb | ⟨id, p, _, hp0, hv, rfl⟩
    · exact h.imm b hb
    · exact (h.own id p hp0 hv).2
  · rcases hb with hb | ⟨id, p, _, hp0, hv, rfl⟩
    · exact h.iN b hb
    · exact .inr (h.own id p hp0 hv).1
  · have h0 := h.bx k i p hp0
    obtain ⟨b, cs, l, gs, h1, h2, _⟩ := hTk k (hno k i 0 p h0)
    have := (slice_gen h h1 h2 h0).2.1 rfl
    rw [L2o, h0, Option.map_some, ← this]

end

/-- which kinds: each once, and there -/
def KindsOK (E : Env) (tk : List Nat) : Prop := tk.Nodup ∧ ∀ k, k ∈ tk → k < E.kinds.length

theorem decSlots_ref {P : Program} {E : Env} {S : Ini} {tk : List Nat} (hK : KindsOK E tk) {sl : List Slot} {s : St} {x : StV E tk sl} {rs : List Nat} {call : CallF} (e : (decSlots E tk sl s).run call s.rd = some (x, rs)) : May P E S s (encSlots E tk sl x) := by
  intro w0 Rt B Ds I0 I L a w h
  exact dec_sim (c := ⟨P, E, S, w0, I0, Rt, B, Ds⟩) h (Nat.le_refl _) hK.1 hK.2 e

end Go.Eng
