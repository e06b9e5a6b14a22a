/-
  The abstract machine, part 4: when an abstract state stands for a machine's; how a world may go on.
-/
import Derived.Test.YtohkmbpdjigjdaaDoorLgEngC
namespace Go.Eng

structure Ctx where
  P : Program
  E : Env
  S : Nat → Addr
  w0 : World
  I0 : Nat → Prop

/-- the program's errors, by the table of its listed variables -/
def statOf (E : Env) (S : Nat → Addr) : Stat := ⟨S, E.toNames, fun g => E.glob g = some [.er (.s g)]⟩
def rcW (T : Stat) (I : Nat → Prop) (w : World) : RC := ⟨fun b o => w.cell? ⟨b, o, none⟩, I, T⟩
def Ctx.rc (c : Ctx) (I : Nat → Prop) (w : World) : RC := rcW (statOf c.E c.S) I w

abbrev noL : Nat → Option Pl := fun _ => none

def BlkOK (R : RC) (L : Nat → Option Pl) (w : World) (p : Pl) (b : Blk) : Prop :=
  p.gen = b.gen ∧ match b.ct with
  | .box row => p.virt = false ∧ p.o = 0 ∧ ∃ cs T, w.heap[p.b]? = some (.cells cs T (0, 0)) ∧ RepL R L row cs.toList
  | .sl t l => (p.virt = true ∧ l = []) ∨ (p.virt = false ∧ p.w = t.size ∧ ∃ cs T, w.heap[p.b]? = some (.cells cs T (0, 0)) ∧ cs.size = p.size ∧ p.o + l.length * p.w ≤ p.size ∧
      ∀ i, i < l.length → ∃ d, RepT R t (l.getD i (dfl t)) d ∧ At R d p.b (p.o + i * p.w))

/-- nothing is said to the world outside -/
def IO (w w' : World) : Prop := w'.os = w.os ∧ w'.tape = w.tape ∧ w'.output = w.output

theorem IO.refl (w : World) : IO w w := ⟨rfl, rfl, rfl⟩
theorem IO.trans {a b c : World} (h : IO a b) (k : IO b c) : IO a c := ⟨k.1.trans h.1, k.2.1.trans h.2.1, k.2.2.trans h.2.2⟩

structure Sim (c : Ctx) (I : Nat → Prop) (L : Nat → Option Pl) (s : St) (a : Act) (w : World) : Prop where
  env : RepL (c.rc I w) L s.env a.tmps.toList
  defers : a.defers = []
  blk : ∀ id b, s.heap[id]? = some (some b) → ∃ p, L id = some p ∧ BlkOK (c.rc I w) L w p b ∧ (b.frozen = false → p.virt = false → ¬ I p.b)
  dom : ∀ id p, L id = some p → ∃ b, s.heap[id]? = some (some b)
  own : ∀ id p, L id = some p → p.virt = false → c.w0.heap.size ≤ p.b ∧ p.b < w.heap.size
  inj : ∀ id id' p p', L id = some p → L id' = some p' → p.virt = false → p'.virt = false → p.b = p'.b → id = id'
  imm : ∀ b, I b → b < w.heap.size
  i0 : ∀ b, c.I0 b → I b
  iN : ∀ b, I b → c.I0 b ∨ c.w0.heap.size ≤ b
  same : ∀ b, b < c.w0.heap.size → w.heap[b]? = c.w0.heap[b]?
  grow : c.w0.heap.size ≤ w.heap.size
  io : IO c.w0 w

section
variable {c : Ctx} {I : Nat → Prop} {L : Nat → Option Pl} {s : St} {a : Act} {w : World}

theorem cell?_heap {w w' : World} (b o : Nat) (h : w'.heap[b]? = w.heap[b]?) : w'.cell? ⟨b, o, none⟩ = w.cell? ⟨b, o, none⟩ := by
  simp only [World.cell?, h]

theorem cell?_cells {w : World} {b o : Nat} {cs : Array Value} {T : TypeId} {fz : Nat × Nat} (h : w.heap[b]? = some (.cells cs T fz)) : w.cell? ⟨b, o, none⟩ = cs[o]? := by
  simp [World.cell?, h]

/-- a world that is the same but for the blocks that somebody may change -/
theorem rle_of_heap {T : Stat} {I I' : Nat → Prop} {w w' : World} (hi : ∀ b, I b → I' b) (h : ∀ b, I b → w'.heap[b]? = w.heap[b]?) :
    RLe (rcW T I w) (rcW T I' w') :=
  ⟨hi, fun b o hb => cell?_heap b o (h b hb), rfl⟩

theorem Sim.size (h : Sim c I L s a w) : a.tmps.size = s.env.length := by
  have := h.env.length
  simpa using this

theorem getD_toList (xs : Array Value) (k : Nat) : xs.getD k undef = xs.toList.getD k undef := by
  simp [Array.getD_eq_getD_getElem?, List.getD_eq_getElem?_getD]

theorem Sim.tmp (h : Sim c I L s a w) (k : Nat) : Rep (c.rc I w) L (s.env.getD k .top) (a.tmps.getD k undef) := by
  rw [getD_toList, List.getD_eq_getElem?_getD, List.getD_eq_getElem?_getD]
  cases hk : s.env[k]? with
  | none => simp [Rep]
  | some x =>
    obtain ⟨y, hy, hr⟩ := h.env.get k x hk
    simpa [hy] using hr

theorem rep_const (R : RC) (L : Nat → Option Pl) (v : Value) : Rep R L (ofConst v) v := by
  unfold ofConst
  split
  · rename_i cs
    simp only [Rep]
    refine ⟨cs, rfl, RepL.mk (by simp) ?_⟩
    intro i x y hx hy
    simp only [List.getElem?_map, Option.map_eq_some_iff] at hx
    obtain ⟨z, hz, rfl⟩ := hx
    rw [hz] at hy
    injection hy with hy
    simp [Rep, hy]
  · simp [Rep]

theorem Sim.eval (h : Sim c I L s a w) (x : Operand) : Rep (c.rc I w) L (aeval s.env x) (a.eval x) := by
  cases x with
  | tmp t => exact h.tmp t
  | const v => exact rep_const _ _ v
  | global g => simp [aeval, Act.eval, Rep]
  | func f => simp only [aeval, Act.eval, Rep]; exact ⟨#[], #[], rfl, by simp [RepL], by simp [RepL]⟩

theorem Sim.evalL (h : Sim c I L s a w) : ∀ (xs : List Operand), RepL (c.rc I w) L (xs.map (aeval s.env)) (xs.map a.eval)
  | [] => by simp [RepL]
  | x :: r => by simp only [List.map_cons, RepL]; exact ⟨_, _, rfl, h.eval x, h.evalL r⟩

theorem RepL.set {R : RC} {L : Nat → Option Pl} : ∀ {l : List AV} {ys : List Value} (_ : RepL R L l ys) (k : Nat) {x : AV} {y : Value}, Rep R L x y → RepL R L (l.set k x) (ys.set k y)
  | [], _, h, _, _, _, _ => by simp only [RepL] at h; subst h; simp [RepL]
  | a :: r, _, h, k, x, y, hx => by
    simp only [RepL] at h
    obtain ⟨z, t, rfl, hz, ht⟩ := h
    cases k with
    | zero => simp only [List.set_cons_zero, RepL]; exact ⟨y, t, rfl, hx, ht⟩
    | succ k => simp only [List.set_cons_succ, RepL]; exact ⟨z, _, rfl, hz, ht.set k hx⟩

theorem Sim.put (h : Sim c I L s a w) (d : Option Tmp) {x : AV} {v : Value} (hx : Rep (c.rc I w) L x v) : Sim c I L ⟨putD s.env d x, s.heap⟩ (a.put d v) w := by
  cases d with
  | none => exact ⟨h.env, h.defers, h.blk, h.dom, h.own, h.inj, h.imm, h.i0, h.iN, h.same, h.grow, h.io⟩
  | some k =>
    refine ⟨?_, h.defers, h.blk, h.dom, h.own, h.inj, h.imm, h.i0, h.iN, h.same, h.grow, h.io⟩
    simp only [putD, Act.put, Array.toList_setIfInBounds]
    exact h.env.set k hx

theorem BlkOK.mono {R R' : RC} {L L' : Nat → Option Pl} {w w' : World} {p : Pl} {b : Blk} (hr : RLe R R') (hl : LLe L L') (hw : p.virt = false → w'.heap[p.b]? = w.heap[p.b]?)
    (hc : p.virt = false → ∀ o, R'.C p.b o = R.C p.b o) (h : BlkOK R L w p b) : BlkOK R' L' w' p b := by
  obtain ⟨hg, h⟩ := h
  refine ⟨hg, ?_⟩
  cases hct : b.ct with
  | box row =>
    rw [hct] at h
    obtain ⟨hv, ho, cs, T, hh, hrow⟩ := h
    exact ⟨hv, ho, cs, T, (hw hv).trans hh, RepL.mono hr hl hrow⟩
  | sl t l =>
    rw [hct] at h
    rcases h with h | ⟨hv, hpw, cs, T, hh, hs, hle, hi⟩
    · exact .inl h
    · refine .inr ⟨hv, hpw, cs, T, (hw hv).trans hh, hs, hle, fun i hlt => ?_⟩
      obtain ⟨d, hd, hat⟩ := hi i hlt
      exact ⟨d, hd.mono hr, fun j v hj => by rw [hc hv]; exact hat j v hj⟩

/-- A world that goes on: nothing that the state knows of has changed. More may be held for good. -/
theorem Sim.world (h : Sim c I L s a w) {I' : Nat → Prop} {w' : World} (hi : ∀ b, I b → I' b) (hs : w.heap.size ≤ w'.heap.size) (hw : ∀ b, b < w.heap.size → w'.heap[b]? = w.heap[b]?)
    (hn : ∀ b, I' b → b < w'.heap.size) (hm : ∀ b, I' b → I b ∨ w.heap.size ≤ b) (hio : IO w w') : Sim c I' L s a w' := by
  have hr : RLe (c.rc I w) (c.rc I' w') := rle_of_heap hi fun b hb => hw b (h.imm b hb)
  refine ⟨h.env.mono hr (LLe.refl L), h.defers, ?_, h.dom, ?_, h.inj, hn, fun b hb => hi b (h.i0 b hb), ?_, ?_, Nat.le_trans h.grow hs, h.io.trans hio⟩
  · intro id b hb
    obtain ⟨p, hp, hk, hf⟩ := h.blk id b hb
    refine ⟨p, hp, hk.mono hr (LLe.refl L) (fun hv => hw _ (h.own id p hp hv).2) (fun hv o => cell?_heap _ _ (hw _ (h.own id p hp hv).2)), fun hz hv hI => ?_⟩
    rcases hm _ hI with hI | hI
    · exact hf hz hv hI
    · have := (h.own id p hp hv).2
      omega
  · intro id p hp hv
    have := h.own id p hp hv
    exact ⟨this.1, Nat.lt_of_lt_of_le this.2 hs⟩
  · intro b hb
    rcases hm b hb with hb | hb
    · exact h.iN b hb
    · exact .inr (Nat.le_trans h.grow hb)
  · intro b hb
    rw [hw b (Nat.lt_of_lt_of_le hb h.grow)]
    exact h.same b hb

theorem Sim.draw (h : Sim c I L s a w) {w' : World} (e : w'.heap = w.heap) (hio : IO w w') : Sim c I L s a w' :=
  h.world (fun _ hb => hb) (by rw [e]; exact Nat.le_refl _) (fun b _ => by rw [e]) (fun b hb => by rw [e]; exact h.imm b hb) (fun b hb => .inl hb) hio

/-- a place more -/
def addL (L : Nat → Option Pl) (id : Nat) (p : Pl) : Nat → Option Pl := fun i => if i = id then some p else L i

theorem addL_le {L : Nat → Option Pl} {id : Nat} {p : Pl} (h : ∀ q, L id = some q → p.w = q.w ∧ q.gen < p.gen) : LLe L (addL L id p) := by
  intro i q hq
  by_cases e : i = id
  · subst e
    exact ⟨p, by simp [addL], (h q hq).1, .inr (h q hq).2⟩
  · exact ⟨q, by simp [addL, e, hq], rfl, .inl rfl⟩


/-- One block of the call's own is made, or turned. -/
theorem Sim.upd (h : Sim c I L s a w) {id : Nat} {p' : Pl} {b' : Blk} {w' : World} (hid : id < s.heap.length) (hp : ∀ q, L id = some q → p'.w = q.w ∧ (p' = q ∨ q.gen < p'.gen))
    (hb : p'.virt = false → p'.b < w'.heap.size ∧ (w.heap.size ≤ p'.b ∨ ∃ q, L id = some q ∧ q.virt = false ∧ q.b = p'.b)) (hs : w.heap.size ≤ w'.heap.size) (hio : IO w w')
    (hw : ∀ b, b < w.heap.size → (∀ q, L id = some q → q.virt = false → b = q.b → I b) → w'.heap[b]? = w.heap[b]?)
    (hk : RLe (c.rc I w) (c.rc I w') → LLe L (addL L id p') → BlkOK (c.rc I w') (addL L id p') w' p' b') (hf : b'.frozen = false → p'.virt = false → ¬ I p'.b) :
    Sim c I (addL L id p') ⟨s.env, s.heap.set id (some b')⟩ a w' := by
  have hr : RLe (c.rc I w) (c.rc I w') := rle_of_heap (fun _ hb => hb) fun b hb => hw b (h.imm b hb) fun _ _ _ _ => hb
  have hl : LLe L (addL L id p') := by
    intro i q hq
    by_cases e : i = id
    · subst e
      exact ⟨p', by simp [addL], hp q hq⟩
    · exact ⟨q, by simp [addL, e, hq], rfl, .inl rfl⟩
  have hoth : ∀ i p, i ≠ id → L i = some p → p.virt = false → w'.heap[p.b]? = w.heap[p.b]? := by
    intro i p e hp hv
    refine hw _ (h.own i p hp hv).2 fun q hq hqv hbq => ?_
    exact absurd (h.inj i id p q hp hq hv hqv hbq) e
  refine ⟨h.env.mono hr hl, h.defers, ?_, ?_, ?_, ?_, fun b hb => Nat.lt_of_lt_of_le (h.imm b hb) hs, h.i0, h.iN, ?_, Nat.le_trans h.grow hs, h.io.trans hio⟩
  · intro i b hib
    by_cases e : i = id
    · subst e
      simp only [List.getElem?_set_self hid, Option.some.injEq] at hib
      subst hib
      exact ⟨p', by simp [addL], hk hr hl, hf⟩
    · simp only [List.getElem?_set_ne (Ne.symm e)] at hib
      obtain ⟨p, hp, hk, hz⟩ := h.blk i b hib
      exact ⟨p, by simp [addL, e, hp], hk.mono hr hl (fun hv => hoth i p e hp hv) (fun hv o => cell?_heap _ _ (hoth i p e hp hv)), hz⟩
  · intro i p hip
    by_cases e : i = id
    · subst e
      exact ⟨b', by simp [hid]⟩
    · simp only [addL, e, if_false] at hip
      obtain ⟨b, hb⟩ := h.dom i p hip
      exact ⟨b, by simp only [List.getElem?_set_ne (Ne.symm e)]; exact hb⟩
  · intro i p hip hv
    by_cases e : i = id
    · subst e
      simp only [addL, if_true, Option.some.injEq] at hip
      subst hip
      obtain ⟨h1, h2⟩ := hb hv
      refine ⟨?_, h1⟩
      rcases h2 with h2 | ⟨q, hq, hqv, hqb⟩
      · exact Nat.le_trans h.grow h2
      · rw [← hqb]; exact (h.own i q hq hqv).1
    · simp only [addL, e, if_false] at hip
      have := h.own i p hip hv
      exact ⟨this.1, Nat.lt_of_lt_of_le this.2 hs⟩
  · have key : ∀ i p, i ≠ id → L i = some p → p.virt = false → p'.virt = false → p.b ≠ p'.b := by
      intro i p e hip hv hv' hbb
      rcases (hb hv').2 with h2 | ⟨q, hq, hqv, hqb⟩
      · have := (h.own i p hip hv).2
        omega
      · exact e (h.inj i id p q hip hq hv hqv (by rw [hqb]; exact hbb))
    intro i j p q hip hjq hv hqv hbb
    by_cases e : i = id <;> by_cases e' : j = id
    · rw [e, e']
    · subst e
      simp only [addL, if_true, Option.some.injEq] at hip
      simp only [addL, e', if_false] at hjq
      subst hip
      exact absurd hbb.symm (key j q e' hjq hqv hv)
    · subst e'
      simp only [addL, if_true, Option.some.injEq] at hjq
      simp only [addL, e, if_false] at hip
      subst hjq
      exact absurd hbb (key i p e hip hv hqv)
    · simp only [addL, e, if_false] at hip
      simp only [addL, e', if_false] at hjq
      exact h.inj i j p q hip hjq hv hqv hbb
  · intro b hb
    have hlt := Nat.lt_of_lt_of_le hb h.grow
    rw [hw b hlt fun q hq hqv hbq => by
      have := (h.own id q hq hqv).1
      omega]
    exact h.same b hb

/-- What is handed out is held for good. -/
theorem Sim.freeze (h : Sim c I L s a w) {I' : Nat → Prop} {hp' : List (Option Blk)} (hi : ∀ b, I b → I' b) (hm : ∀ b, I' b → I b ∨ ∃ id p, L id = some p ∧ p.virt = false ∧ b = p.b ∧ ∀ b' : Blk, hp'[id]? = some (some b') → b'.frozen = true)
    (hh : ∀ (id : Nat) (b' : Blk), hp'[id]? = some (some b') → ∃ b : Blk, s.heap[id]? = some (some b) ∧ b'.ct = b.ct ∧ b'.gen = b.gen ∧ (b'.frozen = false → b.frozen = false))
    (hd : ∀ (id : Nat) (b : Blk), s.heap[id]? = some (some b) → ∃ b' : Blk, hp'[id]? = some (some b')) : Sim c I' L ⟨s.env, hp'⟩ a w := by
  have hr : RLe (c.rc I w) (c.rc I' w) := rle_of_heap hi fun _ _ => rfl
  refine ⟨h.env.mono hr (LLe.refl L), h.defers, ?_, ?_, h.own, h.inj, ?_, fun b hb => hi b (h.i0 b hb), ?_, h.same, h.grow, h.io⟩
  · intro id b' hb'
    obtain ⟨b, hb, hct, hg, hz⟩ := hh id b' hb'
    obtain ⟨p, hp, hk, hf⟩ := h.blk id b hb
    refine ⟨p, hp, ?_, fun hz' hv hI => ?_⟩
    · have := hk.mono hr (LLe.refl L) (w' := w) (fun _ => rfl) (fun _ _ => rfl)
      unfold BlkOK at this ⊢
      rw [hct, hg]
      exact this
    · rcases hm _ hI with hI | ⟨id', q, hq, hqv, hbq, hfr⟩
      · exact hf (hz hz') hv hI
      · have e := h.inj id id' p q hp hq hv hqv hbq
        subst e
        rw [hfr b' hb'] at hz'
        cases hz'
  · intro id p hp
    obtain ⟨b, hb⟩ := h.dom id p hp
    exact hd id b hb
  · intro b hb
    rcases hm b hb with hb | ⟨id, p, hp, hv, rfl, _⟩
    · exact h.imm b hb
    · exact (h.own id p hp hv).2
  · intro b hb
    rcases hm b hb with hb | ⟨id, p, hp, hv, rfl, _⟩
    · exact h.iN b hb
    · exact .inr (h.own id p hp hv).1

end
end Go.Eng
