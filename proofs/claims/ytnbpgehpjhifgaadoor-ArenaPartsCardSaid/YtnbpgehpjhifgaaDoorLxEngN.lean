/-
  The abstract machine, part 13: variables made and written.
-/
import Derived.Test.YtnbpgehpjhifgaaDoorLxEngMa
namespace Go.Eng

section
variable {c : Ctx} {I : Nat → Prop} {L : Ref → Option Pl} {s : St} {a : Act} {w : World} {call : CallF}

theorem heap_push_old {w w' : World} {o : Obj} (e : w'.heap = w.heap.push o) (b : Nat) (h : b < w.heap.size) : w'.heap[b]? = w.heap[b]? := by
  rw [e, Array.getElem?_push_lt h]
  simp [h]

theorem heap_push_new {w w' : World} {o : Obj} (e : w'.heap = w.heap.push o) : w'.heap[w.heap.size]? = some o := by
  rw [e]; simp

theorem free_L (h : Sim c I L s a w) {id : Nat} (hn : s.heap[id]? = some none) : L (.l id) = none := by
  cases hl : L (.l id) with
  | none => rfl
  | some p =>
    obtain ⟨b, hb⟩ := h.dom _ p hl
    have hb := rdv_l.1 hb
    rw [hn] at hb
    injection hb with hb
    cases hb

theorem lt_of_free {hp : List (Option Blk)} {id : Nat} (hn : hp[id]? = some none) : id < hp.length := (List.getElem?_eq_some_iff.1 hn).1

theorem notab_free {hp : List (Option Blk)} {id : Nat} (hn : hp[id]? = some none) : ∀ b, hp[id]? = some (some b) → b.isTab = false := by
  intro b hb
  rw [hn] at hb
  injection hb with hb
  cases hb

/-- A block made. -/
theorem Sim.new (h : Sim c I L s a w) {id : Nat} (hn : s.heap[id]? = some none) {blk : Blk} (hnt : blk.isTab = false) {cs : Array Value} {T : TypeId} {w' : World} (e : w'.heap = w.heap.push (.cells cs T (0, 0))) (hio : IO w w') {p : Pl}
    (hp : p.b = w.heap.size ∧ p.virt = false) (hk : RLe (c.rc I L w) (c.rc I (addL L (.l id) p) w') → LLe L (addL L (.l id) p) → BlkOK (c.rc I (addL L (.l id) p) w') (addL L (.l id) p) w' p blk) :
    Sim c I (addL L (.l id) p) ⟨s.env, s.heap.set id (some blk)⟩ a w' := by
  have hL := free_L h hn
  refine h.upd (lt_of_free hn) (notab_free hn) hnt (fun q hq => by rw [hL] at hq; cases hq) (fun _ => ⟨by rw [hp.1, e]; simp, .inl (by rw [hp.1]; exact Nat.le_refl _)⟩) (by rw [e]; simp) hio (fun b hb _ => heap_push_old e b hb) hk ?_
  intro _ _ hI
  have := h.imm _ hI
  rw [hp.1] at this
  omega

theorem OpOK.new (h : Sim c I L s a w) {o : Oper} {newId : Nat} (hn : s.heap[newId]? = some none) {x : AV} {v : Value} {blk : Blk} (hnt : blk.isTab = false) {cs : Array Value} {T : TypeId} {w' : World}
    (e : (execOp a.eval o).run c.P w = .ok (.value v) w') (eh : w'.heap = w.heap.push (.cells cs T (0, 0))) (hio : IO w w') {p : Pl} (hp : p.b = w.heap.size ∧ p.virt = false)
    (hk : RLe (c.rc I L w) (c.rc I (addL L (.l newId) p) w') → LLe L (addL L (.l newId) p) → BlkOK (c.rc I (addL L (.l newId) p) w') (addL L (.l newId) p) w' p blk) (hx : Rep (c.rc I (addL L (.l newId) p) w') (addL L (.l newId) p) x v) :
    OpOK c s a w o { x := x, wr := [(.l newId, blk)] } := by
  intro K Q hK
  unfold Oper.wp
  rw [e, Oper.upon_value]
  have := (h.new hn hnt eh hio hp hk).put o.dst hx
  exact hK _ _ _ _ this

theorem op_alloc (h : Sim c I L s a w) (hE : EnvOK c.P c.E) {t : TypeId} {o : Oper} (ho : o.op = .alloc t) (hkd : c.E.kind t = none) {newId : Nat} (hn : s.heap[newId]? = some none) {δ : Dl} {rs : List Nat}
    (e : (aop c.E (aeval s.env) newId o.op).run call s.rd = some (δ, rs)) : OpOK c s a w o δ := by
  rw [ho] at e
  simp only [aop, hkd] at e
  split at e
  · rename_i ti hty
    obtain ⟨d, i, z, hT⟩ := hE.ty _ ti hty
    obtain ⟨rfl, rfl⟩ := HM.run_ret e
    refine OpOK.new h hn rfl (v := .pointer (some ⟨w.heap.size, 0, none⟩)) (cs := z.cells) (T := t) (w' := { w with heap := w.heap.push (.cells z.cells t) }) (p := ⟨w.heap.size, 0, 0, 0, 0, false⟩) ?_ rfl ⟨rfl, rfl, rfl⟩ ⟨rfl, rfl⟩ ?_ ?_
    · simp only [execOp, ho]
      simp [Instr.alloc, hT.run_zero, newVar, newRow]
    · intro hr hl
      exact ⟨rfl, rfl, rfl, z.cells, t, heap_push_new rfl, hT.zeroL _ _⟩
    · simp only [Rep]
      exact ⟨⟨w.heap.size, 0, 0, 0, 0, false⟩, by simp [addL], Nat.le_refl _, _, rfl, fun _ => by simp⟩
  · cases e

theorem op_box (h : Sim c I L s a w) {t : TypeId} {x : Operand} {o : Oper} (ho : o.op = .box t x) (hkd : c.E.kind t = none) {newId : Nat} (hn : s.heap[newId]? = some none) {δ : Dl} {rs : List Nat}
    (e : (aop c.E (aeval s.env) newId o.op).run call s.rd = some (δ, rs)) : OpOK c s a w o δ := by
  rw [ho] at e
  simp only [aop, hkd] at e
  have hx := h.eval x
  split at e
  · rename_i ti cs hty hcs
    split at e
    · obtain ⟨rfl, rfl⟩ := HM.run_ret e
      refine OpOK.new h hn rfl (v := .pointer (some ⟨w.heap.size, 0, none⟩)) (cs := (a.eval x).cells) (T := t) (w' := { w with heap := w.heap.push (.cells (a.eval x).cells t) }) (p := ⟨w.heap.size, 0, 0, 0, 0, false⟩) ?_ rfl ⟨rfl, rfl, rfl⟩ ⟨rfl, rfl⟩ ?_ ?_
      · simp only [execOp, ho]
        simp [Instr.box, newVar, newRow]
      · intro hr hl
        exact ⟨rfl, rfl, rfl, _, t, heap_push_new rfl, (cells_sound hcs hx).mono hr hl⟩
      · simp only [Rep]
        exact ⟨⟨w.heap.size, 0, 0, 0, 0, false⟩, by simp [addL], Nat.le_refl _, _, rfl, fun _ => by simp⟩
    · cases e
  · cases e

/-- cells written -/
theorem run_storeCells {P : Program} {b o : Nat} {T : TypeId} : ∀ (vs : List Value) (i : Nat) (w : World) (cs : Array Value), w.heap[b]? = some (.cells cs T (0, 0)) → o + i + vs.length ≤ cs.size → (∀ v, v ∈ vs → v.oneCell' = true) →
    ∃ w', (storeCells ⟨b, o, none⟩ vs i).run P w = .ok () w' ∧ w'.heap.size = w.heap.size ∧ w'.heap[b]? = some (.cells (wrAt cs (o + i) vs) T (0, 0)) ∧ (∀ k, k ≠ b → w'.heap[k]? = w.heap[k]?) ∧ IO w w'
  | [], i, w, cs, hh, _, _ => ⟨w, rfl, rfl, hh, fun _ _ => rfl, IO.refl w⟩
  | v :: r, i, w, cs, hh, hle, hv => by
    simp only [List.length_cons] at hle
    have hc : w.cell? ⟨b, o + i, none⟩ = some cs[o + i] := by
      rw [cell?_cells hh]
      simp
    have hf : w.frozen? ⟨b, o + i, none⟩ = false := by simp [World.frozen?, hh]
    have hst : (store ⟨b, o + i, none⟩ v).run P w = .ok () (w.setCell ⟨b, o + i, none⟩ v) := by
      rw [run_store P w _ v .plain (hv v (by simp)), hc, hf]
      rfl
    have h1 := heap_setCell_same w b (o + i) cs T v hh
    obtain ⟨w', e, hs, hb, hk, hio⟩ := run_storeCells (P := P) (o := o) r (i + 1) (w.setCell ⟨b, o + i, none⟩ v) _ h1 (by simp; omega) (fun u hu => hv u (by simp [hu]))
    refine ⟨w', ?_, ?_, ?_, ?_, hio⟩
    · simp only [storeCells, Sem.run_bind, addr_add, hst, Result.andThen_ok]
      exact e
    · rw [hs]
      simp [World.setCell]
    · rw [hb]
      simp only [wrAt]
      rfl
    · intro k hne
      rw [hk k hne]
      exact heap_setCell_other w _ k v hne

theorem OpOK.skip {o : Oper} {wr : List (Ref × Blk)} {w' : World} (e : (execOp a.eval o).run c.P w = .ok .skip w') {I' : Nat → Prop} {L' : Ref → Option Pl}
    (hs : Sim c I' L' ⟨s.env, putAll s.heap wr⟩ a w') : OpOK c s a w o { x := .v (.tuple #[]), wr := wr } := by
  intro K Q hK
  unfold Oper.wp
  rw [e, Oper.upon_skip]
  exact hK _ _ _ _ (hs.put o.dst (x := .v (.tuple #[])) (v := undef) (by simp [Rep, undef]))

theorem RepL.mem_cell {R : RC} {L : Ref → Option Pl} : ∀ {l : List AV} {ys : List Value}, RepL R L l ys → l.all AV.isCell = true → ∀ v, v ∈ ys → v.oneCell' = true
  | [], ys, h, _, v, hv => by simp only [RepL] at h; subst h; cases hv
  | x :: r, ys, h, ha, v, hv => by
    simp only [RepL] at h
    obtain ⟨y, t, rfl, hy, ht⟩ := h
    simp only [List.all_cons, Bool.and_eq_true] at ha
    rcases List.mem_cons.1 hv with rfl | hv
    · exact isCell_sound ha.1 hy
    · exact ht.mem_cell ha.2 v hv

theorem op_storeBox (h : Sim c I L s a w) (hE : EnvOK c.P c.E) {t : TypeId} {x y : Operand} {o : Oper} (ho : o.op = .store t x y) {ti : TyI} (hty : c.E.ty t = some ti) {id j g : Nat} (hav : aeval s.env x = .lptr (.l id) 0 j g)
    {b : Blk} (hb : s.rd (.l id) = some b) (hg : g = b.gen) (hz : b.frozen = false) {row cs : List AV} (hct : b.ct = .box row) (hcs : (aeval s.env y).cells = some cs) (hall : cs.all AV.isCell = true) (hsz : cs.length = ti.size) (hle : j + cs.length ≤ row.length) :
    OpOK c s a w o { x := .v (.tuple #[]), wr := [(.l id, { b with ct := .box (setRow row j cs) })] } := by
  obtain ⟨d, i, z, hT⟩ := hE.ty _ ti hty
  have hx := h.eval x
  have hy := h.eval y
  rw [hav] at hx
  simp only [Rep] at hx
  obtain ⟨p, hp, hge, q, hq, hcur⟩ := hx
  obtain ⟨⟨hpg, hk⟩, hf⟩ := h.get hp hb
  have hb' := rdv_l.1 (show rdv s.heap (.l id) = some b from hb)
  have hid : id < s.heap.length := (List.getElem?_eq_some_iff.1 hb').1
  rw [hct] at hk
  obtain ⟨hv, hpo, cells, T, hh, hrow⟩ := hk
  have hqq := hcur (by rw [hpg, hg])
  simp only [hpo, Nat.zero_mul, Nat.zero_add, Nat.add_zero] at hqq
  have hcl := cells_sound hcs hy
  have hlen := hcl.length
  have hrl := hrow.length
  have hsize : cells.size = row.length := by simpa using hrl
  obtain ⟨w', erun, hs, hnew, hoth, hio⟩ := run_storeCells (P := c.P) (o := j) (a.eval y).cells.toList 0 w cells hh (by rw [hlen, hsize]; omega) (hcl.mem_cell hall)
  refine OpOK.skip (w' := w') ?_ (I' := I) (L' := addL L (.l id) p) ?_
  · simp only [execOp, ho]
    rw [hq, hqq]
    have hsz' : (a.eval y).cells.size = ti.size := by
      have : (a.eval y).cells.toList.length = ti.size := by rw [hlen, hsz]
      simpa using this
    simp [Instr.storeAt, Instr.sureAddr, storeVar, hT.run_size, hsz', erun]
  · simp only [putAll, putH]
    refine h.upd hid (fun x hx => by rw [hb'] at hx; injection hx with hx; injection hx with hx; subst hx; simp [Blk.isTab, hct]) rfl (fun q hq => by rw [hp] at hq; injection hq with hq; exact ⟨by rw [hq], .inl hq⟩) (fun _ => ⟨by rw [hs]; exact (h.own _ p hp hv).2, .inr ⟨p, hp, hv, rfl⟩⟩) (by rw [hs]; exact Nat.le_refl _) hio ?_ ?_ (fun _ _ => hf hz hv)
    · intro k _ hk
      by_cases e : k = p.b
      · exact absurd (hk p hp hv e) (by rw [e]; exact hf hz hv)
      · exact hoth k e
    · intro hr hl
      refine ⟨hpg, hv, hpo, _, T, hnew, ?_⟩
      have := setRow_sound (j := j) (hrow.mono hr hl) (hcl.mono hr hl)
      simpa using this

theorem freezeAll_sound {s : St} : ∀ {ids : List Ref} {fz : List (Ref × Blk)} {rs : List Nat}, (freezeAll ids).run call s.rd = some (fz, rs) → (∀ r, r ∈ ids → ∀ b, s.rd r = some b → b.isTab = false) → ∀ (h : List (Option Blk)), (∀ id, .l id ∈ ids → id < h.length) →
    (∀ id b, .l id ∈ ids → h[id]? = some (some b) → b.isTab = false) →
    (putAll h fz).length = h.length ∧ (∀ r, r ∉ ids → rdv (putAll h fz) r = rdv h r ∧ rdH (putAll h fz) r = rdH h r) ∧ (∀ r, r ∈ ids → ∃ id b, r = .l id ∧ s.rd r = some b ∧ rdv (putAll h fz) r = some { b with frozen := true }) ∧ fz.map (·.1) = ids ∧
      (∀ id, .l id ∉ ids → (putAll h fz)[id]? = h[id]?)
  | [], fz, rs, e, _, h, _, _ => by
    obtain ⟨rfl, rfl⟩ := HM.run_ret e
    exact ⟨rfl, fun _ _ => ⟨rfl, rfl⟩, (fun k hk => by cases hk), rfl, fun _ _ => rfl⟩
  | .o _ _ _ :: _, fz, rs, e, _, h, _, _ => by cases e
  | .l id :: r, fz, rs, e, ht, h, hl, hn => by
    simp only [freezeAll] at e
    obtain ⟨b, l', hb, e1, rfl⟩ := HM.run_rd e
    obtain ⟨l, l1, l2, e2, e3, rfl⟩ := HM.run_bind e1
    obtain ⟨rfl, rfl⟩ := HM.run_ret e3
    have hbt : b.isTab = false := ht (.l id) (by simp) b hb
    have hbt' : ({ b with frozen := true } : Blk).isTab = false := hbt
    obtain ⟨h1, h2, h3, h4, h5⟩ := freezeAll_sound e2 (fun r' hr' => ht r' (by simp [hr'])) (h.set id (some { b with frozen := true })) (fun k hk => by simpa using hl k (by simp [hk])) (fun k x hk hx => by
      by_cases e : id = k
      · subst e
        rw [List.getElem?_set_self (hl id (by simp))] at hx
        injection hx with hx
        injection hx with hx
        subst hx
        exact hbt'
      · rw [List.getElem?_set_ne e] at hx
        exact hn k x (by simp [hk]) hx)
    simp only [putAll, putH]
    refine ⟨by simpa using h1, fun k hk => ?_, fun k hk => ?_, by simp [h4], fun k hk => ?_⟩
    · simp only [List.mem_cons, not_or] at hk
      obtain ⟨g1, g2⟩ := h2 k hk.2
      rw [g1, g2]
      refine ⟨rdv_set (fun x hx => hn id x (by simp) hx) (fun x hx => by injection hx with hx; subst hx; exact hbt') hk.1, rdH_set (fun x hx => hn id x (by simp) hx) (fun x hx => by injection hx with hx; subst hx; exact hbt') hk.1⟩
    · by_cases hr : k ∈ r
      · exact h3 k hr
      · simp only [List.mem_cons] at hk
        rcases hk with rfl | hk
        · exact ⟨id, b, rfl, hb, by rw [(h2 _ hr).1, rdv_set_self (hl id (by simp))]⟩
        · exact absurd hk hr
    · simp only [List.mem_cons, not_or] at hk
      rw [h5 k hk.2, List.getElem?_set_ne (fun e => hk.1 (by rw [e]))]

/-- the blocks of these are held for good -/
def heldBy (I : Nat → Prop) (L : Ref → Option Pl) (ids : List Ref) : Nat → Prop := fun b => I b ∨ ∃ id p, id ∈ ids ∧ L id = some p ∧ p.virt = false ∧ b = p.b

theorem lt_of_rd {hp : List (Option Blk)} {id : Nat} {b : Blk} (h : rdv hp (.l id) = some b) : id < hp.length := (List.getElem?_eq_some_iff.1 (rdv_l.1 h)).1

/-- what is known of blocks that were handed out -/
def Told (L : Ref → Option Pl) (s : St) (ids : List Ref) : Prop := ∀ id, id ∈ ids → ∃ p, L id = some p ∧ ∃ b, s.rd id = some b ∧ b.isTab = false

theorem Told.lt {ids : List Ref} (ht : Told L s ids) {id : Nat} (hm : .l id ∈ ids) : id < s.heap.length := by
  obtain ⟨p, hp, b, hb, _⟩ := ht _ hm
  exact lt_of_rd hb

theorem Told.notab {ids : List Ref} (ht : Told L s ids) {id : Nat} {x : Blk} (hm : .l id ∈ ids) (hx : s.heap[id]? = some (some x)) : x.isTab = false := by
  obtain ⟨p, hp, b, hb, hn⟩ := ht _ hm
  have hb := rdv_l.1 (show rdv s.heap (.l id) = some b from hb)
  rw [hb] at hx
  injection hx with hx
  injection hx with hx
  subst hx
  exact hn

theorem Told.mem {ids : List Ref} (ht : Told L s ids) {r : Ref} (hm : r ∈ ids) {x : Blk} (hx : s.rd r = some x) : x.isTab = false := by
  obtain ⟨p, hp, b, hb, hn⟩ := ht _ hm
  rw [hb] at hx
  injection hx with hx
  subst hx
  exact hn

theorem Told.freeze {ids : List Ref} (ht : Told L s ids) {fz : List (Ref × Blk)} {rs : List Nat} (e : (freezeAll ids).run call s.rd = some (fz, rs)) :
    (putAll s.heap fz).length = s.heap.length ∧ (∀ r, r ∉ ids → rdv (putAll s.heap fz) r = rdv s.heap r ∧ rdH (putAll s.heap fz) r = rdH s.heap r) ∧ (∀ r, r ∈ ids → ∃ id b, r = .l id ∧ s.rd r = some b ∧ rdv (putAll s.heap fz) r = some { b with frozen := true }) ∧ fz.map (·.1) = ids ∧
      (∀ id, .l id ∉ ids → (putAll s.heap fz)[id]? = s.heap[id]?) :=
  freezeAll_sound e (fun _ hm _ hx => ht.mem hm hx) s.heap (fun _ hm => ht.lt hm) (fun _ _ hm hx => ht.notab hm hx)

theorem Sim.freezeAll (h : Sim c I L s a w) {ids : List Ref} {fz : List (Ref × Blk)} {rs : List Nat} (e : (freezeAll ids).run call s.rd = some (fz, rs)) (ht : Told L s ids) :
    Sim c (heldBy I L ids) L ⟨s.env, putAll s.heap fz⟩ a w := by
  obtain ⟨h1, h2, h3, _⟩ := ht.freeze e
  refine h.freeze (fun b hb => .inl hb) (fun b hb => ?_) (fun id b' hb' => ?_) (fun id b hb => ?_)
  · rcases hb with hb | ⟨id, p, hid, hp, hv, rfl⟩
    · exact .inl hb
    · refine .inr ⟨id, p, hp, hv, rfl, fun b' hb' => ?_⟩
      obtain ⟨_, b, _, _, hb⟩ := h3 id hid
      rw [hb] at hb'
      simp only [Option.some.injEq] at hb'
      rw [← hb']
  · by_cases hid : id ∈ ids
    · obtain ⟨k, b, rfl, hb, hb2⟩ := h3 id hid
      rw [hb2] at hb'
      simp only [Option.some.injEq] at hb'
      subst hb'
      exact ⟨b, hb, rfl, rfl, fun hf => by cases hf⟩
    · rw [(h2 id hid).1] at hb'
      exact ⟨b', hb', rfl, rfl, fun hf => hf⟩
  · by_cases hid : id ∈ ids
    · obtain ⟨_, b, _, hb, hb2⟩ := h3 id hid
      exact ⟨_, hb2⟩
    · exact ⟨b, by rw [(h2 id hid).1]; exact hb⟩

theorem putAll_append : ∀ (l m : List (Ref × Blk)) (h : List (Option Blk)), putAll h (l ++ m) = putAll (putAll h l) m
  | [], _, _ => rfl
  | (i, b) :: r, m, h => by simp only [List.cons_append, putAll]; exact putAll_append r m _

theorem wrAt_out : ∀ (vs : List Value) (cs : Array Value) (j m : Nat), (m < j ∨ j + vs.length ≤ m) → (wrAt cs j vs)[m]? = cs[m]?
  | [], _, _, _, _ => rfl
  | v :: r, cs, j, m, h => by
    simp only [List.length_cons] at h
    simp only [wrAt]
    rw [wrAt_out r _ (j + 1) m (by omega)]
    exact Array.getElem?_setIfInBounds_ne (by omega)

theorem wrAt_in : ∀ (vs : List Value) (cs : Array Value) (j k : Nat), k < vs.length → j + k < cs.size → (wrAt cs j vs)[j + k]? = vs[k]?
  | [], _, _, _, h, _ => by simp at h
  | v :: r, cs, j, k, h, hs => by
    simp only [List.length_cons] at h
    simp only [wrAt]
    cases k with
    | zero =>
      rw [wrAt_out r _ (j + 1) (j + 0) (by omega)]
      simp at hs
      simp [hs]
    | succ k =>
      have := wrAt_in r (cs.setIfInBounds j v) (j + 1) k (by omega) (by simp; omega)
      rw [show j + (k + 1) = j + 1 + k from by omega, this]
      rfl

theorem op_storeSl (h : Sim c I L s a w) (hE : EnvOK c.P c.E) {t : TypeId} {x y : Operand} {o : Oper} (ho : o.op = .store t x y) {ti : TyI} (hty : c.E.ty t = some ti) {id : Ref} {i j g : Nat} (hav : aeval s.env x = .lptr id i j g)
    {b : Blk} (hb : s.rd id = some b) (hg : g = b.gen) (hz : b.frozen = false) {u : Ty} {l : List (Val u)} (hct : b.ct = .sl u l) (hlt : i < l.length) {y' : AV} {ids : List Ref} {r1 r2 : List Nat} {fz : List (Ref × Blk)}
    (e1 : (exportN 8 (aeval s.env y)).run call s.rd = some ((y', ids), r1)) (e2 : (Go.Eng.freezeAll ids).run call s.rd = some (fz, r2)) {cs : List AV} (hcs : y'.cells = some cs) (hall : cs.all AV.isCell = true) (hsz : cs.length = ti.size)
    (hle : j + cs.length ≤ u.size) (hno : ids.contains id = false) {z : Val u} (hdec : decT c.E.toNames u (setRow (cellsT u (l.getD i (dfl u))) j cs) = some (z, [])) :
    OpOK c s a w o { x := .v (.tuple #[]), wr := fz ++ [(id, { b with ct := .sl u (l.set i z) })] } := by
  obtain ⟨d, ii, zz, hT⟩ := hE.ty _ ti hty
  have hx := h.eval x
  rw [hav] at hx
  obtain ⟨g1, g2⟩ := exportN_sound h 8 e1 (h.eval y)
  have ht : Told L s ids := fun r hr => (g1 r hr).2
  have hF := h.freezeAll e2 ht
  obtain ⟨f1, f2, f3, _⟩ := ht.freeze e2
  have hidn : id ∉ ids := by
    intro hm
    have : ids.contains id = true := by simpa using hm
    rw [this] at hno
    cases hno
  have hb' : (⟨s.env, putAll s.heap fz⟩ : St).rd id = some b := by
    show rdH (putAll s.heap fz) id = _
    rw [(f2 id hidn).2]
    exact hb
  simp only [Rep] at hx
  obtain ⟨p, hp, hge, q, hq, hcur⟩ := hx
  obtain ⟨⟨hpg, hk⟩, hf⟩ := hF.get hp hb'
  rw [hct] at hk
  rcases hk with ⟨_, rfl, _⟩ | ⟨hv, hpw, cells, T, hh, hps, hsize, hrow⟩
  · simp at hlt
  have hrep := g2 (heldBy I L ids) (fun b hb => .inl hb) (fun id hid p hp hv => .inr ⟨id, p, hid, hp, hv, rfl⟩)
  have hqq := hcur (by rw [hpg, hg])
  have hcl := cells_sound hcs hrep
  have hlen := hcl.length
  obtain ⟨dd, hd, hat⟩ := hrow i hlt
  have hdl := hd.length
  have hrows : (i + 1) * p.w ≤ l.length * p.w := Nat.mul_le_mul_right _ (by omega)
  rw [Nat.add_mul, Nat.one_mul] at hrows
  obtain ⟨w', erun, hs, hnew, hoth, hio⟩ := run_storeCells (P := c.P) (o := p.o + i * p.w + j) (a.eval y).cells.toList 0 w cells hh (by rw [hlen]; omega) (hcl.mem_cell hall)
  refine OpOK.skip (w' := w') ?_ (I' := heldBy I L ids) (L' := L) ?_
  · simp only [execOp, ho]
    rw [hq, hqq]
    have hsz' : (a.eval y).cells.size = ti.size := by
      have : (a.eval y).cells.toList.length = ti.size := by rw [hlen, hsz]
      simpa using this
    simp [Instr.storeAt, Instr.sureAddr, storeVar, hT.run_size, hsz', erun]
  · rw [putAll_append]
    simp only [putAll]
    have hnI := hf hz hv
    refine hF.updIn hp hb' hct (l' := l.set i z) (by simp) hs hio (fun k hk => hoth k (hk hv)) (fun _ => hnI) hz ?_
    · intro hr
      refine ⟨hpg, .inr ⟨hv, hpw, _, T, hnew, by rw [wrAt_size]; exact hps, by simpa using hsize, fun k hk => ?_⟩⟩
      simp only [List.length_set] at hk
      -- the cells of the block after the writing
      have hcell : ∀ m, (c.rc (heldBy I L ids) L w').C p.b m = (wrAt cells (p.o + i * p.w + j + 0) (a.eval y).cells.toList)[m]? := fun m => cell?_cells hnew
      have hold : ∀ m, (c.rc (heldBy I L ids) L w).C p.b m = cells[m]? := fun m => cell?_cells hh
      by_cases hki : k = i
      · subst hki
        rw [List.getD_eq_getElem?_getD, List.getElem?_set_self hlt]
        have hrowL : RepL (c.rc (heldBy I L ids) L w) Go.Eng.noL (setRow (cellsT u (l.getD k (dfl u))) j cs) (wrAt dd.toArray j (a.eval y).cells.toList).toList :=
          setRow_sound (RepL.ofT u (by simpa using hd)) hcl
        obtain ⟨c1, c2, hc12, hz1, hz2⟩ := decT_sound u hdec hrowL
        simp only [RepL] at hz2
        subst hz2
        refine ⟨_, (by simpa [← hc12] using hz1.mono hr), ?_⟩
        intro m v hm
        rw [hcell, Nat.add_zero]
        have hc12' : (wrAt dd.toArray j (a.eval y).cells.toList).toList = c1 := by simpa using hc12
        rw [← hc12'] at hm
        have hm' : (wrAt dd.toArray j (a.eval y).cells.toList)[m]? = some v := by simpa using hm
        have hdl' : dd.toArray.size = u.size := by simpa using hdl
        have hmlt : m < u.size := by
          rcases Nat.lt_or_ge m u.size with hl | hl
          · exact hl
          · rw [Array.getElem?_eq_none (by rw [wrAt_size, hdl']; exact hl)] at hm'; cases hm'
        by_cases hin : j ≤ m ∧ m < j + (a.eval y).cells.toList.length
        · obtain ⟨q, rfl⟩ := Nat.exists_eq_add_of_le hin.1
          rw [wrAt_in _ _ j q (by omega) (by rw [hdl']; exact hmlt)] at hm'
          rw [show p.o + k * p.w + (j + q) = p.o + k * p.w + j + q from by omega, wrAt_in _ _ _ q (by omega) (by omega)]
          exact hm'
        · rw [wrAt_out _ _ j m (by omega)] at hm'
          rw [wrAt_out _ _ _ _ (by omega)]
          have := hat m v (by simpa using hm')
          rw [hold] at this
          exact this
      · rw [List.getD_eq_getElem?_getD, List.getElem?_set_ne (Ne.symm hki), ← List.getD_eq_getElem?_getD]
        obtain ⟨d2, hd2, hat2⟩ := hrow k hk
        refine ⟨d2, hd2.mono hr, fun m v hm => ?_⟩
        rw [hcell, Nat.add_zero]
        have := hat2 m v hm
        rw [hold] at this
        have hmlt : m < u.size := by
          rcases Nat.lt_or_ge m u.size with hl | hl
          · exact hl
          · rw [List.getElem?_eq_none (by rw [hd2.length]; exact hl)] at hm; cases hm
        rw [wrAt_out _ _ _ _ ?_]
        · exact this
        · rcases Nat.lt_or_gt_of_ne hki with hlt' | hgt'
          · have h1 : (k + 1) * p.w ≤ i * p.w := Nat.mul_le_mul_right _ (by omega)
            rw [Nat.add_mul, Nat.one_mul] at h1
            omega
          · have h1 : (i + 1) * p.w ≤ k * p.w := Nat.mul_le_mul_right _ (by omega)
            rw [Nat.add_mul, Nat.one_mul] at h1
            omega

end
end Go.Eng
