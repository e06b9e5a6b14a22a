/-
  The abstract machine, part 16d: the operation that stores into an object's variable.
-/
import Derived.Test.YtnbpgehpjhifgaaDoorLxEngQc
namespace Go.Eng

section
variable {c : Ctx} {I : Nat → Prop} {L : Ref → Option Pl} {s : St} {a : Act} {w : World} {call : CallF}

theorem Sim.objBox (h : Sim c I L s a w) {k i : Nat} {tb : Blk} {cs : List Cell} {l : List (Val (rowsTy cs))} {st : List (Nat × Nat)} {gs : List Nat} (htb : s.heap[k]? = some (some tb)) (htct : tb.ct = .tab cs l st gs) {p : Pl} (hp : L (.o k i 0) = some p) :
    i < l.length ∧ p.o = 0 ∧ p.gen = 0 ∧ p.virt = false ∧ ¬ I p.b ∧ ∃ cc T, w.heap[p.b]? = some (.cells cc T (0, 0)) ∧ RepL (c.rc I L w) L (rowO k i (fun q => decide ((q, i) ∈ st)) gs cs 1 (l.getD i (dfl (rowsTy cs)))) cc.toList := by
  obtain ⟨b, hb⟩ := h.dom _ p hp
  obtain ⟨p2, hp2, hk, hf⟩ := h.blk _ b hb
  rw [hp] at hp2
  injection hp2 with hp2
  subst hp2
  simp only [rdv, htb, htct] at hb
  split at hb
  · rename_i hlt
    simp only [viewV, Option.some.injEq] at hb
    subst hb
    obtain ⟨h1, h2, h3, cc, T, h4, h5⟩ := hk
    exact ⟨hlt, h3, h1, h2, hf rfl h2, cc, T, h4, h5⟩
  · cases hb

theorem op_storeObj (h : Sim c I L s a w) (hE : EnvOK c.P c.E) {t : TypeId} {x y : Operand} {o : Oper} (ho : o.op = .store t x y) {ti : TyI} (hty : c.E.ty t = some ti) {k io j g : Nat} (hav : aeval s.env x = .lptr (.o k io 0) 0 j g) {δ : Dl} {rs : List Nat}
    (e : (storeOA c.E ti k io j (aeval s.env y)).run call s.rd = some (δ, rs)) : OpOK c s a w o δ := by
  obtain ⟨d, ii, zz, hT⟩ := hE.ty _ ti hty
  have hx := h.eval x
  rw [hav] at hx
  simp only [Rep] at hx
  obtain ⟨p, hp, hge, q, hq, hcur⟩ := hx
  unfold storeOA at e
  obtain ⟨tb, l1, htb, e1, rfl⟩ := HM.run_rd e
  have htb' := rdv_l.1 (show rdv s.heap (.l k) = some tb from htb)
  split at e1
  rotate_left
  · cases e1
  rename_i cs l st gs htct
  obtain ⟨hlt, hpo, hpg, hpv, hnI, cc, T, hcc, hrow⟩ := h.objBox htb' htct hp
  have hqq := hcur (by omega)
  simp only [hpo, Nat.zero_mul, Nat.zero_add, Nat.add_zero] at hqq
  split at e1
  rotate_left
  · cases e1
  rename_i new hcs
  split at e1
  rotate_left
  · cases e1
  rename_i hcond
  obtain ⟨hall, hsz⟩ := hcond
  obtain ⟨⟨x', f, u⟩, r1, r2, e2, e3, rfl⟩ := HM.run_bind e1
  obtain ⟨fz, r3, r4, e4, e5, rfl⟩ := HM.run_bind e3
  obtain ⟨st', r5, r6, e6, e7, rfl⟩ := HM.run_bind e5
  split at e7
  rotate_left
  · cases e7
  rename_i hc
  obtain ⟨hnd, hcf, hgl⟩ := hc
  obtain ⟨rfl, rfl⟩ := HM.run_ret e7
  have hcl := cells_sound hcs (h.eval y)
  have hvl := hcl.length
  obtain ⟨told, hbound, hput⟩ := storeO_sound h e2 hcl hrow
  have hput := hput (heldBy I L f) (fun b hb => .inl hb) (fun id hid p hp hv => .inr ⟨id, p, hid, hp, hv, rfl⟩)
  have hF := h.freezeAll e4 told
  obtain ⟨f1, f2, f3, f4, f5⟩ := told.freeze e4
  obtain ⟨b1, b2⟩ := backA_sound e6
  have hknf : Ref.l k ∉ f := fun hm => by
    have := told.notab hm htb'
    simp [Blk.isTab, htct] at this
  have hb0 : j + (a.eval y).cells.toList.length ≤ cc.size ∨ (a.eval y).cells.toList = [] := by
    by_cases hnil : new = []
    · right
      subst hnil
      simp only [RepL] at hcl
      exact hcl
    · left
      rw [if_neg hnil] at hbound
      simpa using hbound
  have hrun : ∃ w', (storeCells ⟨p.b, j, none⟩ (a.eval y).cells.toList 0).run c.P w = .ok () w' ∧ w'.heap.size = w.heap.size ∧ w'.heap[p.b]? = some (.cells (wrAt cc j (a.eval y).cells.toList) T (0, 0)) ∧ (∀ k, k ≠ p.b → w'.heap[k]? = w.heap[k]?) ∧ IO w w' := by
    rcases hb0 with hb0 | hb0
    · exact run_storeCells (P := c.P) (o := j) (a.eval y).cells.toList 0 w cc hcc (by omega) (hcl.mem_cell hall)
    · rw [hb0]
      exact ⟨w, rfl, rfl, hcc, fun _ _ => rfl, IO.refl w⟩
  obtain ⟨w', erun, hs, hnew, hoth, hio⟩ := hrun
  have hzs : wrAt cc j (a.eval y).cells.toList = (ovl cc.toList j (a.eval y).cells.toList).toArray := by
    apply Array.ext'
    rw [wrAt_ovl]
  rw [hzs] at hnew
  have hS := hF.objPut (s0 := s) (k := k) (i := io) (tb := tb) (show (putAll s.heap fz)[k]? = _ by rw [f5 k hknf]; exact htb') htct hlt hp hput (fun q src r hm hr => ?_) hnd (fun q hq => ?_) b1 b2 hnew hs hio hoth
  · obtain ⟨L', hS⟩ := hS
    refine OpOK.skip (w' := w') ?_ (I' := heldBy I L f) (L' := L') ?_
    · simp only [execOp, ho]
      rw [hq, hqq]
      have hsz' : (a.eval y).cells.size = ti.size := by
        have : (a.eval y).cells.toList.length = ti.size := by rw [hvl, hsz]
        simpa using this
      simp [Instr.storeAt, Instr.sureAddr, storeVar, hT.run_size, hsz', erun]
    · rw [List.append_assoc, putAll_append]
      exact hS
  · show rdH (putAll s.heap fz) r = rdH s.heap r
    refine (f2 r fun hm2 => ?_).2
    cases src with
    | nil => cases hr
    | own i0 =>
      simp only [Src.ref, Option.some.injEq] at hr
      subst hr
      obtain ⟨_, _, e0, _⟩ := f3 _ hm2
      cases e0
    | loc id i0 t g =>
      simp only [Src.ref, Option.some.injEq] at hr
      subst hr
      simp only [List.all_eq_true] at hcf
      have := hcf id (mem_srcIds hm)
      simp [hm2] at this
  · simp only [List.all_eq_true] at hgl
    have := hgl q hq
    exact Nat.le_of_ble_eq_true this

end
end Go.Eng
