/-
  The abstract machine, part 14: slices made, written out, appended to, copied.
-/
import Derived.Test.YtnbpgehpjhifgaaDoorLxEngN
namespace Go.Eng

section
variable {c : Ctx} {I : Nat → Prop} {L : Ref → Option Pl} {s : St} {a : Act} {w : World} {call : CallF}

/-- nothings, one after the other -/
theorem zeros_get (z : Array Value) (n size i j : Nat) (hz : z.size = size) (hi : i < n) (hj : j < size) : ((Array.range (n * size)).map (z[· % z.size]!))[i * size + j]? = z[j]? := by
  have h1 : i * size + j < n * size := by
    have : (i + 1) * size ≤ n * size := Nat.mul_le_mul_right _ hi
    rw [Nat.add_mul, Nat.one_mul] at this
    omega
  have h2 : (i * size + j) % size = j := by
    rw [Nat.add_comm, Nat.add_mul_mod_self_right, Nat.mod_eq_of_lt hj]
  rw [Array.getElem?_map, Array.getElem?_range]
  simp only [h1, if_true, Option.map_some]
  rw [hz, h2]
  have h3 : j < z.size := by omega
  simp [h3]

theorem op_makeSlice (h : Sim c I L s a w) (hE : EnvOK c.P c.E) {t : TypeId} {x y : Operand} {o : Oper} (ho : o.op = .makeSlice t x y) {newId : Nat} (hn : s.heap[newId]? = some none) {δ : Dl} {rs : List Nat}
    (e : (aop c.E (aeval s.env) newId o.op).run call s.rd = some (δ, rs)) : OpOK c s a w o δ := by
  rw [ho] at e
  simp only [aop] at e
  split at e
  · rename_i ei k1 n k2 m hel hix hiy
    unfold elemT at hel
    split at hel
    · rename_i ti hty
      obtain ⟨d, i, z, hT⟩ := hE.ty _ ti hty
      have hd := hT.desc
      split at hel
      · rename_i et htd
        rw [htd] at hd
        obtain rfl := descOf_slice hd
        obtain ⟨d2, i2, z2, hT2⟩ := hE.ty _ ei hel
        have hvx := int?_sound hix (h.eval x)
        have hvy := int?_sound hiy (h.eval y)
        split at e
        · rename_i u hu
          obtain ⟨c1, e2⟩ := HM.run_chk e
          obtain ⟨c2, e3⟩ := HM.run_chk e2
          obtain ⟨c3, e4⟩ := HM.run_chk e3
          obtain ⟨rfl, rfl⟩ := HM.run_ret e4
          have c1 := of_decide_eq_true c1
          have c2 := of_decide_eq_true c2
          have c3 := of_decide_eq_true c3
          have hmost : (most : Int) = 1099511627776 := rfl
          rw [hmost] at c3
          have hm : m ≤ 1099511627776 := by
            have h1 : m * 1 ≤ m * ((ei.bytes : Int) + 1) := Int.mul_le_mul_of_nonneg_left (by omega) (by omega)
            omega
          have hmb : m * (ei.bytes : Int) ≤ 1099511627776 := by
            have : m * ((ei.bytes : Int) + 1) = m * ei.bytes + m := by rw [Int.mul_add, Int.mul_one]
            omega
          have wn : IntKind.i64.wrap n = n := by unfold IntKind.wrap; simp [IntKind.bits, IntKind.signed]; omega
          have wm : IntKind.i64.wrap m = m := by unfold IntKind.wrap; simp [IntKind.bits, IntKind.signed]; omega
          obtain ⟨husz, _⟩ := hT2.ty u hu
          have hzs : z2.cells.size = ei.size := by
            have := (hT2.zeroL (c.rc I L w) L).length
            rw [hT2.len] at this
            simpa using this
          obtain ⟨zc, hzc⟩ : ∃ zc : Array Value, zc = if m.toNat * ei.size = 0 then (#[] : Array Value) else z2.cells := ⟨_, rfl⟩
          have hzc0 : m.toNat * ei.size ≠ 0 → zc = z2.cells := fun h0 => by rw [hzc, if_neg h0]
          let cs : Array Value := (Array.range (m.toNat * ei.size)).map fun k => zc[k % zc.size]!
          have hcs : cs.size = m.toNat * ei.size := by simp [cs]
          refine OpOK.new h hn rfl (v := .slice (some ⟨w.heap.size, 0, none⟩) n.toNat m.toNat) (cs := cs) (T := et) (w' := { w with heap := w.heap.push (.cells cs et) }) (p := ⟨w.heap.size, 0, u.size, 0, cs.size, false⟩) ?_ rfl ⟨rfl, rfl, rfl⟩ ⟨rfl, rfl⟩ ?_ ?_
          · simp only [execOp, ho]
            rw [hvx, hvy]
            have hb : i2.bytes = ei.bytes := hT2.bytes
            have hbm : ¬ (281474976710656 < (ei.bytes : Int) * m) := by rw [Int.mul_comm]; omega
            have hbn : ¬ (m < n) := by omega
            have hm0 : ¬ m < 0 := by omega
            have hn0 : ¬ n < 0 := by omega
            simp only [Instr.makeSlice, Sem.run_bind, hT.run_u, Result.andThen_ok, asInt, asIntOf, Sem.run_pure, hT2.run_info, hb, wn, wm]
            rw [if_neg (by simp [hm0, hn0, hbn, hbm])]
            simp only [Sem.run_bind, run_askRoom, Result.andThen_ok, hT2.run_size]
            by_cases h0 : m.toNat * ei.size = 0
            · rw [if_pos h0] at hzc ⊢
              simp only [Sem.run_bind, Sem.run_pure, Result.andThen_ok, newRow, run_newObj, cs, hzc]
            · rw [if_neg h0] at hzc ⊢
              simp only [Sem.run_bind, Sem.run_pure, Result.andThen_ok, newRow, run_newObj, cs, hzc, hT2.run_zero]
          · intro hr hl
            refine ⟨rfl, .inr ⟨rfl, rfl, cs, et, heap_push_new rfl, rfl, ?_, fun k hk => ?_⟩⟩
            · simp only [List.length_replicate]
              rw [hcs, husz]
              have : n.toNat * ei.size ≤ m.toNat * ei.size := Nat.mul_le_mul_right _ (by omega)
              omega
            · simp only [List.length_replicate] at hk
              refine ⟨z2.cells.toList, ?_, ?_⟩
              · have : (List.replicate n.toNat (dfl u)).getD k (dfl u) = dfl u := by simp [List.getD_eq_getElem?_getD, hk]
                rw [this]
                exact hT2.zeroT hu rfl
              · intro j v hj
                have hjlt : j < ei.size := by
                  rcases Nat.lt_or_ge j ei.size with hl | hl
                  · exact hl
                  · rw [List.getElem?_eq_none (by simpa [hzs] using hl)] at hj; cases hj
                have hne : ¬ (m.toNat * ei.size = 0) := by
                  have : 0 < m.toNat * ei.size := Nat.mul_pos (by omega) (by omega)
                  omega
                show World.cell? _ _ = _
                rw [cell?_cells (heap_push_new rfl)]
                simp only [cs, hzc0 hne, Nat.zero_add, husz]
                rw [zeros_get z2.cells m.toNat ei.size k j hzs (by omega) hjlt]
                simpa using hj
          · simp only [Rep]
            refine ⟨⟨w.heap.size, 0, u.size, 0, cs.size, false⟩, by simp [addL], rfl, Nat.le_refl _, some ⟨w.heap.size, 0, none⟩, m.toNat, rfl, by omega, fun _ => rfl, fun _ => .inr ⟨rfl, by simp, ?_⟩⟩
            simp only [Nat.zero_add]
            rw [hcs, husz]
            exact Nat.le_refl _
        · cases e
      · cases hel
    · cases hel
  · cases e


theorem decA_sound {R : RC} {L : Ref → Option Pl} {t : Ty} {x : AV} {y : Val t} {v : Value} (e : decA R.T.N t x = some y) (hx : Rep R L x v) : RepT R t y v.cells.toList := by
  unfold decA at e
  split at e
  · rename_i cs hcs
    split at e
    · rename_i y' hd
      injection e with e
      subst e
      obtain ⟨d, r, h1, h2, h3⟩ := decT_sound t hd (cells_sound hcs hx)
      simp only [RepL] at h3
      subst h3
      rw [h1]
      simpa using h2
    · cases e
  · cases e

theorem fill_parts {R : RC} {t : Ty} : ∀ (ips : List (Nat × AV)) (vps : List (Nat × Value)) (i : Nat) (l : List (Val t)) (cells : Array Value), partsA R.T.N t i ips = some l → ips.map (·.1) = vps.map (·.1) →
    RepL R noL (ips.map (·.2)) (vps.map (·.2)) → (i + l.length) * t.size ≤ cells.size →
    ∃ out, Instr.fill (fun i => some (i * t.size, t.size)) cells vps = some out ∧ out.size = cells.size ∧ (∀ m, m < i * t.size → out[m]? = cells[m]?) ∧
      ∀ k, k < l.length → ∃ d, RepT R t (l.getD k (dfl t)) d ∧ ∀ j v, d[j]? = some v → out[(i + k) * t.size + j]? = some v
  | [], vps, i, l, cells, e, h1, h2, hs => by
    have : vps = [] := by cases vps <;> simp at h1 ⊢
    subst this
    simp only [partsA, Option.some.injEq] at e
    subst e
    exact ⟨cells, rfl, rfl, fun _ _ => rfl, fun k hk => by simp at hk⟩
  | (j0, x) :: r, vps, i, l, cells, e, h1, h2, hs => by
    cases vps with
    | nil => simp at h1
    | cons pv vrest =>
      obtain ⟨j1, v⟩ := pv
      simp only [List.map_cons, List.cons.injEq] at h1
      obtain ⟨rfl, h1⟩ := h1
      simp only [List.map_cons, RepL] at h2
      obtain ⟨y0, t0, hyt, hy, ht⟩ := h2
      simp only [List.cons.injEq] at hyt
      obtain ⟨rfl, rfl⟩ := hyt
      simp only [partsA] at e
      split at e
      · rename_i y l' hdec hrest
        split at e
        · rename_i hij
          subst hij
          injection e with e
          subst e
          have hT := decA_sound hdec hy
          have hlen := hT.length
          have hvsz : v.cells.size = t.size := by simpa using hlen
          simp only [List.length_cons] at hs
          have hmul : (j0 + 1) * t.size ≤ (j0 + (l'.length + 1)) * t.size := Nat.mul_le_mul_right _ (by omega)
          rw [Nat.add_mul, Nat.one_mul] at hmul
          obtain ⟨out, ho, hosz, hlow, hrow⟩ := fill_parts r vrest (j0 + 1) l' (wrAt cells (j0 * t.size) v.cells.toList) hrest h1 ht (by rw [wrAt_size, show j0 + 1 + l'.length = j0 + (l'.length + 1) from by omega]; exact hs)
          rw [wrAt_size] at hosz
          refine ⟨out, ?_, hosz, fun m hm => ?_, fun k hk => ?_⟩
          · simp only [Instr.fill, hvsz, ne_eq, not_true_eq_false, decide_false, Bool.false_or, decide_eq_true_eq]
            rw [if_neg (by simp; omega)]
            have hf := wrAt_fold v.cells.toList cells (j0 * t.size) 0
            rw [Nat.add_zero] at hf
            rw [← ho, ← hf]
            congr 1
            rw [← Array.foldl_toList]
            simp
          · rw [hlow m (by rw [Nat.add_mul, Nat.one_mul]; omega), wrAt_out _ _ _ _ (.inl hm)]
          · cases k with
            | zero =>
              refine ⟨v.cells.toList, by simpa using hT, fun j u hj => ?_⟩
              have hjlt : j < t.size := by
                rcases Nat.lt_or_ge j t.size with hl | hl
                · exact hl
                · rw [List.getElem?_eq_none (by rw [hlen]; exact hl)] at hj; cases hj
              rw [Nat.add_zero, hlow _ (by rw [Nat.add_mul, Nat.one_mul]; omega), wrAt_in _ _ _ j (by rw [hlen]; exact hjlt) (by omega)]
              exact hj
            | succ k =>
              simp only [List.length_cons] at hk
              obtain ⟨d, hd, hat⟩ := hrow k (by omega)
              refine ⟨d, by simpa using hd, fun j u hj => ?_⟩
              rw [show j0 + (k + 1) = j0 + 1 + k from by omega]
              exact hat j u hj
        · cases e
      · cases e

theorem op_buildSlice (h : Sim c I L s a w) (hE : EnvOK c.P c.E) {t : TypeId} {n : Nat} {parts : Array (Nat × Operand)} {o : Oper} (ho : o.op = .buildSlice t n parts) {newId : Nat} (hn : s.heap[newId]? = some none) {δ : Dl} {rs : List Nat}
    (e : (aop c.E (aeval s.env) newId o.op).run call s.rd = some (δ, rs)) : OpOK c s a w o δ := by
  rw [ho] at e
  simp only [aop] at e
  split at e
  · rename_i ei hel
    unfold elemT at hel
    split at hel
    · rename_i ti hty
      obtain ⟨d, i, z, hT⟩ := hE.ty _ ti hty
      have hd := hT.desc
      split at hel
      · rename_i et htd
        rw [htd] at hd
        obtain rfl := descOf_slice hd
        obtain ⟨d2, i2, z2, hT2⟩ := hE.ty _ ei hel
        unfold buildA at e
        split at e
        · cases e
        · rename_i u hu
          have husz := hT2.part hu
          obtain ⟨⟨ys, ids⟩, r1, r2, e1, e2, rfl⟩ := HM.run_bind e
          obtain ⟨fz, r3, r4, e3, e4, rfl⟩ := HM.run_bind e2
          have hrep : RepL (c.rc I L w) L ((parts.toList.map fun (i, x) => (i, aeval s.env x)).map (·.2)) ((parts.toList.map fun (i, x) => (i, a.eval x)).map (·.2)) := by
            have := h.evalL (parts.toList.map (·.2))
            simpa [Function.comp_def] using this
          obtain ⟨g1, g2⟩ := exportL_sound h 8 e1 hrep
          have ht : Told L s ids := fun r hr => (g1 r hr).2
          have hF := h.freezeAll e3 ht
          obtain ⟨f1, f2, f3, _, f5⟩ := ht.freeze e3
          have hrep2 := g2 (heldBy I L ids) (fun b hb => .inl hb) (fun id hid p hp hv => .inr ⟨id, p, hid, hp, hv, rfl⟩)
          have hlen := hrep2.length
          split at e4
          · rename_i l hl
            split at e4
            · rename_i hc
              obtain ⟨hln, hbig⟩ := hc
              obtain ⟨rfl, rfl⟩ := HM.run_ret e4
              have hnid : .l newId ∉ ids := by
                intro hm
                obtain ⟨p, hp, _⟩ := (g1 _ hm).2
                rw [free_L h hn] at hp
                cases hp
              have hn' : (⟨s.env, putAll s.heap fz⟩ : St).heap[newId]? = some none := by
                show (putAll s.heap fz)[newId]? = _
                rw [f5 newId hnid]; exact hn
              have hzs : z2.cells.size = ei.size := by
                have := (hT2.zeroL (c.rc I L w) L).length
                rw [hT2.len] at this
                simpa using this
              obtain ⟨zc, hzc⟩ : ∃ zc : Array Value, zc = if n * ei.size = 0 then (#[] : Array Value) else z2.cells := ⟨_, rfl⟩
              let cs0 : Array Value := (Array.range (n * ei.size)).map fun k => zc[k % zc.size]!
              have hcs0 : cs0.size = n * ei.size := by simp [cs0]
              have hfst : ((((parts.toList.map fun (i, x) => (i, aeval s.env x)).map (·.1)).zip ys).map (·.1)) = ((parts.toList.map fun (i, x) => (i, a.eval x)).map (·.1)) := by
                rw [List.map_fst_zip (by simpa using Nat.le_of_eq (by simpa using hlen))]
                simp
              have hsnd : ((((parts.toList.map fun (i, x) => (i, aeval s.env x)).map (·.1)).zip ys).map (·.2)) = ys := by
                exact List.map_snd_zip (by simpa using Nat.le_of_eq (by simpa using hlen.symm))
              obtain ⟨out, hfill, hosz, _, hrow⟩ := fill_parts (R := c.rc (heldBy I L ids) L w) _ _ 0 l cs0 hl hfst (by rw [hsnd]; exact hrep2) (by rw [hcs0, hln, husz, Nat.zero_add]; exact Nat.le_refl _)
              rw [husz] at hfill
              have key := OpOK.new (o := o) hF hn' rfl (a := a) (v := .slice (some ⟨w.heap.size, 0, none⟩) n n) (x := .lsl u (.l newId) 0 n 0) (blk := { ct := .sl u l, gen := 0, frozen := false }) (cs := out) (T := et) (w' := { w with heap := w.heap.push (.cells out et) }) (p := ⟨w.heap.size, 0, u.size, 0, out.size, false⟩) ?_ rfl ⟨rfl, rfl, rfl⟩ ⟨rfl, rfl⟩ ?_ ?_
              · intro K Q hK
                refine key K Q fun I' L' a' w' hs => hK I' L' a' w' ?_
                have : putAll s.heap (fz ++ [(.l newId, { ct := .sl u l, gen := 0, frozen := false })]) = putAll (putAll s.heap fz) [(.l newId, { ct := .sl u l, gen := 0, frozen := false })] := putAll_append _ _ _
                simp only [St.app] at hs ⊢
                rw [this]
                exact hs
              · simp only [execOp, ho]
                simp only [Instr.buildSlice, Sem.run_bind, hT.run_u, Result.andThen_ok, hT2.run_size]
                rw [if_neg (by omega)]
                have hfill' : Instr.fill (fun i => some (i * ei.size, ei.size)) ((Array.range (n * ei.size)).map fun k => zc[k % zc.size]!) (parts.map fun (i, x) => (i, a.eval x)).toList = some out := by
                  rw [Array.toList_map]; exact hfill
                by_cases h0 : n * ei.size = 0
                · rw [if_pos h0] at hzc ⊢
                  rw [hzc] at hfill'
                  simp only [Sem.run_bind, Sem.run_pure, Result.andThen_ok, hfill', newRow, run_newObj]
                · rw [if_neg h0] at hzc ⊢
                  rw [hzc] at hfill'
                  simp only [Sem.run_bind, Sem.run_pure, Result.andThen_ok, hT2.run_zero, hfill', newRow, run_newObj]
              · intro hr hl'
                refine ⟨rfl, .inr ⟨rfl, rfl, out, et, heap_push_new rfl, rfl, ?_, fun k hk => ?_⟩⟩
                · rw [hosz, hcs0, hln, husz]; simp
                · obtain ⟨dd, hd, hat⟩ := hrow k hk
                  refine ⟨dd, hd.mono hr, fun j v hj => ?_⟩
                  show World.cell? _ _ = _
                  rw [cell?_cells (heap_push_new rfl)]
                  have := hat j v hj
                  rw [Nat.zero_add] at this
                  simpa using this
              · simp only [Rep]
                refine ⟨⟨w.heap.size, 0, u.size, 0, out.size, false⟩, by simp [addL], rfl, Nat.le_refl _, some ⟨w.heap.size, 0, none⟩, n, rfl, Nat.le_refl _, fun _ => rfl, fun _ => .inr ⟨rfl, by simp, ?_⟩⟩
                simp only [Nat.zero_add]
                rw [hosz, hcs0, husz]
                exact Nat.le_refl _
            · cases e4
          · cases e4
      · cases hel
    · cases hel
  · cases e

end
end Go.Eng
