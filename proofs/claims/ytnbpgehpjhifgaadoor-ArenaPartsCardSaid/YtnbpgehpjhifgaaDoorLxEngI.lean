/-
  The abstract machine, part 9: each operation that makes a value alone.
-/
import Derived.Test.YtnbpgehpjhifgaaDoorLxEngH
import Derived.Laws.Tables
namespace Go.Eng

section
variable {c : Ctx} {I : Nat → Prop} {L : Ref → Option Pl} {s : St} {a : Act} {w : World} {call : CallF}

theorem run_vbind {m : HM AV} {h : Ref → Option Blk} {δ : Dl} {rs : List Nat} (e : (m.bind fun x => HM.ret (val x)).run call h = some (δ, rs)) :
    ∃ x, m.run call h = some (x, rs) ∧ δ = val x := by
  obtain ⟨x, l1, l2, h1, h2, rfl⟩ := HM.run_bind e
  obtain ⟨rfl, rfl⟩ := HM.run_ret h2
  exact ⟨x, by simpa using h1, rfl⟩

theorem op_build (h : Sim c I L s a w) (hE : EnvOK c.P c.E) {t : TypeId} {parts : Array (Nat × Operand)} {o : Oper} (ho : o.op = .build t parts) {newId : Nat} {δ : Dl} {rs : List Nat}
    (e : (aop c.E (aeval s.env) newId o.op).run call s.rd = some (δ, rs)) : OpOK c s a w o δ := by
  rw [ho] at e
  simp only [aop] at e
  have hmap : ((parts.toList.map fun (i, x) => (i, aeval s.env x)).map (·.1)) = ((parts.toList.map fun (i, x) => (i, a.eval x)).map (·.1)) := by simp
  have hrep : RepL (c.rc I L w) L ((parts.toList.map fun (i, x) => (i, aeval s.env x)).map (·.2)) ((parts.toList.map fun (i, x) => (i, a.eval x)).map (·.2)) := by
    have := h.evalL (parts.toList.map (·.2))
    simpa [Function.comp_def] using this
  split at e
  · rename_i ti hty
    obtain ⟨d, i, z, hT⟩ := hE.ty t ti hty
    split at e
    · rename_i fs hd
      split at e
      · rename_i cs hf
        obtain ⟨rfl, rfl⟩ := HM.run_ret e
        have hd' := hT.desc
        rw [hd] at hd'
        obtain ⟨fa, rfl, hfs⟩ := descOf_struct hd'
        obtain ⟨zs, hz, hr⟩ := fill_sound hmap hrep (hT.zeroL _ L) hf
        refine OpOK.value h (v := .agg zs) ?_ (by simp only [Rep]; exact ⟨zs, rfl, hr⟩)
        have hpl : fa.toList.mapM (fun f => (c.P.info? f.type).map fun i => (f.offset, i.size)) = some (fs.map (·.2)) := by
          rw [← hfs]
          have key : ∀ l : List Field, (∀ f, f ∈ l → (c.P.info? f.type).isSome = true) → l.mapM (fun f => (c.P.info? f.type).map fun i => (f.offset, i.size)) = some ((l.map fun f => (f.type, f.offset, c.P.cellsOf f.type)).map (·.2)) := by
            intro l
            induction l with
            | nil => intro _; rfl
            | cons f r ih =>
              intro hl
              obtain ⟨i, hi⟩ := Option.isSome_iff_exists.1 (hl f (by simp))
              have := ih fun g hg => hl g (by simp [hg])
              simp [List.mapM_cons, this, hi, Program.cellsOf]
          exact key _ fun f hf => hT.flds fa rfl f hf
        have hz' : Instr.fill (fun x => Option.map (fun x => x.snd) fs[x]?) z.cells (List.map (fun x => (x.fst, a.eval x.snd)) parts.toList) = some zs := hz
        simp only [execOp, ho]
        simp [Instr.build, hT.run_u, hT.run_zero, Array.mapM_eq_mapM_toList, run_places w _ _ hpl, hz']
      · cases e
    · rename_i n et hd
      split at e
      · rename_i ei hei
        split at e
        · rename_i cs hf
          obtain ⟨rfl, rfl⟩ := HM.run_ret e
          obtain ⟨d2, i2, z2, hT2⟩ := hE.ty et ei hei
          have hd' := hT.desc
          rw [hd] at hd'
          obtain rfl := descOf_arr hd'
          obtain ⟨zs, hz, hr⟩ := fill_sound hmap hrep (hT.zeroL _ L) hf
          refine OpOK.value h (v := .agg zs) ?_ (by simp only [Rep]; exact ⟨zs, rfl, hr⟩)
          simp only [execOp, ho]
          simp [Instr.build, hT.run_u, hT.run_zero, hT2.run_size, hz]
        · cases e
      · cases e
    · cases e
  · cases e

theorem moved_sound {R : RC} {L : Ref → Option Pl} {x y : AV} {v : Value} {d : Nat} (e : x.moved d = some y) (hx : Rep R L x v) :
    ∃ q : Addr, v = .pointer (some q) ∧ Rep R L y (.pointer (some (q.add d))) := by
  unfold AV.moved at e
  split at e
  · rename_i id i j g
    injection e with e
    subst e
    simp only [Rep] at hx ⊢
    obtain ⟨p, hp, hge, q', rfl, hy⟩ := hx
    refine ⟨q', rfl, p, hp, hge, _, rfl, fun he => ?_⟩
    rw [hy he, addr_add, Nat.add_assoc]
  · injection e with e
    subst e
    simp only [Rep] at hx
    subst hx
    exact ⟨_, rfl, by simp only [Rep]; rw [addr_add]⟩
  · injection e with e
    subst e
    simp only [Rep] at hx
    obtain ⟨b, o, rfl, hb, cs, hr, ha⟩ := hx
    refine ⟨_, rfl, ?_⟩
    simp only [Rep]
    exact ⟨b, o, by rw [addr_add, Nat.add_assoc], hb, cs, hr, ha⟩
  · cases e

theorem fieldOf_sound {P : Program} {E : Env} (hE : EnvOK P E) {t : TypeId} {f : Nat} {fd : TypeId × Nat × Nat} (e : fieldOf E t f = some fd) :
    ∃ (fs : Array Field) (fl : Field), P.underlying t = some (.struct fs) ∧ fs[f]? = some fl ∧ fl.type = fd.1 ∧ fl.offset = fd.2.1 ∧ P.cellsOf fl.type = fd.2.2 ∧ (P.info? fl.type).isSome = true := by
  unfold fieldOf at e
  split at e
  · rename_i ti hty
    obtain ⟨d, i, z, hT⟩ := hE.ty t ti hty
    split at e
    · rename_i fl hd
      have hd' := hT.desc
      rw [hd] at hd'
      obtain ⟨fs, rfl, hfs⟩ := descOf_struct hd'
      rw [← hfs] at e
      simp only [List.getElem?_map, Option.map_eq_some_iff] at e
      obtain ⟨g, hg, rfl⟩ := e
      refine ⟨fs, g, hT.u, by simpa using hg, rfl, rfl, rfl, hT.flds fs rfl g ?_⟩
      exact List.mem_of_getElem? hg
    · cases e
  · cases e

theorem op_fieldAddr (h : Sim c I L s a w) (hE : EnvOK c.P c.E) {t : TypeId} {x : Operand} {f : Nat} {o : Oper} (ho : o.op = .fieldAddr t x f) {newId : Nat} {δ : Dl} {rs : List Nat}
    (e : (aop c.E (aeval s.env) newId o.op).run call s.rd = some (δ, rs)) : OpOK c s a w o δ := by
  rw [ho] at e
  simp only [aop] at e
  split at e
  · rename_i fd hfd
    split at e
    · cases e
    · rename_i hne
      obtain ⟨y, hy, rfl⟩ := run_vbind e
      obtain ⟨hm, rfl⟩ := HM.run_one hy
      obtain ⟨q, hq, hr⟩ := moved_sound hm (h.eval x)
      obtain ⟨fs, fl, hu, hfl, h1, h2, h3, h4⟩ := fieldOf_sound hE hfd
      refine OpOK.value h ?_ hr
      obtain ⟨i, hi⟩ := Option.isSome_iff_exists.1 h4
      have hsz : i.size ≠ 0 := by
        intro h0
        apply hne
        rw [← h3]
        simp [Program.cellsOf, hi, h0]
      simp only [execOp, ho]
      rw [hq]
      simp [Instr.fieldAt, underlying, hu, hfl, Instr.sureAddr, fieldPlace, sizeOf, typeInfo, hi, hsz, h2]
  · cases e

theorem op_field (h : Sim c I L s a w) (hE : EnvOK c.P c.E) {t : TypeId} {x : Operand} {f : Nat} {o : Oper} (ho : o.op = .field t x f) {newId : Nat} {δ : Dl} {rs : List Nat}
    (e : (aop c.E (aeval s.env) newId o.op).run call s.rd = some (δ, rs)) : OpOK c s a w o δ := by
  rw [ho] at e
  simp only [aop] at e
  have hx := h.eval x
  split at e
  · rename_i fd l hfd hav
    rw [hav] at hx
    simp only [Rep] at hx
    obtain ⟨cs, hv, hl⟩ := hx
    split at e
    · rename_i ti hty
      obtain ⟨y, hy, rfl⟩ := run_vbind e
      obtain ⟨hm, rfl⟩ := HM.run_one hy
      obtain ⟨d, i, z, hT⟩ := hE.ty _ ti hty
      obtain ⟨fs, fl, hu, hfl, h1, h2, h3, h4⟩ := fieldOf_sound hE hfd
      obtain ⟨y', hrun, hr⟩ := run_part hT (w := w) hl hm
      refine OpOK.value h ?_ hr
      simp only [execOp, ho]
      rw [hv]
      simp [Instr.field, underlying, hu, hfl, asAgg, h1, h2, hrun]
    · cases e
  · cases e

theorem int?_sound {R : RC} {L : Ref → Option Pl} {x : AV} {v : Value} {k : IntKind} {n : Int} (e : x.int? = some (k, n)) (hx : Rep R L x v) : v = .int k n := by
  unfold AV.int? at e
  split at e
  · simp only [Option.some.injEq, Prod.mk.injEq] at e
    obtain ⟨rfl, rfl⟩ := e
    simpa only [Rep] using hx
  · cases e

theorem op_indexAddr (h : Sim c I L s a w) (hE : EnvOK c.P c.E) {t : TypeId} {x ix : Operand} {o : Oper} (ho : o.op = .indexAddr t x ix) {newId : Nat} {δ : Dl} {rs : List Nat}
    (e : (aop c.E (aeval s.env) newId o.op).run call s.rd = some (δ, rs)) : OpOK c s a w o δ := by
  rw [ho] at e
  simp only [aop] at e
  have hx := h.eval x
  obtain ⟨y, hy, rfl⟩ := run_vbind e
  clear e
  unfold indexAddrA at hy
  split at hy
  · rename_i k0 k ti hix hty
    have hv := int?_sound hix (h.eval ix)
    obtain ⟨d, i, z, hT⟩ := hE.ty _ ti hty
    have hd' := hT.desc
    split at hy
    · rename_i el u id i' n g htd hav
      rw [htd] at hd'
      obtain rfl := descOf_slice hd'
      rw [hav] at hx
      split at hy
      · rename_i ei hei
        obtain ⟨d2, i2, z2, hT2⟩ := hE.ty _ ei hei
        split at hy
        · rename_i hsz
          obtain ⟨h1, hy⟩ := HM.run_chk hy
          obtain ⟨h2, hy⟩ := HM.run_chk hy
          obtain ⟨rfl, rfl⟩ := HM.run_ret hy
          have h1 := of_decide_eq_true h1
          have h2 := of_decide_eq_true h2
          simp only [Rep] at hx
          obtain ⟨p, hp, hw, hge, ad, cap, hs, hcap, hsome, hcur⟩ := hx
          obtain ⟨q, rfl⟩ := Option.isSome_iff_exists.1 (hsome (by omega))
          refine OpOK.value h (v := .pointer (some (q.add (k.toNat * ei.size)))) ?_ ?_
          · simp only [execOp, ho]
            rw [hs, hv]
            have hb : 0 ≤ k ∧ k < (n : Int) := ⟨h1, by omega⟩
            simp [Instr.indexAt, hT.run_u, asIntOf, hb, hT2.run_size]
          · simp only [Rep]
            refine ⟨p, hp, hge, _, rfl, fun hg => ?_⟩
            rcases hcur hg with h0 | ⟨_, hq, _⟩
            · omega
            · simp only [Option.some.injEq] at hq
              rw [hq, addr_add, ← hsz, ← hw, Nat.add_zero, Nat.add_assoc, ← Nat.add_mul]
        · cases hy
      · cases hy
    · rename_i el u l htd hav
      rw [htd] at hd'
      obtain rfl := descOf_slice hd'
      rw [hav] at hx
      split at hy
      · rename_i ei hei
        obtain ⟨d2, i2, z2, hT2⟩ := hE.ty _ ei hei
        split at hy
        · rename_i hsz
          obtain ⟨h1, hy⟩ := HM.run_chk hy
          obtain ⟨h2, hy⟩ := HM.run_chk hy
          obtain ⟨rfl, rfl⟩ := HM.run_ret hy
          have h1 := of_decide_eq_true h1
          have h2 := of_decide_eq_true h2
          simp only [Rep] at hx
          obtain ⟨ad, cap, hs, hcap, hrow⟩ := hx
          obtain ⟨b, ob, rfl, hb, hi⟩ := hrow.1 (by omega)
          obtain ⟨cc, hc, hat⟩ := hi k.toNat h2
          simp only [List.cons.injEq, and_true] at hs
          refine OpOK.value h (v := .pointer (some ⟨b, ob + k.toNat * u.size, none⟩)) ?_ ?_
          · simp only [execOp, ho]
            rw [hs, hv]
            have hb : 0 ≤ k ∧ k < (l.length : Int) := ⟨h1, by omega⟩
            simp [Instr.indexAt, hT.run_u, asIntOf, hb, hT2.run_size, addr_add, hsz]
          · simp only [Rep]
            exact ⟨b, ob + k.toNat * u.size, rfl, hb, cc, RepL.ofT u hc, hat⟩
        · cases hy
      · cases hy
    · rename_i len el htd
      rw [htd] at hd'
      obtain rfl := descOf_arr hd'
      split at hy
      · rename_i ei hei
        obtain ⟨d2, i2, z2, hT2⟩ := hE.ty _ ei hei
        split at hy
        · rename_i hb
          obtain ⟨hm, rfl⟩ := HM.run_one hy
          obtain ⟨q, hq, hr⟩ := moved_sound hm hx
          refine OpOK.value h ?_ hr
          simp only [execOp, ho]
          rw [hq, hv]
          have hb' : 0 ≤ k ∧ k < (len : Int) := ⟨hb.1, by omega⟩
          simp [Instr.indexAt, hT.run_u, asIntOf, hb', hT2.run_size, Instr.sureAddr]
        · cases hy
      · cases hy
    · cases hy
  · cases hy

end
end Go.Eng
