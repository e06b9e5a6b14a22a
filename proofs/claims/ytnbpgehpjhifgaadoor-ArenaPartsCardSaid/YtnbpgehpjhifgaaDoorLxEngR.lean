/-
  The abstract machine, part 17: calls; every operation.
-/
import Derived.Test.YtnbpgehpjhifgaaDoorLxEngRd
namespace Go.Eng

theorem lt_of_heap {w : World} {g : Nat} {o : Obj} (h : w.heap[g]? = some o) : g < w.heap.size := (Array.getElem?_eq_some_iff.1 h).1

theorem WOK.mono {P : Program} {E : Env} {S : Ini} {w w' : World} (h : WOK P E S w) (hw : ∀ b, S.G b → w'.heap[b]? = w.heap[b]?) : WOK P E S w' := by
  refine ⟨fun g row hg => ?_, fun w'' h2 => h.eqs w'' fun b hb => (h2 b hb).trans (hw b hb), h.ne⟩
  obtain ⟨hG, cs, T, fz, hh, hr⟩ := h.glob g row hg
  exact ⟨hG, cs, T, fz, by rw [hw g hG]; exact hh, hr.mono (rle_of_heap (fun _ hb => hb) (fun b hb => hb.elim) (LLe.refl _)) (LLe.refl _)⟩

/-- WHAT A FUNCTION ANSWERS -/
def Con (P : Program) (E : Env) (S : Ini) (f : FuncId) (args : List AV) (bs : List Blk) (b0 : Nat) (r : AV) (ts : List Blk) (hp : List (Option Blk)) : Prop :=
  ∀ (w : World) (I : Nat → Prop) (L : Ref → Option Pl) (Rt : Nat → Prop) (B : Nat → Nat → Option Pl) (vs : Array Value), WOK P E S w → E.kinds.length ≤ b0 → Sim ⟨P, E, S, w, I, Rt, B⟩ I L ⟨args, entryH E (E.ks f) bs⟩ { tmps := vs, defers := [] } w →
    Calls P f vs w fun
      | .returned v, w' => ∃ I' L', Sim ⟨P, E, S, w, I, Rt, B⟩ I' L' ⟨[r], outH E (E.ks f) ts b0 hp⟩ { tmps := #[v], defers := [] } w'
      | _, _ => False

/-- what is told of functions -/
def CallOK (P : Program) (E : Env) (S : Ini) (call : CallF) : Prop := ∀ f as bs n r ts wr, call f as bs n = some (r, ts, wr) →
  ∃ hp, (∀ x, x ∈ hp → x.isSome = true) ∧ (∀ b, some b ∈ hp → b.isTab = false) ∧ wr = numb n hp ∧ Con P E S f as bs n r ts hp

section
variable {c : Ctx} {I : Nat → Prop} {L : Ref → Option Pl} {s : St} {a : Act} {w : World} {call : CallF}

theorem Sim.wok (h : Sim c I L s a w) (hW : WOK c.P c.E c.S c.w0) : WOK c.P c.E c.S w := hW.mono fun b hb => h.same b (h.fix b hb).1 (h.fix b hb).2

theorem HM.run_call {α : Type} {f : FuncId} {as : List AV} {bs : List Blk} {n : Nat} {k : AV → List Blk → List (Nat × Blk) → HM α} {h : Ref → Option Blk} {x : α} {l : List Nat} (e : (HM.call f as bs n k).run call h = some (x, l)) : ∃ r ts wr, call f as bs n = some (r, ts, wr) ∧ (k r ts wr).run call h = some (x, l) := by
  simp only [HM.run] at e
  split at e
  · rename_i r ts wr hr
    exact ⟨r, ts, wr, hr, e⟩
  · cases e

theorem like_ok {ks : List Nat} {bs ts : List Blk} {b0 : Nat} (h : likeBs bs ts = true) (hc : bs.all (cleanB ks) = true) : ts.all (Blk.ok ks false b0) = true := by
  obtain ⟨hl, hlike⟩ := likeBs_at h
  rw [List.all_eq_true]
  intro t ht
  obtain ⟨j, hj, rfl⟩ := List.getElem_of_mem ht
  have hjb : j < bs.length := by omega
  have hlk := hlike j bs[j] ts[j] (List.getElem?_eq_getElem hjb) (List.getElem?_eq_getElem hj)
  rw [List.all_eq_true] at hc
  obtain ⟨cs, l, gs, hct, hcs⟩ := cleanB_inv (hc bs[j] (List.getElem_mem hjb))
  unfold likeB at hlk
  rw [hct] at hlk
  split at hlk
  · rename_i hc0 hc1
    injection hc0 with hc0
    subst hc0
    simp only [Bool.and_eq_true, decide_eq_true_eq] at hlk
    obtain ⟨e, _⟩ := hlk
    subst e
    unfold Blk.ok
    rw [hc1]
    exact hcs
  · cases hlk

theorem run_even {P : Program} {x : Nat} (h : evenOK x = true) (w : World) : ((Extern.MathFloor.toIntegral "math.RoundToEven" .even) #[.float .f64 x]).run P w = .ok (.float .f64 (evenF x)) w := by
  have key : (Extern.MathFloor.toIntegral "math.RoundToEven" .even) #[.float .f64 x] = (match FloatKind.f64.decode x with
    | .nan s t =>
      if FloatKind.f64.format.quiet t = t then pure (.float .f64 x) else do
      let kept ← choose (.extern "math.Floor,Ceil,Trunc,RoundToEven.signallingNaN kept" 2)
      pure (.float .f64 (if kept == 1 then x else FloatKind.f64.encode (.nan s (FloatKind.f64.format.quiet t))))
    | d => pure (.float .f64 (FloatKind.f64.encode (d.integral .even)))) := rfl
  rw [key]
  unfold evenF
  unfold evenOK at h
  cases hd : FloatKind.f64.decode x with
  | nan s t =>
    rw [hd] at h
    simp only [decide_eq_true_eq] at h
    simp only [if_pos h]
    rfl
  | number s m i => rfl
  | infinity s => rfl

theorem op_call (h : Sim c I L s a w) (hE : EnvOK c.P c.E) (hW : WOK c.P c.E c.S c.w0) (hC : CallOK c.P c.E c.S call) {cl : Call} {o : Oper} (ho : o.op = .call cl) {f : Operand} (hb : cl.callee = .value f) {newId : Nat} (hn : ∀ j, j < 8 → s.heap[newId + j]? = some none) {δ : Dl} {rs : List Nat}
    (e : (aop c.E (aeval s.env) newId o.op).run call s.rd = some (δ, rs)) : OpOK c s a w o δ := by
  have ho' := ho
  rw [ho] at e
  simp only [aop, hb] at e
  have hf := h.eval f
  split at e
  · rename_i g af cp hav
    rw [hav] at hf
    simp only [Rep] at hf
    obtain ⟨a', c', hfv, ha', hc'⟩ := hf
    unfold callA at e
    split at e
    · split at e
      · rename_i k hk
        obtain ⟨fn, hfn, hname, hbody, hnext, hfind⟩ := hE.ext g k hk
        have hargs : RepL (c.rc I L w) L (af ++ cl.args.toList.map (aeval s.env) ++ cp) (a' ++ cl.args.map a.eval ++ c').toList := by
          simp only [Array.toList_append, Array.toList_map]
          exact (ha'.append (h.evalL _)).append hc'
        have hex : ∀ v, (k.row (a' ++ cl.args.map a.eval ++ c')).run c.P w = .ok v w → (execOp a.eval o).run c.P w = .ok (.value v) w := by
          intro v hv
          have hcf := run_callFunc_extern hfn hname hbody hnext hfind (a' ++ cl.args.map a.eval ++ c') w
          rw [hv] at hcf
          simp only [execOp, ho', resolve, hb, hfv, Deferred.ofValue, invoke]
          simpa [Sem.run_bind] using hcf
        generalize af ++ cl.args.toList.map (aeval s.env) ++ cp = as at *
        generalize a' ++ cl.args.map a.eval ++ c' = vs at *
        unfold extA at e
        split at e
        · rename_i b
          obtain ⟨rfl, rfl⟩ := HM.run_ret e
          simp only [RepL, Rep] at hargs
          obtain ⟨v, t, hvs, rfl, rfl⟩ := hargs
          have hvs : vs = #[.float .f64 b] := by
            apply Array.ext'
            simpa using hvs
          exact OpOK.value h (v := .int .u64 b) (hex _ (by rw [hvs]; rfl)) (by simp [Rep])
        · rename_i n
          obtain ⟨rfl, rfl⟩ := HM.run_ret e
          simp only [RepL, Rep] at hargs
          obtain ⟨v, t, hvs, rfl, rfl⟩ := hargs
          have hvs : vs = #[.int .u64 n] := by
            apply Array.ext'
            simpa using hvs
          exact OpOK.value h (v := .float .f64 n.toNat) (hex _ (by rw [hvs]; rfl)) (by simp [Rep])
        · rename_i x
          obtain ⟨hck, e⟩ := HM.run_chk e
          obtain ⟨rfl, rfl⟩ := HM.run_ret e
          simp only [RepL, Rep] at hargs
          obtain ⟨v, t, hvs, rfl, rfl⟩ := hargs
          have hvs : vs = #[.float .f64 x] := by
            apply Array.ext'
            simpa using hvs
          exact OpOK.value h (v := .float .f64 (evenF x)) (hex _ (by rw [hvs]; exact run_even hck w)) (by simp [Rep])
        · cases e
      · split at e
        · rename_i k hk
          obtain ⟨⟨fn, hfn, hn0, hname⟩, hlst⟩ := hE.lst g k hk
          have hargs : RepL (c.rc I L w) L (af ++ cl.args.toList.map (aeval s.env) ++ cp) (a' ++ cl.args.map a.eval ++ c').toList := by
            simp only [Array.toList_append, Array.toList_map]
            exact (ha'.append (h.evalL _)).append hc'
          have hexec : (execOp a.eval o).run c.P w = .ok (.enter g (a' ++ cl.args.map a.eval ++ c')) w := by
            have hname' : ¬ fn.name = "runtime.NumGoroutine" := by simpa using hname
            have hsome : fn.body.isSome = true := by
              cases hb : fn.body with
              | none => rw [hb] at hn0; cases hn0
              | some b => rfl
            obtain ⟨body, hbody⟩ := Option.isSome_iff_exists.1 hsome
            simp [execOp, ho', resolve, hb, hfv, Deferred.ofValue, invoke, callFunc, program, Sem.run, hfn, hname', hbody]
          exact op_lst h hlst hargs hexec (hn 0 (by omega)) e
        · cases e
    · rename_i fi hfi
      obtain ⟨fn, hfn, hbody, _, _, hname⟩ := hE.fn g fi hfi
      obtain ⟨hnd, hklt⟩ := hE.ks g
      obtain ⟨⟨as, ids⟩, r1, r2, e1, e2, rfl⟩ := HM.run_bind e
      cases hap : (apartR (c.E.ks g) ids && as.all (AV.ok (c.E.ks g) false 0 8)) with
      | false => simp only [hap] at e2; cases e2
      | true =>
      simp only [hap] at e2
      simp only [Bool.and_eq_true] at hap
      obtain ⟨hap, hok⟩ := hap
      obtain ⟨bs, r3, r4, e3, e4, rfl⟩ := HM.run_bind e2
      cases hclean : bs.all (cleanB (c.E.ks g)) with
      | false => simp only [hclean] at e4; cases e4
      | true =>
      simp only [hclean] at e4
      obtain ⟨r, ts, wr, hr, e5⟩ := HM.run_call e4
      split at e5
      · cases e5
      rename_i hcond
      simp only [Bool.and_eq_true] at hcond
      obtain ⟨⟨hble, hlike⟩, hb0⟩ := hcond
      have hlen8 := Nat.le_of_ble_eq_true hble
      have hb0 := Nat.le_of_ble_eq_true hb0
      obtain ⟨nb, hsome, hnt, rfl, hcon⟩ := hC g as _ newId r ts wr hr
      obtain ⟨hlen, hbk, _⟩ := rdAll_sound e3
      have hargs : RepL (c.rc I L w) L (af ++ cl.args.toList.map (aeval s.env) ++ cp) (a' ++ cl.args.map a.eval ++ c').toList := by
        simp only [Array.toList_append, Array.toList_map]
        exact (ha'.append (h.evalL _)).append hc'
      obtain ⟨g1, g2⟩ := exportL_sound h 8 e1 hargs
      have told : Told L s ids := fun r hr => (g1 r hr).2
      have hrep := g2 (heldBy I L ids) (fun b hb => .inl hb) (fun id hid p hp hv => .inr ⟨id, p, hid, hp, hv, rfl⟩)
      have hcal := h.callee hnd hklt hlen hbk hclean told hap hrep hok
      have hcon := hcon w (heldBy I L ids) _ (calleeRt (c.E.ks g) L) _ _ (h.wok hW) hb0 hcal
      have hpl : nb.length ≤ 8 := by rw [← numb_length nb newId hsome]; exact hlen8
      intro K Q hK
      have hexec : (execOp a.eval o).run c.P w = .ok (.enter g (a' ++ cl.args.map a.eval ++ c')) w := by
        have hn : fn.body.isNone = false := by rw [hbody]; rfl
        have hname' : ¬ fn.name = "runtime.NumGoroutine" := by simpa using hname
        simp [execOp, ho', resolve, hb, hfv, Deferred.ofValue, invoke, callFunc, program, Sem.run, hfn, hname', hbody]
      unfold Oper.wp
      rw [hexec, Oper.upon_enter]
      refine hcon.mono fun en w' hen => ?_
      cases en with
      | returned v =>
        obtain ⟨I', L', hS⟩ := hen
        simp only
        have hmemw : ∀ b, some b ∈ nb → ∃ id, (id, b) ∈ numb newId nb := by
          intro b hb
          obtain ⟨j, hj, e⟩ := List.getElem_of_mem hb
          exact ⟨_, numb_mem nb newId j b (by rw [List.getElem?_eq_getElem hj, e])⟩
        split at e5
        · rename_i hflat
          simp only [Bool.and_eq_true] at hflat
          obtain ⟨⟨hf1, hf2⟩, hf3⟩ := hflat
          obtain ⟨rfl, rfl⟩ := HM.run_ret e5
          rw [List.all_eq_true] at hf2
          obtain ⟨L2, h2, hrr⟩ := h.back (Ih := heldBy I L ids) (fun b hb => .inl hb) hnd hklt hlen hbk hclean hlike hb0 hsome hnt (fun j hj => hn j (by omega)) hS (fl := true) (I'' := I) (fun _ hb => hb) (fun _ hb => .inl hb) (fun b hb => hS.i0 b (.inl hb)) (fun e => by cases e) hf1 (fun b hb => by
            obtain ⟨id, hm⟩ := hmemw b hb
            exact hf2 _ hm) hf3
          exact hK I L2 _ _ (h2.put o.dst hrr)
        · split at e5
          · cases e5
          rename_i hok2
          simp only [Bool.and_eq_true] at hok2
          obtain ⟨hf1, hf2⟩ := hok2
          rw [List.all_eq_true] at hf2
          obtain ⟨fz, r5, r6, e6, e7, rfl⟩ := HM.run_bind e5
          obtain ⟨rfl, rfl⟩ := HM.run_ret e7
          have hF := h.freezeAll e6 told
          obtain ⟨f1, f2, f3, _, f5⟩ := told.freeze e6
          obtain ⟨L2, h2, hrr⟩ := hF.back (Ih := heldBy I L ids) (fun b hb => hb) hnd hklt hlen (fun j k b hj hb => by
              have hk0 := hbk j k b hj hb
              show (putAll s.heap fz)[k]? = _
              rw [f5 k fun hm => ?_]
              · exact hk0
              · have := told.notab hm hk0
                rw [List.all_eq_true] at hclean
                obtain ⟨cs, l, gs, hct, _⟩ := cleanB_inv (hclean b (List.mem_of_getElem? hb))
                simp [Blk.isTab, hct] at this) hclean hlike hb0 hsome hnt (fun j hj => by
              show (putAll s.heap fz)[newId + j]? = _
              have hfj := hn j (by omega)
              rw [f5 _ fun hm => ?_]
              · exact hfj
              · obtain ⟨p, hp, _⟩ := told _ hm
                rw [free_L h hfj] at hp
                cases hp) hS (fl := false) (I'' := I') (fun b hb => hS.i0 b hb) (fun b hb => hS.iN b hb) (fun _ hb => hb) (fun _ _ hb => hb) hf1 (fun b hb => by
            obtain ⟨id, hm⟩ := hmemw b hb
            exact hf2 _ hm) (like_ok hlike hclean)
          refine hK I' L2 _ _ ?_
          have h3 := h2.put o.dst hrr
          simp only [St.app, putAll_append] at h3 ⊢
          exact h3
      | panicked ch => exact hen.elim
      | outgrown => exact hen.elim
  · cases e

theorem op_store (h : Sim c I L s a w) (hE : EnvOK c.P c.E) {t : TypeId} {x y : Operand} {o : Oper} (ho : o.op = .store t x y) {newId : Nat} {δ : Dl} {rs : List Nat}
    (e : (aop c.E (aeval s.env) newId o.op).run call s.rd = some (δ, rs)) : OpOK c s a w o δ := by
  have ho' := ho
  rw [ho] at e
  simp only [aop] at e
  unfold storeA at e
  split at e
  · rename_i ti k io i j g hty hav
    split at e
    · rename_i hi
      subst hi
      exact op_storeObj h hE ho' hty hav e
    · cases e
  · rename_i ti id i j g hex hty hav
    obtain ⟨b, l', hb, e1, rfl⟩ := HM.run_rd e
    split at e1
    · rename_i hc
      obtain ⟨hg, hz⟩ := hc
      split at e1
      · cases e1
      · rename_i r hct
        split at e1
        · rename_i cs hcs
          split at e1
          · rename_i hcc
            obtain ⟨rfl, hall, hsz, hle⟩ := hcc
            obtain ⟨rfl, rfl⟩ := HM.run_ret e1
            cases id with
            | l id => exact op_storeBox h hE ho' hty hav hb hg hz hct hcs hall hsz hle
            | o k io q =>
              cases q with
              | zero => exact (hex k io rfl).elim
              | succ q =>
                obtain ⟨_, _, _, _, _, _, _, hv⟩ := rdH_o hb
                simp only [viewO] at hv
                split at hv
                · cases hv
                · split at hv
                  · simp only [Option.some.injEq] at hv
                    subst hv
                    cases hct
                  · cases hv
          · cases e1
        · cases e1
      · rename_i u l hct
        obtain ⟨hlt, e2⟩ := HM.run_chk e1
        obtain ⟨⟨y', ids⟩, r1, r2, e3, e4, rfl⟩ := HM.run_bind e2
        obtain ⟨fz, r3, r4, e5, e6, rfl⟩ := HM.run_bind e4
        split at e6
        · rename_i cs hcs
          split at e6
          · rename_i hcc
            obtain ⟨hall, hsz, hle, hno⟩ := hcc
            split at e6
            · rename_i z hdec
              obtain ⟨rfl, rfl⟩ := HM.run_ret e6
              exact op_storeSl h hE ho' hty hav hb hg hz hct (of_decide_eq_true hlt) e3 e5 hcs hall hsz hle hno hdec
            · cases e6
          · cases e6
        · cases e6
    · cases e1
  · cases e

/-- x[:0:0] -/
theorem op_empty (h : Sim c I L s a w) (hE : EnvOK c.P c.E) {t : TypeId} {x m : Operand} {lo hi : Option Operand} {o : Oper} (ho : o.op = .slice t x lo hi (some m)) {newId : Nat} (hn : s.heap[newId]? = some none) {δ : Dl} {rs : List Nat}
    (e : (aop c.E (aeval s.env) newId o.op).run call s.rd = some (δ, rs)) : OpOK c s a w o δ := by
  rw [ho] at e
  simp only [aop] at e
  have hx := h.eval x
  have hm := h.eval m
  obtain ⟨hlo1, hlo2⟩ := opt_eval h lo
  obtain ⟨hhi1, hhi2⟩ := opt_eval h hi
  unfold emptyA at e
  split at e
  case h_2 => cases e
  rename_i ti hty
  obtain ⟨d, i, z, hT⟩ := hE.ty _ ti hty
  have hd := hT.desc
  split at e
  case h_2 => cases e
  rename_i el htd
  rw [htd] at hd
  obtain rfl := descOf_slice hd
  split at e
  case h_2 => cases e
  rename_i ei hei
  obtain ⟨d2, i2, z2, hT2⟩ := hE.ty _ ei hei
  split at e
  case h_2 => cases e
  rename_i u k1 p k2 q hu hlo hhi hmv
  split at e
  case isFalse => cases e
  rename_i hpq
  obtain ⟨rfl, rfl⟩ := hpq
  have hlo := hlo2 hlo
  obtain ⟨vh, hvh, hrh⟩ := hhi1 _ hhi
  simp only [Rep] at hrh
  subst hrh
  rw [hmv] at hm
  simp only [Rep] at hm
  have hmv' : (some m).map a.eval = some (.int k2 0) := by rw [Option.map_some, hm]
  have hrun : ∀ len cap, (Instr.sliceBounds true len cap (lo.map a.eval) (hi.map a.eval) ((some m).map a.eval)).run c.P w = .ok (0, 0, 0) w := by
    intro len cap
    rw [hlo, hvh, hmv']
    simp [Instr.sliceBounds, Instr.sliceBound, asIntOf]
  have hexec : ∀ ad n cap, a.eval x = .slice ad n cap → (execOp a.eval o).run c.P w = .ok (.value (.slice ad 0 0)) w := by
    intro ad n cap hs
    simp only [execOp, ho]
    rw [hs]
    simp only [Instr.sliceAt, Instr.slice, Sem.run_bind, hT.run_u, Result.andThen_ok, hrun, hT2.run_size]
    rfl
  have fin : ∀ ad n cap, a.eval x = .slice ad n cap → OpOK c s a w o { x := .lsl u (.l newId) 0 0 0, wr := [(.l newId, { ct := .sl u [], gen := 0, frozen := false })] } := by
    intro ad n cap hs K Q hK
    unfold Oper.wp
    rw [hexec ad n cap hs, Oper.upon_value]
    have h2 := h.upd (p' := ⟨0, 0, u.size, 0, 0, true⟩) (b' := { ct := .sl u [], gen := 0, frozen := false }) (lt_of_free hn) (notab_free hn) rfl (fun q hq => by rw [free_L h hn] at hq; cases hq) (fun hv => by cases hv) (Nat.le_refl _) (IO.refl w) (fun _ _ _ => rfl) (fun _ _ => ⟨rfl, .inl ⟨rfl, rfl, rfl⟩⟩) (fun _ hv => by cases hv)
    refine hK I _ _ _ (h2.put o.dst ?_)
    simp only [Rep]
    exact ⟨⟨0, 0, u.size, 0, 0, true⟩, by simp [addL], rfl, Nat.le_refl _, ad, 0, rfl, Nat.le_refl _, fun h => absurd rfl h, fun _ => .inl rfl⟩
  split at e
  · rename_i hav
    rw [hav] at hx
    simp only [Rep] at hx
    obtain ⟨rfl, rfl⟩ := HM.run_ret e
    exact OpOK.value h (v := .slice none 0 0) (hexec none 0 0 hx) (by rw [hav]; simp [Rep])
  · rename_i t0 l0 hav
    rw [hav] at hx
    simp only [Rep] at hx
    obtain ⟨ad, cap, hs, _⟩ := hx
    simp only [List.cons.injEq, and_true] at hs
    obtain ⟨rfl, rfl⟩ := HM.run_ret e
    exact fin ad _ cap hs
  · rename_i t0 id0 i0 n0 g0 hav
    rw [hav] at hx
    simp only [Rep] at hx
    obtain ⟨p, hp, hw, hge, ad, cap, hs, _⟩ := hx
    obtain ⟨rfl, rfl⟩ := HM.run_ret e
    exact fin ad _ cap hs
  · cases e

/-- EVERY OPERATION -/
theorem aop_sound (h : Sim c I L s a w) (hE : EnvOK c.P c.E) (hW : WOK c.P c.E c.S c.w0) (hC : CallOK c.P c.E c.S call) {o : Oper} {newId : Nat} (hnn : ∀ j, j < wid o.op → s.heap[newId + j]? = some none) {δ : Dl} {rs : List Nat}
    (e : (aop c.E (aeval s.env) newId o.op).run call s.rd = some (δ, rs)) : OpOK c s a w o δ := by
  have hn : s.heap[newId]? = some none := hnn 0 (by unfold wid; split <;> (try split) <;> omega)
  cases ho : o.op with
  | move x => exact op_move h (.inl ho) e
  | assign x => exact op_move h (.inr ho) e
  | pick x y z => exact op_pick h ho e
  | alloc t =>
    cases hk : c.E.kind t with
    | none => exact op_alloc h hE ho hk hn e
    | some kc => obtain ⟨k, cs⟩ := kc; exact op_allocObj h hE ho hk e
  | box t x =>
    cases hk : c.E.kind t with
    | none => exact op_box h ho hk hn e
    | some kc => obtain ⟨k, cs⟩ := kc; exact op_boxObj h ho hk e
  | build t ps => exact op_build h hE ho e
  | buildSlice t n ps => exact op_buildSlice h hE ho hn e
  | load t x =>
    rw [ho] at e
    simp only [aop] at e
    obtain ⟨y, hy, rfl⟩ := run_vbind e
    exact op_load h hE hW ho hy
  | store t x y => exact op_store h hE ho e
  | nilCheck x => exact op_nilCheck h ho e
  | binOp op t x y t' => exact op_binOp h hE hW ho e
  | unOp op t x => exact op_unOp h ho e
  | convert t t' x => exact op_convert h hE ho e
  | makeInterface t x => exact op_makeInterface h hE ho e
  | makeFunc f x y => exact op_makeFunc h ho e
  | makeSlice t x y => exact op_makeSlice h hE ho hn e
  | slice t x lo hi mx =>
    cases mx with
    | none => exact op_slice h hE ho e
    | some m => exact op_empty h hE ho hn e
  | fieldAddr t x f => exact op_fieldAddr h hE ho e
  | field t x f => exact op_field h hE ho e
  | indexAddr t x ix => exact op_indexAddr h hE ho e
  | index t x ix => exact op_index h hE ho e
  | typeAssert x xt t ok => exact op_typeAssert h hE hW.ne ho e
  | extract t i => exact op_extract h ho e
  | call cl =>
    cases hb : cl.callee with
    | value f => exact op_call h hE hW hC ho hb (fun j hj => hnn j (by rw [ho]; simp only [wid, hb]; exact hj)) e
    | invoke r m => rw [ho] at e; simp only [aop, hb] at e; cases e
    | builtin b =>
      cases b with
      | len => exact op_len h hE ho hb e
      | append => exact op_append h hE ho hb hn e
      | copy => exact op_copy h hE ho hb e
      | clear => exact op_clear h hE ho hb e
      | max => exact op_max h ho hb e
      | min => exact op_min h ho hb e
      | _ => rw [ho] at e; simp only [aop, hb, builtinA] at e; cases e
  | _ => rw [ho] at e; simp only [aop] at e; cases e

end
end Go.Eng
