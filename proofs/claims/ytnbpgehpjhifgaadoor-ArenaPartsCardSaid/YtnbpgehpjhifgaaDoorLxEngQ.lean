/-
  The abstract machine, part 16: elements copied.
-/
import Derived.Test.YtnbpgehpjhifgaaDoorLxEngP
namespace Go.Eng

theorem Flat.take {R : RC} {u : Ty} {l : List (Val u)} {F : List Value} (h : Flat R u l F) {k : Nat} (hk : k ≤ l.length) : Flat R u (l.take k) (F.take (k * u.size)) := by
  have hle : k * u.size ≤ l.length * u.size := Nat.mul_le_mul_right _ hk
  refine ⟨by rw [List.length_take, List.length_take, h.1, Nat.min_eq_left hle, Nat.min_eq_left hk], fun j hj => ?_⟩
  rw [List.length_take, Nat.min_eq_left hk] at hj
  have h1 : (l.take k).getD j (dfl u) = l.getD j (dfl u) := by
    rw [List.getD_eq_getElem?_getD, List.getD_eq_getElem?_getD, List.getElem?_take_of_lt hj]
  have hj1 : (j + 1) * u.size ≤ k * u.size := Nat.mul_le_mul_right _ hj
  rw [Nat.add_mul, Nat.one_mul] at hj1
  have h2 : ((F.take (k * u.size)).drop (j * u.size)).take u.size = (F.drop (j * u.size)).take u.size := by
    rw [List.drop_take, List.take_take, Nat.min_eq_left (by omega)]
  rw [h1, h2]
  exact h.2 j (by omega)

section
variable {c : Ctx} {I : Nat → Prop} {L : Ref → Option Pl} {s : St} {a : Act} {w : World} {call : CallF}

theorem run_copy {P : Program} (w : World) {t d : TypeId} {ts : Array TypeId} {e : TypeId} {i : TypeInfo} {n cap m : Nat} {s x : Value} {G : List Value} {sz : Nat} (hts : ts[0]? = some t) (ht : P.underlying t = some (.slice e)) (hi : P.info? e = some i) (hsz : i.size = sz)
    {ad ad' : Option Addr} {cap' : Nat} (hs : s = .slice ad n cap) (hx : x = .slice ad' m cap') (hG : Reads w sz m x G) {w' : World}
    (hst : ∀ q, ad = some q → (storeCells q (G.take (min m n * sz))).run P w = .ok () w') (hnone : ad = none → w' = w) :
    (Builtin.copy_ ts d #[s, x]).run P w = .ok (.int .i64 ((min m n : Nat) : Int)) w' := by
  have hg2 := hG P w rfl (min m n) (Nat.min_le_left _ _)
  subst hs hx hsz
  cases ad with
  | none => rw [hnone rfl]; simp [Builtin.copy_, hts, run_underlying ht, sizeOf, typeInfo, hi, Builtin.lenOf, hg2]; rfl
  | some q => simp [Builtin.copy_, hts, run_underlying ht, sizeOf, typeInfo, hi, Builtin.lenOf, hg2, hst q rfl]; rfl

/-- Elements of a slice of the call's own are written, in place. -/
theorem Sim.splice (h : Sim c I L s a w) {r : Ref} {p : Pl} {b : Blk} {u : Ty} {l y : List (Val u)} (hp : L r = some p) (hbb : s.rd r = some b) (hz : b.frozen = false) (hct : b.ct = .sl u l) (hpv : p.virt = false) {i k : Nat} (hk : y.length = k) (hik : i + k ≤ l.length) {G : List Value}
    (hG : Flat (c.rc I L w) u y G) : ∃ w', (storeCells ⟨p.b, p.o + i * p.w, none⟩ G 0).run c.P w = .ok () w' ∧ Sim c I L ⟨s.env, putH s.heap r { b with ct := .sl u (l.take i ++ y ++ l.drop (i + k)) }⟩ a w' := by
  obtain ⟨⟨hpg, hkk⟩, hf⟩ := h.get hp hbb
  rw [hct] at hkk
  rcases hkk with ⟨hv', _⟩ | ⟨_, hpu, cells, T, hh, hps, hsz2, hrow⟩
  · rw [hpv] at hv'; cases hv'
  have hnI := hf hz hpv
  have hmul : (i + k) * p.w ≤ l.length * p.w := Nat.mul_le_mul_right _ hik
  rw [Nat.add_mul] at hmul
  have hGl : G.length = k * p.w := by rw [hG.1, hk, hpu]
  obtain ⟨w', erun, hs, hnew, hoth, hio⟩ := run_storeCells (P := c.P) (o := p.o + i * p.w) G 0 w cells hh (by rw [hps]; omega) (fun v hv => hG.cell v hv)
  refine ⟨w', erun, ?_⟩
  have hll : (l.take i ++ y ++ l.drop (i + k)).length = l.length := by simp; omega
  refine h.updIn hp hbb hct hll hs hio (fun k hk => hoth k (hk hpv)) (fun _ => hnI) hz fun hr' => ?_
  obtain ⟨F1, hF1, hat1⟩ := flat_of_rows (R := c.rc I L w) (u := u) (l := l.take i) (b := p.b) (o := p.o) fun j hj => by
    simp only [List.length_take] at hj
    obtain ⟨d, hd, hat⟩ := hrow j (by omega)
    refine ⟨d, ?_, by rw [← hpu]; exact hat⟩
    rw [List.getD_eq_getElem?_getD, List.getElem?_take_of_lt (by omega), ← List.getD_eq_getElem?_getD]
    exact hd
  obtain ⟨F3, hF3, hat3⟩ := flat_of_rows (R := c.rc I L w) (u := u) (l := l.drop (i + k)) (b := p.b) (o := p.o + (i + k) * p.w) fun j hj => by
    simp only [List.length_drop] at hj
    obtain ⟨d, hd, hat⟩ := hrow (i + k + j) (by omega)
    refine ⟨d, ?_, ?_⟩
    · rw [List.getD_eq_getElem?_getD, List.getElem?_drop, ← List.getD_eq_getElem?_getD]
      exact hd
    · rw [← hpu, Nat.add_assoc, ← Nat.add_mul]
      exact hat
  have hFl1 : F1.length = i * p.w := by
    rw [hF1.1, List.length_take, Nat.min_eq_left (by omega), hpu]
  refine ⟨hpg, .inr ⟨hpv, hpu, _, T, hnew, by rw [wrAt_size]; exact hps, by rw [hll]; exact hsz2, ?_⟩⟩
  have hall := ((hF1.append hG).append hF3).mono hr'
  rw [hpu]
  refine hall.rows fun j v hj => ?_
  show World.cell? _ _ = _
  rw [cell?_cells hnew]
  have hold : ∀ m, w.cell? ⟨p.b, m, none⟩ = cells[m]? := fun m => cell?_cells hh
  rcases Nat.lt_or_ge j (i * p.w) with hj1 | hj1
  · rw [List.append_assoc, List.getElem?_append_left (by omega)] at hj
    rw [wrAt_out _ _ _ _ (.inl (by omega)), ← hold]
    exact hat1 j v hj
  · rcases Nat.lt_or_ge j (i * p.w + k * p.w) with hj2 | hj2
    · rw [List.getElem?_append_left (by rw [List.length_append, hFl1, hGl]; exact hj2), List.getElem?_append_right (by omega)] at hj
      have := wrAt_in G cells (p.o + i * p.w + 0) (j - F1.length) (by omega) (by omega)
      rw [show p.o + i * p.w + 0 + (j - F1.length) = p.o + j from by omega] at this
      rw [this]
      exact hj
    · rw [List.getElem?_append_right (by rw [List.length_append, hFl1, hGl]; exact hj2), List.length_append, hFl1, hGl] at hj
      rw [wrAt_out _ _ _ _ (.inr (by omega)), ← hold]
      have := hat3 _ v hj
      rw [show p.o + (i + k) * p.w + (j - (i * p.w + k * p.w)) = p.o + j from by rw [Nat.add_mul]; omega] at this
      exact this

theorem op_copy (h : Sim c I L s a w) (hE : EnvOK c.P c.E) {cl : Call} {o : Oper} (ho : o.op = .call cl) (hb : cl.callee = .builtin .copy) {newId : Nat} {δ : Dl} {rs : List Nat}
    (e : (aop c.E (aeval s.env) newId o.op).run call s.rd = some (δ, rs)) : OpOK c s a w o δ := by
  have ho' := ho
  rw [ho] at e
  simp only [aop, hb] at e
  have hargs := h.evalL cl.args.toList
  generalize hts : cl.argTypes.toList = ts at e
  generalize has : cl.args.toList.map (aeval s.env) = as at e hargs
  unfold builtinA at e
  split at e <;> try (rename_i hbb; cases hbb; done)
  · rename_i t ts' x y _
    simp only [RepL] at hargs
    obtain ⟨vx, tl, hvs, hvx, vy, tl2, rfl, hvy, rfl⟩ := hargs
    have hts' : cl.argTypes[0]? = some t := by rw [← Array.getElem?_toList, hts]; rfl
    have has' : cl.args.map a.eval = #[vx, vy] := by
      apply Array.ext'
      rw [Array.toList_map, hvs]
    have exec : ∀ {v : Value} {w' : World}, (Builtin.copy_ cl.argTypes o.type #[vx, vy]).run c.P w = .ok v w' → (execOp a.eval o).run c.P w = .ok (.value v) w' := by
      intro v w' hr
      have hrun : (builtin .copy cl.argTypes o.type (cl.args.map fun | .const _ => true | _ => false) (cl.args.map a.eval)).run c.P w = .ok (.value v) w' := by
        rw [has']
        simp only [builtin, Sem.run_bind, hr]
        rfl
      simp only [execOp, ho', resolve, hb, invoke]
      exact hrun
    unfold copyA at e
    split at e
    · cases e
    · rename_i ti hel
      unfold elemT at hel
      split at hel
      · rename_i si hty
        obtain ⟨d, i0, z0, hT0⟩ := hE.ty _ si hty
        have hd := hT0.desc
        split at hel
        · rename_i et htd
          rw [htd] at hd
          obtain rfl := descOf_slice hd
          obtain ⟨d, ii, z, hT⟩ := hE.ty _ ti hel
          obtain ⟨r, r1, r2, e1, e2, rfl⟩ := HM.run_bind e
          have hseq := sliceSeq_sound h hvy e1
          cases r with
          | none => cases e2
          | some r =>
            obtain ⟨u, y'⟩ := r
            obtain ⟨ady, capy, G, hy, hG, hGr⟩ := hseq
            simp only at hy hG hGr
            simp only at e2
            split at e2
            · cases e2
            · rename_i hus
              have hus : u.size = ti.size := by simpa using hus
              have hsize : ii.size = u.size := by rw [hT.size, hus]
              split at e2
              · rename_i t0 id i n g
                obtain ⟨b, l', hbb, e3, rfl⟩ := HM.run_rd e2
                split at e3
                · rename_i hcond
                  obtain ⟨hg, hz, ht0⟩ := hcond
                  split at e3
                  · rename_i u' l hct
                    split at e3
                    · rename_i huu
                      subst huu
                      obtain ⟨hl, e4⟩ := HM.run_chk e3
                      obtain ⟨rfl, rfl⟩ := HM.run_ret e4
                      have hl := of_decide_eq_true hl
                      obtain ⟨p, ad, cap, F, hp, hpt, hpg, hf, hv, hcap, hF, hFr, hplace⟩ := lsl_base h hvx hbb hg hct hl
                      rw [castL_self]
                      by_cases h0 : min y'.length n = 0
                      · have hr := run_copy (P := c.P) (d := o.type) w (w' := w) hts' hT0.u hT.info hsize hv hy hGr (fun q _ => by rw [h0]; simp [storeCells]) (fun _ => rfl)
                        rw [h0]
                        rw [h0] at hr
                        refine OpOK.both (exec hr) (I' := I) (L' := L) ?_ (by simp [Rep, goInt])
                        simp only [putAll]
                        refine h.updIn hp hbb hct (by simp) rfl (IO.refl w) (fun _ _ => rfl) (fun hpv => hf hz hpv) hz fun _ => ?_
                        have hk := (h.get hp hbb).1
                        unfold BlkOK at hk ⊢
                        rw [hct] at hk
                        simpa using hk
                      · have hc0 : cap ≠ 0 := by omega
                        rcases hplace with hc | ⟨hpv, hpu, had, hroom, cells, T, hh, hps, hat⟩
                        · exact absurd hc hc0
                        have hnI := hf hz hpv
                        obtain ⟨k, hk⟩ : ∃ k, k = min y'.length n := ⟨_, rfl⟩
                        rw [← hk]
                        rw [← hk] at h0
                        have hky : k ≤ y'.length := by omega
                        have hG1 := hG.take hky
                        obtain ⟨w', erun, hS⟩ := h.splice hp hbb hz hct hpv (i := i) (k := k) (y := y'.take k) (by simp; omega) (by omega) hG1
                        have hr := run_copy (P := c.P) (d := o.type) w (w' := w') hts' hT0.u hT.info hsize hv hy hGr (fun q hq => by
                          rw [had] at hq
                          injection hq with hq
                          rw [← hq, ← hk]
                          exact erun) (fun hnn => by rw [had] at hnn; cases hnn)
                        rw [← hk] at hr
                        exact OpOK.both (exec hr) (I' := I) (L' := L) hS (by simp [Rep, goInt])
                    · cases e3
                  · cases e3
                · cases e3
              · cases e2
        · cases hel
      · cases hel
  · cases e

theorem flat_zeros {P : Program} {N : Names} {t : TypeId} {ti : TyI} {d : TypeDesc} {i : TypeInfo} {z : Value} (hT : TyOK P N t ti d i z) {u : Ty} (hu : ti.ty = some u) {R : RC} (hR : R.T.N = N) (n : Nat) : Flat R u (List.replicate n (dfl u)) (Builtin.zeroCells z.cells n).toList := by
  have hz := hT.zeroT hu hR
  have hzl := hz.length
  have hzs : z.cells.size = u.size := by simpa using hzl
  refine ⟨by simp [size_zeroCells, hzs], fun k hk => ?_⟩
  simp only [List.length_replicate] at hk
  have h1 : (List.replicate n (dfl u)).getD k (dfl u) = dfl u := by simp [List.getD_eq_getElem?_getD, hk]
  rw [h1]
  have h2 : ((Builtin.zeroCells z.cells n).toList.drop (k * u.size)).take u.size = z.cells.toList := by
    apply List.ext_getElem?
    intro j
    rcases Nat.lt_or_ge j u.size with hj | hj
    · rw [List.getElem?_take_of_lt hj, List.getElem?_drop, Array.getElem?_toList, Array.getElem?_toList]
      have := zeros_get z.cells n u.size k j hzs hk hj
      simpa [Builtin.zeroCells, hzs] using this
    · rw [List.getElem?_take_eq_none hj, List.getElem?_eq_none (by rw [hzl]; exact hj)]
  rw [h2]
  exact hz

theorem op_clear (h : Sim c I L s a w) (hE : EnvOK c.P c.E) {cl : Call} {o : Oper} (ho : o.op = .call cl) (hb : cl.callee = .builtin .clear) {newId : Nat} {δ : Dl} {rs : List Nat}
    (e : (aop c.E (aeval s.env) newId o.op).run call s.rd = some (δ, rs)) : OpOK c s a w o δ := by
  have ho' := ho
  rw [ho] at e
  simp only [aop, hb] at e
  have hargs := h.evalL cl.args.toList
  generalize hts : cl.argTypes.toList = ts at e
  generalize has : cl.args.toList.map (aeval s.env) = as at e hargs
  unfold builtinA at e
  split at e <;> try (rename_i hbb; cases hbb; done)
  · rename_i t x _
    simp only [RepL] at hargs
    obtain ⟨vx, tl, hvs, hvx, rfl⟩ := hargs
    have hts' : cl.argTypes[0]? = some t := by rw [← Array.getElem?_toList, hts]; rfl
    have has' : cl.args.map a.eval = #[vx] := by
      apply Array.ext'
      rw [Array.toList_map, hvs]
    have exec : ∀ {v : Value} {w' : World}, (Builtin.clear_ cl.argTypes o.type #[vx]).run c.P w = .ok v w' → (execOp a.eval o).run c.P w = .ok (.value v) w' := by
      intro v w' hr
      have hrun : (builtin .clear cl.argTypes o.type (cl.args.map fun | .const _ => true | _ => false) (cl.args.map a.eval)).run c.P w = .ok (.value v) w' := by
        rw [has']
        simp only [builtin, Sem.run_bind, hr]
        rfl
      simp only [execOp, ho', resolve, hb, invoke]
      exact hrun
    unfold clearA at e
    split at e
    · cases e
    · rename_i ti hel
      unfold elemT at hel
      split at hel
      · rename_i si hty
        obtain ⟨d, i0, z0, hT0⟩ := hE.ty _ si hty
        have hd := hT0.desc
        split at hel
        · rename_i et htd
          rw [htd] at hd
          obtain rfl := descOf_slice hd
          obtain ⟨d, ii, z, hT⟩ := hE.ty _ ti hel
          split at e
          · obtain ⟨rfl, rfl⟩ := HM.run_ret e
            simp only [Rep] at hvx
            subst hvx
            refine OpOK.value h (v := .tuple #[]) (exec ?_) (by simp [Rep])
            simp [Builtin.clear_, hts', hT0.run_u]
          · rename_i u t0 id i n g hu
            obtain ⟨b, l', hbb, e3, rfl⟩ := HM.run_rd e
            split at e3
            · rename_i hcond
              obtain ⟨hg, hz, ht0⟩ := hcond
              split at e3
              · rename_i u' l hct
                split at e3
                · rename_i huu
                  subst huu
                  obtain ⟨hl, e4⟩ := HM.run_chk e3
                  obtain ⟨rfl, rfl⟩ := HM.run_ret e4
                  have hl := of_decide_eq_true hl
                  obtain ⟨p, ad, cap, F, hp, hpt, hpg, hf, hv, hcap, hF, hFr, hplace⟩ := lsl_base h hvx hbb hg hct hl
                  by_cases h0 : n = 0
                  · subst h0
                    have hr : (Builtin.clear_ cl.argTypes o.type #[vx]).run c.P w = .ok (.tuple #[]) w := by
                      rw [hv]
                      cases ad <;> simp [Builtin.clear_, hts', hT0.run_u]
                    refine OpOK.both (exec hr) (I' := I) (L' := L) ?_ (by simp [Rep])
                    simp only [putAll]
                    refine h.updIn hp hbb hct (by simp) rfl (IO.refl w) (fun _ _ => rfl) (fun hpv => hf hz hpv) hz fun _ => ?_
                    have hk := (h.get hp hbb).1
                    unfold BlkOK at hk ⊢
                    rw [hct] at hk
                    simpa using hk
                  · rcases hplace with hc | ⟨hpv, hpu, had, hroom, cells, T, hh, hps, hat⟩
                    · omega
                    obtain ⟨w', erun, hS⟩ := h.splice hp hbb hz hct hpv (i := i) (k := n) (y := List.replicate n (dfl u)) (by simp) hl (flat_zeros hT hu rfl n)
                    have hr : (Builtin.clear_ cl.argTypes o.type #[vx]).run c.P w = .ok (.tuple #[]) w' := by
                      rw [hv, had]
                      obtain ⟨m, rfl⟩ := Nat.exists_eq_succ_of_ne_zero h0
                      simp [Builtin.clear_, hts', hT0.run_u, hT.run_zero, erun]
                    exact OpOK.both (exec hr) (I' := I) (L' := L) hS (by simp [Rep])
                · cases e3
              · cases e3
            · cases e3
          · cases e
        · cases hel
      · cases hel
  · cases e

end
end Go.Eng
