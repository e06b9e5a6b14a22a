/-
  The abstract machine, part 17d: elements laid into slices, taken out of them.
-/
import Derived.Test.YtnbpgehpjhifgaaDoorLxEngRc
namespace Go.Eng

section
variable {c : Ctx} {I : Nat → Prop} {L : Ref → Option Pl} {s : St} {a : Act} {w : World} {call : CallF}

theorem Flat.drop {R : RC} {u : Ty} {l : List (Val u)} {F : List Value} (h : Flat R u l F) (k : Nat) : Flat R u (l.drop k) (F.drop (k * u.size)) := by
  refine ⟨by rw [List.length_drop, List.length_drop, h.1, Nat.sub_mul], fun j hj => ?_⟩
  rw [List.length_drop] at hj
  have := h.2 (k + j) (by omega)
  rw [List.drop_drop, show k * u.size + j * u.size = (k + j) * u.size from by rw [Nat.add_mul]]
  rw [List.getD_eq_getElem?_getD] at this ⊢
  rw [List.getElem?_drop]
  exact this

/-- what a function has made of a slice of the call's own -/
theorem lst_own (h : Sim c I L s a w) {t0 u : Ty} {id i n g : Nat} {vx : Value} (hvx : Rep (c.rc I L w) L (.lsl t0 (.l id) i n g) vx) {b : Blk} (hbb : s.rd (.l id) = some b) (hg : g = b.gen) (hz : b.frozen = false) (ht0 : t0.size = u.size) {l : List (Val u)} (hct : b.ct = .sl u l) (hl : i + n = l.length) :
    ∃ ad cap F, vx = .slice ad n cap ∧ RowAt w u.size n ad cap F ∧ Flat (c.rc I L w) u ((l.drop i).take n) F ∧ (0 < cap → ∃ p, L (.l id) = some p ∧ p.virt = false ∧ ∃ o, ad = some ⟨p.b, o, none⟩) ∧
      ∀ (w' : World) (v : Value) (l' : List (Val u)) (F' : List Value), Flat (c.rc I L w) u l' F' → RowPost w w' u.size l'.length ad cap v F' →
        ∃ L', Sim c I L' ⟨s.env, s.heap.set id (some { ct := .sl u l', gen := g + 1, frozen := false })⟩ a w' ∧ Rep (c.rc I L' w') L' (.lsl u (.l id) 0 l'.length (g + 1)) v := by
  obtain ⟨p, ad, cap, F, hp, hpt, hpg, hf, hv, hcap, hF, hFr, hplace⟩ := lsl_base h hvx hbb hg hct (Nat.le_of_eq hl)
  have hb0 := rdv_l.1 (show rdv s.heap (.l id) = some b from hbb)
  have hid : id < s.heap.length := (List.getElem?_eq_some_iff.1 hb0).1
  have hnt : ∀ x, s.heap[id]? = some (some x) → x.isTab = false := fun x hx => by rw [hb0] at hx; injection hx with hx; injection hx with hx; subst hx; simp [Blk.isTab, hct]
  have hpu : p.w = u.size := by rw [hpt, ht0]
  have hFl : F.length = n * u.size := by
    rw [hF.1]
    congr 1
    simp; omega
  refine ⟨ad, cap, F, hv, ⟨hcap, hFl, fun v hv => hF.cell v hv, ?_⟩, hF, fun hc => ?_, ?_⟩
  · rcases hplace with h0 | ⟨hpv, _, had, hroom, cells, T, hh, hps, hat⟩
    · exact .inl h0
    · refine .inr ⟨p.b, _, cells, T, had, hh, ?_, hat⟩
      rw [hps, ← hpu]
      rw [Nat.add_mul] at hroom
      omega
  · rcases hplace with h0 | ⟨hpv, _, had, _⟩
    · omega
    · exact ⟨p, hp, hpv, _, had⟩
  · rintro w' v l' F' hF' ⟨hio, hFl', cap', hm, hpost⟩
    rcases hpost with ⟨b1, off, cs, cs', T, had, hh, rfl, hcc, hc0, hsz, hnew, hcs, hoth, hat⟩ | ⟨cs', T', hheap, rfl, hcs, hat⟩
    · rcases hplace with h0 | ⟨hpv, _, had2, hroom, cells, T2, hh2, hps, _⟩
      · omega
      rw [had2] at had
      injection had with had
      injection had with e1 e2
      subst e1; subst e2
      rw [hh2] at hh
      injection hh with hh
      injection hh with e1 e2
      subst e1; subst e2
      have hnI := hf hz hpv
      rw [Nat.add_mul] at hroom
      have hmul : l'.length * p.w ≤ cap * p.w := Nat.mul_le_mul_right _ (by omega)
      have hmul2 : cap' * p.w ≤ cap * p.w := Nat.mul_le_mul_right _ hcc
      refine ⟨addL L (.l id) { p with o := p.o + i * p.w, gen := g + 1 }, ?_, ?_⟩
      · refine h.upd hid hnt rfl (fun q hq => ?_) (fun _ => ⟨by rw [hsz]; exact (h.own _ p hp hpv).2, .inr ⟨p, hp, hpv, rfl⟩⟩) (by rw [hsz]; exact Nat.le_refl _) hio ?_ ?_ (fun _ _ => hnI)
        · rw [hp] at hq
          injection hq with hq
          subst hq
          exact ⟨rfl, .inr (by rw [hpg]; exact Nat.lt_succ_self _)⟩
        · intro k _ hk
          by_cases e : k = p.b
          · exact absurd (hk p hp hpv e) (by rw [e]; exact hnI)
          · exact hoth k e
        · intro hr' hl'
          refine ⟨rfl, .inr ⟨hpv, hpu, _, T2, hnew, by rw [hcs]; exact hps, ?_, ?_⟩⟩
          · simp only
            omega
          · simp only [hpu]
            refine (hF'.mono hr').rows fun j v hj => ?_
            show World.cell? _ _ = _
            rw [cell?_cells hnew, ← hpu]
            exact hat j v hj
      · simp only [Rep]
        refine ⟨{ p with o := p.o + i * p.w, gen := g + 1 }, by simp [addL], hpu, Nat.le_refl _, ad, cap', rfl, hm, fun _ => by rw [had2]; rfl, fun _ => .inr ⟨hpv, by simp [had2], ?_⟩⟩
        simp only [Nat.zero_add]
        omega
    · refine ⟨addL L (.l id) ⟨w.heap.size, 0, u.size, g + 1, cs'.size, false⟩, ?_, ?_⟩
      · refine h.upd hid hnt rfl (fun q hq => ?_) (fun _ => ⟨by rw [hheap]; simp, .inl (Nat.le_refl _)⟩) (by rw [hheap]; simp) hio (fun b hb _ => heap_push_old hheap b hb) ?_ ?_
        · rw [hp] at hq
          injection hq with hq
          subst hq
          exact ⟨hpu.symm, .inr (by rw [hpg]; exact Nat.lt_succ_self _)⟩
        · intro hr' hl'
          refine ⟨rfl, .inr ⟨rfl, rfl, cs', T', heap_push_new hheap, rfl, ?_, ?_⟩⟩
          · simp only [Nat.zero_add]
            exact Nat.le_trans (Nat.mul_le_mul_right _ hm) hcs
          · refine (hF'.mono hr').rows fun j v hj => ?_
            show World.cell? _ _ = _
            rw [cell?_cells (heap_push_new hheap), Nat.zero_add]
            exact hat j v hj
        · intro _ _ hI
          have := h.imm _ hI
          simp only at this
          omega
      · simp only [Rep]
        refine ⟨⟨w.heap.size, 0, u.size, g + 1, cs'.size, false⟩, by simp [addL], rfl, Nat.le_refl _, some ⟨w.heap.size, 0, none⟩, cap', rfl, hm, fun _ => rfl, fun _ => .inr ⟨rfl, by simp, ?_⟩⟩
        simp only [Nat.zero_add]
        exact hcs

/-- a slice made one of the call's own -/
theorem ownA_sound (h : Sim c I L s a w) {newId : Nat} (hn : s.heap[newId]? = some none) {u : Ty} {x : AV} {vx : Value} (hvx : Rep (c.rc I L w) L x vx) {id g : Nat} {l : List (Val u)} {wr : List (Ref × Blk)} {rs : List Nat}
    (e : (ownA newId u x).run call s.rd = some ((id, g, l, wr), rs)) :
    ∃ L1 t0 i n lb b, LLe L L1 ∧ (∀ j, j ≠ newId → L1 (.l j) = L (.l j)) ∧ Sim c I L1 ⟨s.env, (putAll s.heap wr).set id (some b)⟩ a w ∧ Rep (c.rc I L1 w) L1 (.lsl t0 (.l id) i n g) vx ∧ t0.size = u.size ∧ b.gen = g ∧ b.frozen = false ∧ b.ct = .sl u lb ∧ i + n = lb.length ∧ l = (lb.drop i).take n ∧ id < s.heap.length ∧ (id = newId ∨ s.rd (.l id) = some b) := by
  unfold ownA at e
  split at e
  · rename_i t0 id' i n g'
    obtain ⟨b, l', hb, e1, rfl⟩ := HM.run_rd e
    split at e1
    · rename_i hc
      obtain ⟨hg, hf, ht⟩ := hc
      split at e1
      · rename_i u' lb hct
        split at e1
        · rename_i huu
          subst huu
          obtain ⟨hl, e2⟩ := HM.run_chk e1
          obtain ⟨e3, _⟩ := HM.run_ret e2
          simp only [Prod.mk.injEq] at e3
          obtain ⟨rfl, rfl, rfl, rfl⟩ := e3
          have hb0 := rdv_l.1 (show rdv s.heap (.l id) = some b from hb)
          have hset : s.heap.set id (some b) = s.heap := by
            have hlt := (List.getElem?_eq_some_iff.1 hb0).1
            have := List.set_getElem_self (as := s.heap) hlt
            rw [(List.getElem?_eq_some_iff.1 hb0).2] at this
            exact this
          refine ⟨L, t0, i, n, lb, b, LLe.refl L, fun _ _ => rfl, ?_, hvx, ht, hg.symm, hf, hct, of_decide_eq_true hl, rfl, (List.getElem?_eq_some_iff.1 hb0).1, .inr hb⟩
          simp only [putAll]
          rw [hset]
          exact h
        · cases e1
      · cases e1
    · cases e1
  · rename_i t0 k io q i n g'
    obtain ⟨b, l', hbb, e1, rfl⟩ := HM.run_rd e
    obtain ⟨tb, l'', htb, e4, rfl⟩ := HM.run_rd e1
    split at e4
    · rename_i hcond
      obtain ⟨hg, ht0⟩ := hcond
      split at e4
      · rename_i u' lb cs rows st gs hct htct
        split at e4
        · rename_i huu
          subst huu
          obtain ⟨hl, e5⟩ := HM.run_chk e4
          obtain ⟨e3, _⟩ := HM.run_ret e5
          simp only [Prod.mk.injEq] at e3
          obtain ⟨rfl, rfl, rfl, rfl⟩ := e3
          have hvx' := hvx
          simp only [Rep] at hvx'
          obtain ⟨p, hp, hpw, hge, ad, cap, hs, hcap, hsome, hcur⟩ := hvx'
          obtain ⟨⟨hpg, _⟩, _⟩ := h.get hp hbb
          have hd := h.detach hp hbb hct htb htct hn
          have hql : q ≠ 0 := by
            intro e
            subst e
            obtain ⟨_, _, _, _, _, _, _, hv⟩ := rdH_o hbb
            simp only [viewO, Option.some.injEq] at hv
            subst hv
            cases hct
          have hL' : LLe L (addL (addL L (.o k io q) { p with gen := p.gen + 1, virt := true }) (.l id) { p with gen := 0 }) := by
            refine LLe.trans (addL_le (id := .o k io q) (p := { p with gen := p.gen + 1, virt := true }) (fun x hx => ?_) (fun hb => ?_)) (addL_le (fun x hx => ?_) (fun hb => hb))
            · rw [hp] at hx
              injection hx with hx
              subst hx
              exact ⟨rfl, Nat.lt_succ_self _⟩
            · cases q with
              | zero => exact hql rfl
              | succ q => exact hb
            · have := free_L h hn
              simp only [addL] at hx
              rw [if_neg (by simp), this] at hx
              cases hx
          refine ⟨_, t0, i, n, lb, { ct := .sl u' lb, gen := 0, frozen := false }, hL', fun j hj => by simp [addL, hj], ?_, ?_, ht0, rfl, rfl, rfl, of_decide_eq_true hl, rfl, lt_of_free hn, .inl rfl⟩
          · simp only [putAll, putH]
            exact hd
          · simp only [Rep]
            exact ⟨{ p with gen := 0 }, by simp [addL], hpw, Nat.le_refl _, ad, cap, hs, hcap, hsome, fun _ => hcur (by rw [hpg, hg])⟩
        · cases e4
      · cases e4
    · cases e4
  · obtain ⟨e3, _⟩ := HM.run_ret e
    simp only [Prod.mk.injEq] at e3
    obtain ⟨rfl, rfl, rfl, rfl⟩ := e3
    have hL := free_L h hn
    simp only [Rep] at hvx
    refine ⟨addL L (.l id) ⟨0, 0, u.size, 0, 0, true⟩, u, 0, 0, [], { ct := .sl u [], gen := 0, frozen := false }, addL_le (fun q hq => by rw [hL] at hq; cases hq) (fun hb => hb), fun j hj => by simp [addL, hj], ?_, ?_, rfl, rfl, rfl, rfl, rfl, rfl, lt_of_free hn, .inl rfl⟩
    · simp only [putAll]
      refine h.upd (lt_of_free hn) (notab_free hn) rfl (fun q hq => by rw [hL] at hq; cases hq) (fun hv => by cases hv) (Nat.le_refl _) (IO.refl w) (fun _ _ _ => rfl) ?_ (fun _ hv => by cases hv)
      intro _ _
      exact ⟨rfl, .inl ⟨rfl, rfl, rfl⟩⟩
    · simp only [Rep]
      exact ⟨⟨0, 0, u.size, 0, 0, true⟩, by simp [addL], rfl, Nat.le_refl _, none, 0, hvx, Nat.le_refl _, fun hne => absurd rfl hne, fun _ => .inl rfl⟩
  · cases e

theorem hd_flat {R : RC} {k : Nat} (hinj : ∀ i j b, R.H k i = some b → R.H k j = some b → i = j) {h : Option Nat} {xv : Value} (hx : RepT R (.hd k) h [xv]) : ∀ {l : List (Option Nat)} {F : List Value}, Flat R (.hd k) l F →
    Flat R (.hd k) (l.filter fun y => !decide (y = h)) (F.filter fun v => !ptrEq v xv) ∧ ∀ v, v ∈ F → ∃ y, RepT R (.hd k) y [v]
  | [], F, hF => by
    have : F = [] := List.length_eq_zero_iff.1 (by rw [hF.1]; rfl)
    subst this
    exact ⟨Flat.nil _ _, fun v hv => by cases hv⟩
  | y :: l, F, hF => by
    cases F with
    | nil => have := hF.1; simp [Ty.size] at this
    | cons v F =>
      have h0 : RepT R (.hd k) y [v] := by
        have := hF.2 0 (by simp)
        simpa [Ty.size] using this
      have h1 : Flat R (.hd k) l F := by
        have := hF.drop 1
        simpa [Ty.size] using this
      obtain ⟨g1, g2⟩ := hd_flat hinj hx h1
      have hsame : ptrEq v xv = decide (y = h) := by
        cases y with
        | none =>
          have e1 : v = .pointer none := by simpa [RepT] using h0
          subst e1
          cases h with
          | none =>
            have e2 : xv = .pointer none := by simpa [RepT] using hx
            subst e2
            rfl
          | some j =>
            obtain ⟨b, _, e2⟩ := hx
            have e2 : xv = .pointer (some ⟨b, 0, none⟩) := by simpa using e2
            subst e2
            rfl
        | some i =>
          obtain ⟨b, hb, e1⟩ := h0
          have e1 : v = .pointer (some ⟨b, 0, none⟩) := by simpa using e1
          subst e1
          cases h with
          | none =>
            have e2 : xv = .pointer none := by simpa [RepT] using hx
            subst e2
            rfl
          | some j =>
            obtain ⟨b', hb', e2⟩ := hx
            have e2 : xv = .pointer (some ⟨b', 0, none⟩) := by simpa using e2
            subst e2
            show Nat.beq b b' = _
            by_cases hij : i = j
            · subst hij
              rw [hb] at hb'
              injection hb' with hb'
              subst hb'
              simp
            · have : b ≠ b' := fun e => hij (hinj i j b hb (by rw [e]; exact hb'))
              cases hq : Nat.beq b b' with
              | true => exact absurd (Nat.eq_of_beq_eq_true hq) this
              | false => simp [hij]
      refine ⟨?_, fun u hu => ?_⟩
      · simp only [List.filter_cons, hsame]
        cases decide (y = h) with
        | true => exact g1
        | false =>
          simp only [Bool.not_false, if_true]
          have one : Flat R (.hd k) [y] [v] := ⟨rfl, fun j hj => by
            have : j = 0 := by simpa using hj
            subst this
            simpa [Ty.size] using h0⟩
          exact one.append g1
      · rcases List.mem_cons.1 hu with rfl | hu
        · exact ⟨y, h0⟩
        · exact g2 u hu

theorem op_lst (h : Sim c I L s a w) {f : FuncId} {k : LstK} (hlst : LstOK c.P f k) {as : List AV} {vs : Array Value} {o : Oper} (hargs : RepL (c.rc I L w) L as vs.toList) (hexec : (execOp a.eval o).run c.P w = .ok (.enter f vs) w)
    {newId : Nat} (hn : s.heap[newId]? = some none) {δ : Dl} {rs : List Nat} (e : (lstA newId k as).run call s.rd = some (δ, rs)) : OpOK c s a w o δ := by
  unfold lstA at e
  split at e
  · rename_i sz wd x i t1 iy lo m gy
    obtain ⟨yb, l1, hyb, e1, rfl⟩ := HM.run_rd e
    split at e1
    · rename_i hgy
      split at e1
      · rename_i u y hyct
        split at e1
        · rename_i hsz
          obtain ⟨husz, ht1⟩ := hsz
          subst husz
          obtain ⟨hlm, e2⟩ := HM.run_chk e1
          have hlm := of_decide_eq_true hlm
          obtain ⟨⟨id, g, l, wr⟩, r1, r2, e3, e4, rfl⟩ := HM.run_bind e2
          simp only at e4
          cases hbe : Nat.beq id iy with
          | true => rw [hbe] at e4; cases e4
          | false =>
          rw [hbe] at e4
          obtain ⟨hm0, e5⟩ := HM.run_chk e4
          obtain ⟨hi0, e6⟩ := HM.run_chk e5
          obtain ⟨hil, e7⟩ := HM.run_chk e6
          obtain ⟨hmost, e8⟩ := HM.run_chk e7
          obtain ⟨rfl, rfl⟩ := HM.run_ret e8
          have hm0 := of_decide_eq_true hm0
          have hi0 := of_decide_eq_true hi0
          have hil := of_decide_eq_true hil
          have hmost := of_decide_eq_true hmost
          have hidy : id ≠ iy := fun e => by rw [e, Nat.beq_refl] at hbe; cases hbe
          simp only [RepL] at hargs
          obtain ⟨vx, t2, hvs, hvx, vi, t3, rfl, hvi, vy, t4, rfl, hvy, rfl⟩ := hargs
          have hvi : vi = .int .i64 i := by simpa only [Rep] using hvi
          subst hvi
          have hvs : vs = #[vx, .int .i64 i, vy] := by
            apply Array.ext'
            simpa using hvs
          subst hvs
          obtain ⟨py, ay, capy, G, hpy, hpyt, hpyg, _, hvyv, hcapy, hG, _, hyplace⟩ := lsl_base h hvy hyb hgy hyct hlm
          subst hvyv
          have hlen : ((y.drop lo).take m).length = m := by simp; omega
          obtain ⟨L1, t0, i1, n, lb, b, hLL, hLo, h1, hvx1, ht0, hbg, hbf, hbct, hlb, hl, hid, _⟩ := ownA_sound h hn hvx e3
          have hrd1 : St.rd ⟨s.env, (putAll s.heap wr).set id (some b)⟩ (.l id) = some b := by
            refine rdv_l.2 (List.getElem?_set_self ?_)
            have hp1 : ∃ p, L1 (.l id) = some p := by
              simp only [Rep] at hvx1
              obtain ⟨p, hp, _⟩ := hvx1
              exact ⟨p, hp⟩
            obtain ⟨p, hp⟩ := hp1
            obtain ⟨x, hx⟩ := h1.dom _ p hp
            have := (List.getElem?_eq_some_iff.1 (rdv_l.1 hx)).1
            simpa using this
          obtain ⟨ad, cap, F, hvxv, hrow, hflat, hpl, hfin⟩ := lst_own h1 hvx1 hrd1 hbg.symm hbf ht0 hbct hlb
          subst hvxv
          rw [← hl] at hflat
          have hln : l.length = n := by rw [hl]; simp; omega
          have hrle : RLe (c.rc I L w) (c.rc I L1 w) := rle_of_heap (fun _ hb => hb) (fun _ _ => rfl) hLL
          have hrowy : RowAt w u.size m ay capy G := by
            refine ⟨hcapy, by rw [hG.1, hlen], fun v hv => hG.cell v hv, ?_⟩
            rcases hyplace with h0 | ⟨hpv, hpw, had, hroom, cells, T, hh, hps, hat⟩
            · exact .inl h0
            · refine .inr ⟨py.b, _, cells, T, had, hh, ?_, hat⟩
              rw [hps, ← hpw]
              rw [Nat.add_mul] at hroom
              omega
          have hne : ∀ b off b' off', ad = some ⟨b, off, none⟩ → ay = some ⟨b', off', none⟩ → 0 < cap → b ≠ b' := by
            rintro b1 off b2 off' e1 e2 hc rfl
            obtain ⟨p, hp, hpv, o1, had⟩ := hpl hc
            rcases hyplace with h0 | ⟨hyv, _, hay, _⟩
            · omega
            · rw [had] at e1
              injection e1 with e1
              injection e1 with e1 _
              rw [hay] at e2
              injection e2 with e2
              injection e2 with e2 _
              have hiy : iy ≠ newId := fun e => by
                rw [e, free_L h hn] at hpy
                cases hpy
              have := h1.inj (.l id) (.l iy) p py hp (by rw [hLo iy hiy]; exact hpy) hpv hyv (by rw [e1, e2])
              injection this with this
              exact hidy this
          have hcall := hlst w n ad cap F i.toNat m ay capy G hrow hrowy hne hm0 (by rw [← hln]; exact hil) (by rw [hln] at hmost; exact hmost)
          have hii : ((i.toNat : Nat) : Int) = i := Int.toNat_of_nonneg hi0
          rw [hii] at hcall
          intro K Q hK
          unfold Oper.wp
          rw [hexec, Oper.upon_enter]
          refine hcall.mono fun en w' hen => ?_
          obtain ⟨v, rfl, hpost⟩ := hen
          have hl' : (l.take i.toNat ++ (y.drop lo).take m ++ l.drop i.toNat).length = n + m := by
            rw [List.length_append, List.length_append, hlen, List.length_take, List.length_drop]
            omega
          have hflat' : Flat (c.rc I L1 w) u (l.take i.toNat ++ (y.drop lo).take m ++ l.drop i.toNat) (F.take (i.toNat * u.size) ++ G ++ F.drop (i.toNat * u.size)) :=
            ((hflat.take hil).append (hG.mono hrle)).append (hflat.drop _)
          obtain ⟨L', hS, hrep⟩ := hfin w' v _ _ hflat' (by rw [hl']; exact hpost)
          rw [hl'] at hrep
          have h3 := hS.put o.dst hrep
          simp only [List.set_set] at h3
          refine hK I L' _ _ ?_
          simp only [St.app, putAll_append, putAll, putH]
          rw [hln]
          exact h3
        · cases e1
      · cases e1
    · cases e1
  · rename_i sz u r lo n0 g0 i j
    split at e
    · rename_i husz
      subst husz
      obtain ⟨⟨id, g, l, wr⟩, r1, r2, e3, e4, rfl⟩ := HM.run_bind e
      simp only at e4
      obtain ⟨hm0, e5⟩ := HM.run_chk e4
      obtain ⟨hi0, e6⟩ := HM.run_chk e5
      obtain ⟨hij, e7⟩ := HM.run_chk e6
      obtain ⟨hj0, e8⟩ := HM.run_chk e7
      obtain ⟨hjl, e9⟩ := HM.run_chk e8
      obtain ⟨rfl, rfl⟩ := HM.run_ret e9
      have hm0 := of_decide_eq_true hm0
      have hi0 := of_decide_eq_true hi0
      have hij := of_decide_eq_true hij
      have hj0 := of_decide_eq_true hj0
      have hjl := of_decide_eq_true hjl
      simp only [RepL] at hargs
      obtain ⟨vx, t2, hvs, hvx, vi, t3, rfl, hvi, vj, t4, rfl, hvj, rfl⟩ := hargs
      have hvi : vi = .int .i64 i := by simpa only [Rep] using hvi
      have hvj : vj = .int .i64 j := by simpa only [Rep] using hvj
      subst hvi; subst hvj
      have hvs : vs = #[vx, .int .i64 i, .int .i64 j] := by
        apply Array.ext'
        simpa using hvs
      subst hvs
      obtain ⟨L1, t0, i1, n, lb, b, hLL, hLo, h1, hvx1, ht0, hbg, hbf, hbct, hlb, hl, hid, _⟩ := ownA_sound h hn hvx e3
      have hrd1 : St.rd ⟨s.env, (putAll s.heap wr).set id (some b)⟩ (.l id) = some b := by
        refine rdv_l.2 (List.getElem?_set_self ?_)
        have hp1 : ∃ p, L1 (.l id) = some p := by
          simp only [Rep] at hvx1
          obtain ⟨p, hp, _⟩ := hvx1
          exact ⟨p, hp⟩
        obtain ⟨p, hp⟩ := hp1
        obtain ⟨x, hx⟩ := h1.dom _ p hp
        have := (List.getElem?_eq_some_iff.1 (rdv_l.1 hx)).1
        simpa using this
      obtain ⟨ad, cap, F, hvxv, hrow, hflat, hpl, hfin⟩ := lst_own h1 hvx1 hrd1 hbg.symm hbf ht0 hbct hlb
      subst hvxv
      rw [← hl] at hflat
      have hln : l.length = n := by rw [hl]; simp; omega
      have hcall := hlst w n ad cap F i.toNat j.toNat hrow (by omega) hij (by omega)
      have hii : ((i.toNat : Nat) : Int) = i := Int.toNat_of_nonneg hi0
      have hjj : ((j.toNat : Nat) : Int) = j := Int.toNat_of_nonneg hj0
      rw [hii, hjj] at hcall
      intro K Q hK
      unfold Oper.wp
      rw [hexec, Oper.upon_enter]
      refine hcall.mono fun en w' hen => ?_
      obtain ⟨v, rfl, hpost⟩ := hen
      have hl' : (l.take i.toNat ++ l.drop j.toNat).length = n - (j.toNat - i.toNat) := by
        simp only [List.length_append, List.length_take, List.length_drop]
        omega
      have hflat' : Flat (c.rc I L1 w) u (l.take i.toNat ++ l.drop j.toNat) (F.take (i.toNat * u.size) ++ F.drop (j.toNat * u.size)) :=
        (hflat.take (by omega)).append (hflat.drop _)
      obtain ⟨L', hS, hrep⟩ := hfin w' v _ _ hflat' (by rw [hl']; exact hpost)
      rw [hl'] at hrep
      have h3 := hS.put o.dst hrep
      simp only [List.set_set] at h3
      refine hK I L' _ _ ?_
      simp only [St.app, putAll_append, putAll, putH]
      rw [hln]
      exact h3
    · cases e
  · rename_i g k u r lo n0 gg g' ib gb
    split at e
    · rename_i hgu
      obtain ⟨rfl, rfl⟩ := hgu
      obtain ⟨bb, l1, hbb, e1, rfl⟩ := HM.run_rd e
      split at e1
      · rename_i hgb
        split at e1
        · rename_i k' hh hbct
          split at e1
          · rename_i hk
            subst hk
            obtain ⟨⟨idn, gn, l, wr⟩, r1, r2, e3, e4, rfl⟩ := HM.run_bind e1
            simp only at e4
            cases hbe : Nat.beq idn ib with
            | true => rw [hbe] at e4; cases e4
            | false =>
            rw [hbe] at e4
            obtain ⟨hm0, e5⟩ := HM.run_chk e4
            obtain ⟨hmost, e6⟩ := HM.run_chk e5
            obtain ⟨rfl, rfl⟩ := HM.run_ret e6
            have hm0 := of_decide_eq_true hm0
            have hmost := of_decide_eq_true hmost
            have hidy : idn ≠ ib := fun e => by rw [e, Nat.beq_refl] at hbe; cases hbe
            simp only [RepL] at hargs
            obtain ⟨vx, t2, hvs, hvx, vf, t3, rfl, hvf, rfl⟩ := hargs
            simp only [Rep, RepL] at hvf
            obtain ⟨fa, fc, rfl, hfa, yp, tp, hfc, ⟨pb, hpb, hpbg, q, rfl, hq⟩, rfl⟩ := hvf
            have hfa : fa = #[] := Array.ext' hfa
            have hfc : fc = #[.pointer (some q)] := Array.ext' hfc
            subst hfa; subst hfc
            have hvs : vs = #[vx, .func (.func g') #[] #[.pointer (some q)]] := by
              apply Array.ext'
              simpa using hvs
            subst hvs
            obtain ⟨hk1, _⟩ := h.get hpb hbb
            obtain ⟨hpbg2, hk2⟩ := hk1
            rw [hbct] at hk2
            obtain ⟨hpv, ho, csb, Tb, hhb, hrow0⟩ := hk2
            have hq := hq (by rw [hpbg2, hgb])
            have hq : q = ⟨pb.b, 0, none⟩ := by rw [hq, ho]; simp
            subst hq
            simp only [RepL, Rep] at hrow0
            obtain ⟨xv, tx, hcsb, hxv, rfl⟩ := hrow0
            obtain ⟨L1, t0, i1, n, lb, b, hLL, hLo, h1, hvx1, ht0, hbg, hbf, hbct1, hlb, hl, hid, _⟩ := ownA_sound h hn hvx e3
            have hp1 : ∃ p, L1 (.l idn) = some p := by
              simp only [Rep] at hvx1
              obtain ⟨p, hp, _⟩ := hvx1
              exact ⟨p, hp⟩
            have hrd1 : St.rd ⟨s.env, (putAll s.heap wr).set idn (some b)⟩ (.l idn) = some b := by
              refine rdv_l.2 (List.getElem?_set_self ?_)
              obtain ⟨p, hp⟩ := hp1
              obtain ⟨x, hx⟩ := h1.dom _ p hp
              have := (List.getElem?_eq_some_iff.1 (rdv_l.1 hx)).1
              simpa using this
            obtain ⟨ad, cap, F, hvxv, hrow, hflat, hpl, hfin⟩ := lst_own h1 hvx1 hrd1 hbg.symm hbf ht0 hbct1 hlb
            subst hvxv
            rw [← hl] at hflat
            have hln : l.length = n := by rw [hl]; simp; omega
            have hrle : RLe (c.rc I L w) (c.rc I L1 w) := rle_of_heap (fun _ hb => hb) (fun _ _ => rfl) hLL
            have hxv1 : RepT (c.rc I L1 w) (.hd k') hh [xv] := RepT.mono hrle (.hd k') hxv
            obtain ⟨hfl2, hmem⟩ := hd_flat (fun i j b => h1.objInj k' i j b) hxv1 hflat
            have hptr : ∀ (y : Option Nat) v, RepT (c.rc I L1 w) (.hd k') y [v] → PtrAt w v ∧ ∀ b', v = .pointer (some ⟨b', 0, none⟩) → ∃ i p, L1 (.o k' i 0) = some p ∧ p.b = b' ∧ p.virt = false := by
              intro y v hy
              cases y with
              | none =>
                have e1 : v = .pointer none := by simpa [RepT] using hy
                subst e1
                exact ⟨.inl rfl, fun b' e => by cases e⟩
              | some i =>
                obtain ⟨b1, hb1, e1⟩ := hy
                have e1 : v = .pointer (some ⟨b1, 0, none⟩) := by simpa using e1
                subst e1
                obtain ⟨cs1, T1, hc1⟩ := h1.objCell k' i b1 hb1
                obtain ⟨p, hp, hpb1, _, hpv1, _⟩ := h1.objL hb1
                refine ⟨.inr ⟨b1, cs1, T1, rfl, hc1⟩, fun b' e => ⟨i, p, hp, ?_, hpv1⟩⟩
                injection e with e
                injection e with e
                injection e with e
                rw [hpb1, e]
            have hibn : ib ≠ newId := fun e => by
              rw [e, free_L h hn] at hpb
              cases hpb
            have hcall := hlst w n ad cap F pb.b csb Tb xv hrow (by omega) (by have : most = 1099511627776 := rfl; omega) (fun v hv => by
                obtain ⟨y, hy⟩ := hmem v hv
                exact (hptr y v hy).1) (hptr hh xv hxv1).1 hhb (by rw [← Array.getElem?_toList, hcsb]; rfl) (fun b1 off e1 hc => by
                obtain ⟨p, hp, hpv1, o1, had⟩ := hpl hc
                rw [had] at e1
                injection e1 with e1
                injection e1 with e1 _
                subst e1
                refine ⟨fun e2 => ?_, fun v hv e2 => ?_⟩
                · have := h1.inj (.l idn) (.l ib) p pb hp (by rw [hLo ib hibn]; exact hpb) hpv1 hpv e2
                  injection this with this
                  exact hidy this
                · have hh2 : ∃ y, RepT (c.rc I L1 w) (.hd k') y [v] := by
                    rcases hv with hv | rfl
                    · exact hmem v hv
                    · exact ⟨hh, hxv1⟩
                  obtain ⟨y, hy⟩ := hh2
                  obtain ⟨i2, p2, hp2, hb2, hv2⟩ := (hptr y v hy).2 _ e2
                  have := h1.inj (.l idn) (.o k' i2 0) p p2 hp hp2 hpv1 hv2 hb2.symm
                  cases this)
            intro K Q hK
            unfold Oper.wp
            rw [hexec, Oper.upon_enter]
            refine hcall.mono fun en w' hen => ?_
            obtain ⟨v, rfl, hpost⟩ := hen
            have hlen2 : (l.filter fun (y : Option Nat) => !decide (y = hh)).length = (F.filter fun v => !ptrEq v xv).length := by
              have := hfl2.1
              simpa [Ty.size] using this.symm
            obtain ⟨L', hS, hrep⟩ := hfin w' v _ _ hfl2 (by rw [hlen2]; exact hpost)
            have h3 := hS.put o.dst hrep
            simp only [List.set_set] at h3
            refine hK I L' _ _ ?_
            simp only [St.app, putAll_append, putAll, putH]
            exact h3
          · cases e1
        · cases e1
      · cases e1
    · cases e
  · cases e

end
end Go.Eng
