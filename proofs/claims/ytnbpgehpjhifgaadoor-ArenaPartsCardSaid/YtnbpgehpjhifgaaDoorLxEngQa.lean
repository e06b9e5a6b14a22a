/-
  The abstract machine, part 16a: what is laid into an object's variable.
-/
import Derived.Test.YtnbpgehpjhifgaaDoorLxEngQ
namespace Go.Eng

/-- cells laid over cells -/
def ovl : List Value → Nat → List Value → List Value
  | ys, _, [] => ys
  | [], _, _ :: _ => []
  | _ :: ys, 0, v :: vs => v :: ovl ys 0 vs
  | y :: ys, j + 1, v :: vs => y :: ovl ys j (v :: vs)

theorem ovl_nil (ys : List Value) (j : Nat) : ovl ys j [] = ys := by cases ys <;> rfl

theorem ovl_length : ∀ (ys : List Value) (j : Nat) (vs : List Value), (ovl ys j vs).length = ys.length
  | _, _, [] => by rw [ovl_nil]
  | [], _, _ :: _ => by simp [ovl]
  | _ :: ys, 0, v :: vs => by simp [ovl, ovl_length ys 0 vs]
  | y :: ys, j + 1, v :: vs => by simp [ovl, ovl_length ys j (v :: vs)]

theorem ovl_get : ∀ (ys : List Value) (j : Nat) (vs : List Value) (m : Nat), (ovl ys j vs)[m]? = if j ≤ m ∧ m < j + vs.length ∧ m < ys.length then vs[m - j]? else ys[m]?
  | ys, j, [], m => by rw [ovl_nil, if_neg (by simp; omega)]
  | [], j, v :: vs, m => by simp [ovl]
  | y :: ys, 0, v :: vs, 0 => by simp [ovl]
  | y :: ys, 0, v :: vs, m + 1 => by
    simp only [ovl, List.getElem?_cons_succ, ovl_get ys 0 vs m]
    by_cases h : m < vs.length ∧ m < ys.length
    · rw [if_pos ⟨by omega, by omega, h.2⟩, if_pos ⟨by omega, by simp; omega, by simp; omega⟩]
      simp
    · rw [if_neg (by omega), if_neg (by simp; omega)]
  | y :: ys, j + 1, v :: vs, 0 => by
    simp only [ovl, List.getElem?_cons_zero]
    rw [if_neg (by omega)]
  | y :: ys, j + 1, v :: vs, m + 1 => by
    simp only [ovl, List.getElem?_cons_succ, ovl_get ys j (v :: vs) m]
    by_cases h : j ≤ m ∧ m < j + (v :: vs).length ∧ m < ys.length
    · rw [if_pos h, if_pos ⟨by omega, by omega, by simp; omega⟩, show m + 1 - (j + 1) = m - j from by omega]
    · rw [if_neg h, if_neg (by simp at h ⊢; omega)]

theorem wrAt_ovl (cs : Array Value) (j : Nat) (vs : List Value) : (wrAt cs j vs).toList = ovl cs.toList j vs := by
  apply List.ext_getElem?
  intro m
  rw [ovl_get, Array.getElem?_toList]
  by_cases h : j ≤ m ∧ m < j + vs.length ∧ m < cs.toList.length
  · rw [if_pos h]
    obtain ⟨q, rfl⟩ := Nat.exists_eq_add_of_le h.1
    rw [wrAt_in _ _ _ _ (by omega) (by simpa using h.2.2), Nat.add_sub_cancel_left]
  · rw [if_neg h, Array.getElem?_toList]
    rcases Nat.lt_or_ge m cs.size with hl | hl
    · exact wrAt_out _ _ _ _ (by simp only [Array.length_toList] at h; omega)
    · rw [Array.getElem?_eq_none (by rw [wrAt_size]; exact hl), Array.getElem?_eq_none hl]

theorem ovl_skip : ∀ (c d : List Value) (j : Nat) (vs : List Value), c.length ≤ j → ovl (c ++ d) j vs = c ++ ovl d (j - c.length) vs
  | [], d, j, vs, _ => by simp
  | y :: c, d, j, [], h => by simp [ovl_nil]
  | y :: c, d, 0, v :: vs, h => by simp at h
  | y :: c, d, j + 1, v :: vs, h => by
    simp only [List.length_cons] at h
    simp only [List.cons_append, ovl, List.length_cons]
    rw [ovl_skip c d j (v :: vs) (by omega), show j + 1 - (c.length + 1) = j - c.length from by omega]

theorem ovl_split : ∀ (c d : List Value) (j : Nat) (vs : List Value), j ≤ c.length → ovl (c ++ d) j vs = ovl c j (vs.take (c.length - j)) ++ ovl d 0 (vs.drop (c.length - j))
  | [], d, j, vs, h => by
    have : j = 0 := by simpa using h
    subst this
    simp [ovl_nil]
  | y :: c, d, j, [], h => by simp [ovl_nil]
  | y :: c, d, 0, v :: vs, h => by
    have := ovl_split c d 0 vs (by omega)
    simp only [Nat.sub_zero] at this
    simp only [List.cons_append, ovl, List.length_cons, Nat.sub_zero, List.take_succ_cons, List.drop_succ_cons, this]
  | y :: c, d, j + 1, v :: vs, h => by
    simp only [List.length_cons] at h
    have := ovl_split c d j (v :: vs) (by omega)
    simp only [List.cons_append, ovl, List.length_cons, this, show c.length + 1 - (j + 1) = c.length - j from by omega]
    cases hk : c.length - j with
    | zero => simp [ovl_nil]
    | succ n => simp [List.take_succ_cons, ovl]

/-- where a slice that goes over lies -/
def Src.ref (k i q : Nat) : Src → Option Ref
  | .nil => none
  | .loc id _ _ _ => some (.l id)
  | .own _ => some (.o k i q)
def Src.at : Src → Nat
  | .nil => 0
  | .loc _ i0 _ _ => i0
  | .own i0 => i0

/-- where a slice lies that has gone over -/
def newPl (L : Ref → Option Pl) (k i q : Nat) (t : Ty) (g : Nat) (src : Src) : Pl := match src.ref k i q with
  | none => ⟨0, 0, t.size, g, 0, true⟩
  | some r => match L r with
    | some p => { p with o := p.o + src.at * p.w, gen := g }
    | none => ⟨0, 0, t.size, g, 0, true⟩

section
variable {c : Ctx} {I : Nat → Prop} {L : Ref → Option Pl} {s : St} {a : Act} {w : World} {call : CallF}

/-- a slice goes over -/
def Taken (L : Ref → Option Pl) (s : St) (k i q : Nat) (t : Ty) (l' : List (Val t)) (src : Src) (v : Value) : Prop :=
  ∃ ad cap, v = .slice ad l'.length cap ∧ l'.length ≤ cap ∧ (l'.length ≠ 0 → ad.isSome = true) ∧ match src.ref k i q with
  | none => cap = 0
  | some r => ∃ p b l0, L r = some p ∧ s.rd r = some b ∧ b.frozen = false ∧ b.gen = p.gen ∧ b.ct = .sl t l0 ∧ (∀ id i0 t' g, src = .loc id i0 t' g → t' = t ∧ g = b.gen) ∧ src.at + l'.length ≤ l0.length ∧ l' = (l0.drop src.at).take l'.length ∧
      (cap = 0 ∨ (p.virt = false ∧ ad = some ⟨p.b, p.o + src.at * p.w, none⟩ ∧ p.o + (src.at + cap) * p.w ≤ p.size))

theorem rdH_obj {h : List (Option Blk)} {k i q : Nat} {b : Blk} (e : rdH h (.o k i q) = some b) : b.frozen = false := by
  obtain ⟨_, _, _, _, _, _, _, hv⟩ := rdH_o e
  cases q with
  | zero => simp only [viewO, Option.some.injEq] at hv; subst hv; rfl
  | succ q =>
    simp only [viewO] at hv
    split at hv
    · cases hv
    · split at hv
      · simp only [Option.some.injEq] at hv; subst hv; rfl
      · cases hv

theorem takeO_sound (h : Sim c I L s a w) {k i q : Nat} {t : Ty} {y : AV} {v : Value} (hy : Rep (c.rc I L w) L y v) {l' : List (Val t)} {src : Src} {rs : List Nat} (e : (takeO k i q t y).run call s.rd = some ((l', src), rs)) :
    Taken L s k i q t l' src v := by
  unfold takeO at e
  split at e
  · obtain ⟨e1, rfl⟩ := HM.run_ret e
    simp only [Prod.mk.injEq] at e1
    obtain ⟨rfl, rfl⟩ := e1
    simp only [Rep] at hy
    exact ⟨none, 0, hy, Nat.le_refl _, fun h => absurd rfl h, rfl⟩
  · rename_i t0 id i0 n g
    obtain ⟨b, l1, hb, e1, rfl⟩ := HM.run_rd e
    split at e1
    · rename_i hc
      obtain ⟨hg, hz⟩ := hc
      split at e1
      · rename_i t' l hct
        split at e1
        · rename_i htt
          subst htt
          obtain ⟨hle, e2⟩ := HM.run_chk e1
          obtain ⟨e3, rfl⟩ := HM.run_ret e2
          simp only [Prod.mk.injEq] at e3
          obtain ⟨rfl, rfl⟩ := e3
          have hle := of_decide_eq_true hle
          simp only [castL_self] at hle ⊢
          have hln : ((l.drop i0).take n).length = n := by simp; omega
          simp only [Rep] at hy
          obtain ⟨p, hp, hw, hge, ad, cap, hs, hcap, hsome, hcur⟩ := hy
          obtain ⟨⟨hpg, _⟩, _⟩ := h.get hp hb
          refine ⟨ad, cap, by rw [hln]; exact hs, by rw [hln]; exact hcap, by rw [hln]; exact hsome, ?_⟩
          simp only [Src.ref, Src.at]
          refine ⟨p, b, l, hp, hb, hz, hpg.symm, hct, fun _ _ _ _ e => ?_, by rw [hln]; exact hle, by rw [hln], hcur (by rw [hpg, hg])⟩
          injection e with e1 e2 e3 e4
          exact ⟨e3.symm, e4.symm⟩
        · cases e1
      · cases e1
    · cases e1
  · rename_i t0 k' i' q' i0 n g
    split at e
    · rename_i hkq
      obtain ⟨rfl, rfl⟩ := hkq
      obtain ⟨b, l1, hb, e1, rfl⟩ := HM.run_rd e
      split at e1
      · rename_i hg
        split at e1
        · rename_i t' l hct
          split at e1
          · rename_i htt
            subst htt
            obtain ⟨hii, e2⟩ := HM.run_chk e1
            have hii := of_decide_eq_true hii
            subst hii
            obtain ⟨hle, e2⟩ := HM.run_chk e2
            obtain ⟨e3, rfl⟩ := HM.run_ret e2
            simp only [Prod.mk.injEq] at e3
            obtain ⟨rfl, rfl⟩ := e3
            have hle := of_decide_eq_true hle
            simp only [castL_self] at hle ⊢
            have hln : ((l.drop i0).take n).length = n := by simp; omega
            simp only [Rep] at hy
            obtain ⟨p, hp, hw, hge, ad, cap, hs, hcap, hsome, hcur⟩ := hy
            obtain ⟨⟨hpg, _⟩, _⟩ := h.get hp hb
            refine ⟨ad, cap, by rw [hln]; exact hs, by rw [hln]; exact hcap, by rw [hln]; exact hsome, ?_⟩
            simp only [Src.ref, Src.at]
            exact ⟨p, b, l, hp, hb, rdH_obj hb, hpg.symm, hct, (fun _ _ _ _ e => by cases e), by rw [hln]; exact hle, by rw [hln], hcur (by rw [hpg, hg])⟩
          · cases e1
        · cases e1
      · cases e1
    · cases e
  · cases e

/-- what lies in an object's variable behind a store -/
def RowPut (R : RC) (L : Ref → Option Pl) (s : St) (k i : Nat) (st : Nat → Bool) (gs : List Nat) : (cs : List Cell) → Nat → Val (rowsTy cs) → Val (rowsTy cs) → List (Nat × Src) → List Value → Prop
  | [], _, _, _, u, zs => u = [] ∧ zs = []
  | .d t :: r, q, x, x', u, zs => ∃ c d, zs = c ++ d ∧ RepT R t x'.1 c ∧ RowPut R L s k i st gs r q x.2 x'.2 u d
  | .sl t :: r, q, x, x', u, zs => ∃ v d, zs = v :: d ∧
      ((x'.1 = x.1 ∧ Rep R L (match st q with | true => .top | false => .lsl t (.o k i q) 0 (List.length x.1) (gs.getD q 0)) v ∧ RowPut R L s k i st gs r (q + 1) x.2 x'.2 u d) ∨
       (∃ src u', u = (q, src) :: u' ∧ Taken L s k i q t x'.1 src v ∧ RowPut R L s k i st gs r (q + 1) x.2 x'.2 u' d))

theorem RowPut.same {R : RC} {L : Ref → Option Pl} {s : St} {k i : Nat} {st : Nat → Bool} {gs : List Nat} : ∀ {cs : List Cell} {q : Nat} {x : Val (rowsTy cs)} {zs : List Value}, RepL R L (rowO k i st gs cs q x) zs → RowPut R L s k i st gs cs q x x [] zs
  | [], _, _, _, h => ⟨rfl, h⟩
  | .d t :: r, q, x, zs, h => by
    simp only [rowO] at h
    obtain ⟨c, d, rfl, hc, hd⟩ := h.split
    exact ⟨c, d, rfl, RepL.toT t hc, RowPut.same hd⟩
  | .sl t :: r, q, x, zs, h => by
    simp only [rowO, RepL] at h
    obtain ⟨v, d, rfl, hv, hd⟩ := h
    exact ⟨v, d, rfl, .inl ⟨rfl, hv, RowPut.same hd⟩⟩

theorem storeO_sound (h : Sim c I L s a w) {k i : Nat} {st : Nat → Bool} {gs : List Nat} : ∀ {cs : List Cell} {q : Nat} {x x' : Val (rowsTy cs)} {j : Nat} {new : List AV} {f : List Ref} {u : List (Nat × Src)} {rs : List Nat} {vs ys : List Value},
    (storeO c.E.toNames k i cs q x j new).run call s.rd = some ((x', f, u), rs) → RepL (c.rc I L w) L new vs → RepL (c.rc I L w) L (rowO k i st gs cs q x) ys →
    Told L s f ∧ j + vs.length ≤ ys.length + (if new = [] then j else 0) ∧ ∀ I' : Nat → Prop, (∀ b, I b → I' b) → (∀ id, id ∈ f → ∀ p, L id = some p → p.virt = false → I' p.b) → RowPut (c.rc I' L w) L s k i st gs cs q x x' u (ovl ys j vs) := by
  have none' : ∀ {cs : List Cell} {q : Nat} {x x' : Val (rowsTy cs)} {j : Nat} {f : List Ref} {u : List (Nat × Src)} {rs : List Nat} {vs ys : List Value}, (HM.ret (x, ([] : List Ref), ([] : List (Nat × Src)))).run call s.rd = some ((x', f, u), rs) → RepL (c.rc I L w) L [] vs → RepL (c.rc I L w) L (rowO k i st gs cs q x) ys →
      Told L s f ∧ j + vs.length ≤ ys.length + (if ([] : List AV) = [] then j else 0) ∧ ∀ I' : Nat → Prop, (∀ b, I b → I' b) → (∀ id, id ∈ f → ∀ p, L id = some p → p.virt = false → I' p.b) → RowPut (c.rc I' L w) L s k i st gs cs q x x' u (ovl ys j vs) := by
    intro cs q x x' j f u rs vs ys e hn hy
    obtain ⟨e1, rfl⟩ := HM.run_ret e
    simp only [Prod.mk.injEq] at e1
    obtain ⟨rfl, rfl, rfl⟩ := e1
    simp only [RepL] at hn
    subst hn
    refine ⟨fun r hr => by simp at hr, by simp, fun I' hi _ => ?_⟩
    rw [ovl_nil]
    exact RowPut.same (hy.mono (rle_of_heap hi (fun _ _ => rfl) (LLe.refl L)) (LLe.refl L))
  intro cs
  induction cs with
  | nil =>
    intro q x x' j new f u rs vs ys e hn hy
    cases new with
    | nil => exact none' e hn hy
    | cons y new => cases e
  | cons cell r ih =>
    intro q x x' j new f u rs vs ys e hn hy
    cases new with
    | nil => cases cell <;> exact none' e hn hy
    | cons y new =>
      cases cell with
      | d t =>
        simp only [rowO] at hy
        obtain ⟨yc, yd, rfl, hc, hd⟩ := hy.split
        have hcl : yc.length = t.size := (RepL.toT t hc).length
        simp only [storeO] at e
        split at e
        · rename_i hble
          have hble := Nat.le_of_ble_eq_true hble
          obtain ⟨⟨z, f1, u1⟩, r1, r2, e1, e2, rfl⟩ := HM.run_bind e
          obtain ⟨e3, rfl⟩ := HM.run_ret e2
          simp only [Prod.mk.injEq] at e3
          obtain ⟨rfl, rfl, rfl⟩ := e3
          obtain ⟨g1, g2, g3⟩ := ih e1 hn hd
          rw [if_neg (by simp)] at g2
          refine ⟨g1, by rw [if_neg (by simp), List.length_append]; omega, fun I' hi hh => ?_⟩
          rw [ovl_skip _ _ _ _ (by omega), hcl]
          exact ⟨yc, _, rfl, (RepL.toT t hc).mono (rle_of_heap hi (fun _ _ => rfl) (LLe.refl L)), g3 I' hi hh⟩
        · rename_i hble
          have hlt : j < t.size := by
            rcases Nat.lt_or_ge j t.size with hl | hl
            · exact hl
            · rw [Nat.ble_eq_true_of_le hl] at hble; cases hble
          obtain ⟨⟨ya, f1⟩, r1, r2, e1, e2, rfl⟩ := HM.run_bind e
          simp only at e2
          split at e2
          · rename_i z hdec
            obtain ⟨⟨z2, f2, u2⟩, r3, r4, e3, e4, rfl⟩ := HM.run_bind e2
            obtain ⟨e5, rfl⟩ := HM.run_ret e4
            simp only [Prod.mk.injEq] at e5
            obtain ⟨rfl, rfl, rfl⟩ := e5
            obtain ⟨g1, g2⟩ := exportL_sound h 8 e1 (hn.take (t.size - j))
            obtain ⟨k1, k2, k3⟩ := ih e3 (hn.drop (t.size - j)) hd
            have hvl := hn.length
            refine ⟨fun r hr => ?_, ?_, fun I' hi hh => ?_⟩
            · rcases List.mem_append.1 hr with hr | hr
              · exact (g1 r hr).2
              · exact k1 r hr
            · rw [if_neg (by simp), List.length_append]
              simp only [List.length_drop, Nat.zero_add] at k2
              split at k2 <;> omega
            · rw [ovl_split _ _ _ _ (by omega), hcl]
              refine ⟨_, _, rfl, ?_, k3 I' hi fun id hid => hh id (List.mem_append_right _ hid)⟩
              have hr := g2 I' hi fun id hid => hh id (List.mem_append_left _ hid)
              have hrow : RepL (c.rc I' L w) noL (setRow (cellsT t x.1) j ya) (wrAt yc.toArray j (vs.take (t.size - j))).toList :=
                setRow_sound (RepL.ofT t (show RepT (c.rc I' L w) t x.1 yc.toArray.toList from (RepL.toT t hc).mono (rle_of_heap hi (fun _ _ => rfl) (LLe.refl L)))) hr
              obtain ⟨c1, c2, h1, h2, h3⟩ := decT_sound t hdec hrow
              simp only [RepL] at h3
              subst h3
              rw [wrAt_ovl] at h1
              rw [List.append_nil] at h1
              have : yc.toArray.toList = yc := rfl
              rw [this] at h1
              rw [h1]
              exact h2
          · cases e2
      | sl t =>
        simp only [rowO, RepL] at hy
        obtain ⟨v0, yd, rfl, hv0, hd⟩ := hy
        simp only [RepL] at hn
        obtain ⟨v, vt, rfl, hv, hvt⟩ := hn
        cases j with
        | succ j =>
          simp only [storeO] at e
          obtain ⟨⟨z, f1, u1⟩, r1, r2, e1, e2, rfl⟩ := HM.run_bind e
          obtain ⟨e3, rfl⟩ := HM.run_ret e2
          simp only [Prod.mk.injEq] at e3
          obtain ⟨rfl, rfl, rfl⟩ := e3
          obtain ⟨g1, g2, g3⟩ := ih e1 (show RepL (c.rc I L w) L (y :: new) (v :: vt) by simp only [RepL]; exact ⟨v, vt, rfl, hv, hvt⟩) hd
          rw [if_neg (by simp)] at g2
          refine ⟨g1, by rw [if_neg (by simp)]; simp only [List.length_cons] at g2 ⊢; omega, fun I' hi hh => ?_⟩
          simp only [ovl]
          exact ⟨v0, _, rfl, .inl ⟨rfl, hv0.mono (rle_of_heap hi (fun _ _ => rfl) (LLe.refl L)) (LLe.refl L), g3 I' hi hh⟩⟩
        | zero =>
          simp only [storeO] at e
          obtain ⟨⟨l, src⟩, r1, r2, e1, e2, rfl⟩ := HM.run_bind e
          obtain ⟨⟨z, f1, u1⟩, r3, r4, e3, e4, rfl⟩ := HM.run_bind e2
          obtain ⟨e5, rfl⟩ := HM.run_ret e4
          simp only [Prod.mk.injEq] at e5
          obtain ⟨rfl, rfl, rfl⟩ := e5
          obtain ⟨g1, g2, g3⟩ := ih e3 hvt hd
          refine ⟨g1, ?_, fun I' hi hh => ?_⟩
          · rw [if_neg (by simp)]
            simp only [List.length_cons, Nat.zero_add] at g2 ⊢
            split at g2 <;> omega
          · simp only [ovl]
            exact ⟨v, _, rfl, .inr ⟨src, u1, rfl, takeO_sound h hv e1, g3 I' hi hh⟩⟩

/-! What a row is made of behind a store. -/

theorem RowPut.ge {R : RC} {L : Ref → Option Pl} {s : St} {k i : Nat} {st : Nat → Bool} {gs : List Nat} : ∀ {cs : List Cell} {q : Nat} {x x' : Val (rowsTy cs)} {u : List (Nat × Src)} {zs : List Value}, RowPut R L s k i st gs cs q x x' u zs → ∀ p, p ∈ u → q ≤ p.1
  | [], _, _, _, _, _, h, p, hp => by rw [h.1] at hp; cases hp
  | .d t :: r, q, x, x', u, zs, h, p, hp => by
    obtain ⟨_, _, _, _, h⟩ := h
    exact h.ge p hp
  | .sl t :: r, q, x, x', u, zs, h, p, hp => by
    obtain ⟨_, _, _, h | ⟨src, u', rfl, _, h⟩⟩ := h
    · have := h.2.2.ge p hp; omega
    · rcases List.mem_cons.1 hp with rfl | hp
      · exact Nat.le_refl _
      · have := h.ge p hp; omega

theorem RowPut.other {R : RC} {L : Ref → Option Pl} {s : St} {k i : Nat} {st : Nat → Bool} {gs : List Nat} {want : Nat} : ∀ {cs : List Cell} {q : Nat} {x x' : Val (rowsTy cs)} {u : List (Nat × Src)} {zs : List Value}, RowPut R L s k i st gs cs q x x' u zs → (∀ p, p ∈ u → p.1 ≠ want) →
    slO want cs q x' = slO want cs q x
  | [], _, _, _, _, _, _, _ => rfl
  | .d t :: r, q, x, x', u, zs, h, hn => by
    obtain ⟨_, _, _, _, h⟩ := h
    simp only [slO]
    exact h.other hn
  | .sl t :: r, q, x, x', u, zs, h, hn => by
    obtain ⟨_, _, _, ⟨h1, _, h⟩ | ⟨src, u', rfl, _, h⟩⟩ := h
    · simp only [slO]
      rw [h1, h.other hn]
    · simp only [slO]
      have hq : Nat.beq q want = false := by
        cases h2 : Nat.beq q want with
        | true => exact absurd (Nat.eq_of_beq_eq_true h2) (hn (q, src) (by simp))
        | false => rfl
      rw [hq]
      exact h.other fun p hp => hn p (by simp [hp])

theorem RowPut.mem {R : RC} {L : Ref → Option Pl} {s : St} {k i : Nat} {st : Nat → Bool} {gs : List Nat} : ∀ {cs : List Cell} {q : Nat} {x x' : Val (rowsTy cs)} {u : List (Nat × Src)} {zs : List Value}, RowPut R L s k i st gs cs q x x' u zs → ∀ want src, (want, src) ∈ u →
    ∃ (t : Ty) (l0 l' : List (Val t)) (v : Value), slO want cs q x = some ⟨t, l0⟩ ∧ slO want cs q x' = some ⟨t, l'⟩ ∧ Taken L s k i want t l' src v
  | [], _, _, _, _, _, h, want, src, hm => by rw [h.1] at hm; cases hm
  | .d t :: r, q, x, x', u, zs, h, want, src, hm => by
    obtain ⟨_, _, _, _, h⟩ := h
    simp only [slO]
    exact h.mem want src hm
  | .sl t :: r, q, x, x', u, zs, h, want, src, hm => by
    obtain ⟨v, _, _, ⟨h1, _, h⟩ | ⟨src', u', rfl, ht, h⟩⟩ := h
    · have hge := h.ge _ hm
      have hq : Nat.beq q want = false := by
        cases h2 : Nat.beq q want with
        | true => have := Nat.eq_of_beq_eq_true h2; simp only at hge; omega
        | false => rfl
      simp only [slO, hq]
      exact h.mem want src hm
    · rcases List.mem_cons.1 hm with hm | hm
      · injection hm with e1 e2
        subst e1; subst e2
        simp only [slO, Nat.beq_refl]
        exact ⟨t, _, _, v, rfl, rfl, ht⟩
      · have hge := h.ge _ hm
        have hq : Nat.beq q want = false := by
          cases h2 : Nat.beq q want with
          | true => have := Nat.eq_of_beq_eq_true h2; simp only at hge; omega
          | false => rfl
        simp only [slO, hq]
        exact h.mem want src hm

theorem RowPut.nodup {R : RC} {L : Ref → Option Pl} {s : St} {k i : Nat} {st : Nat → Bool} {gs : List Nat} : ∀ {cs : List Cell} {q : Nat} {x x' : Val (rowsTy cs)} {u : List (Nat × Src)} {zs : List Value}, RowPut R L s k i st gs cs q x x' u zs → (u.map (·.1)).Nodup
  | [], _, _, _, _, _, h => by rw [h.1]; simp
  | .d t :: r, q, x, x', u, zs, h => by
    obtain ⟨_, _, _, _, h⟩ := h
    exact h.nodup
  | .sl t :: r, q, x, x', u, zs, h => by
    obtain ⟨_, _, _, h | ⟨src, u', rfl, _, h⟩⟩ := h
    · exact h.2.2.nodup
    · simp only [List.map_cons, List.nodup_cons]
      refine ⟨fun hm => ?_, h.nodup⟩
      obtain ⟨p, hp, e⟩ := List.mem_map.1 hm
      have := h.ge p hp
      omega

/-- the row, read as it is then -/
theorem RowPut.row {R R' : RC} {L L' : Ref → Option Pl} {s : St} {k i : Nat} {st st' : Nat → Bool} {gs gs' : List Nat} (hr : RLe R R') (hl : LLe L L') {U : List (Nat × Src)}
    (h1 : ∀ q, (∀ p, p ∈ U → p.1 ≠ q) → st' q = st q ∧ gs'.getD q 0 = gs.getD q 0)
    {CS : List Cell} {X : Val (rowsTy CS)} (h2 : ∀ q src (t : Ty) (l' : List (Val t)) (v : Value), (q, src) ∈ U → slO q CS 1 X = some ⟨t, l'⟩ → Taken L s k i q t l' src v → st' q = false ∧ Rep R' L' (.lsl t (.o k i q) 0 l'.length (gs'.getD q 0)) v) :
    ∀ {cs : List Cell} {q : Nat} {x x' : Val (rowsTy cs)} {u : List (Nat × Src)} {zs : List Value}, RowPut R L s k i st gs cs q x x' u zs → (∀ p, p ∈ u → p ∈ U) → (∀ p, p ∈ U → q ≤ p.1 → p ∈ u) → (∀ want, q ≤ want → slO want CS 1 X = slO want cs q x') → RepL R' L' (rowO k i st' gs' cs q x') zs
  | [], _, _, _, _, _, h, _, _, _ => by simp only [rowO, RepL]; exact h.2
  | .d t :: r, q, x, x', u, zs, h, hu, hu', hX => by
    obtain ⟨c, d, rfl, hc, hd⟩ := h
    simp only [rowO]
    exact (RepL.ofT t (hc.mono hr)).append (hd.row hr hl h1 h2 hu hu' fun want hw => by rw [hX want hw]; simp only [slO])
  | .sl t :: r, q, x, x', u, zs, h, hu, hu', hX => by
    have hX' : ∀ want, q + 1 ≤ want → slO want CS 1 X = slO want r (q + 1) x'.2 := fun want hw => by
      rw [hX want (by omega)]
      have : Nat.beq q want = false := by
        cases hb : Nat.beq q want with
        | true => have := Nat.eq_of_beq_eq_true hb; omega
        | false => rfl
      simp only [slO, this]
    have hXq : slO q CS 1 X = some ⟨t, x'.1⟩ := by rw [hX q (Nat.le_refl _)]; simp only [slO, Nat.beq_refl]
    obtain ⟨v, d, rfl, ⟨e, hv, hd⟩ | ⟨src, u', rfl, ht, hd⟩⟩ := h
    · have hq : ∀ p, p ∈ U → p.1 ≠ q := fun p hp he => by
        have := hd.ge p (hu' p hp (by omega))
        omega
      obtain ⟨g1, g2⟩ := h1 q hq
      simp only [rowO, RepL]
      refine ⟨v, d, rfl, ?_, hd.row hr hl h1 h2 hu (fun p hp hle => hu' p hp (by omega)) hX'⟩
      rw [g1, g2, e]
      exact hv.mono hr hl
    · obtain ⟨g1, g2⟩ := h2 q src t x'.1 v (hu _ (by simp)) hXq ht
      simp only [rowO, RepL]
      refine ⟨v, d, rfl, ?_, hd.row hr hl h1 h2 (fun p hp => hu p (by simp [hp])) (fun p hp hle => ?_) hX'⟩
      · rw [g1]
        exact g2
      · rcases List.mem_cons.1 (hu' p hp (by omega)) with rfl | hp'
        · simp only at hle; omega
        · exact hp'

end
end Go.Eng
