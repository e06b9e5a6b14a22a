/-
  The abstract machine, part 5: what is handed out stands for the same.
-/
import Derived.Test.YtnbpgehpjhifgaaDoorLxEngD
namespace Go.Eng

theorem HM.run_bind {α β : Type} {call : CallF} {h : Ref → Option Blk} {f : α → HM β} {b : β} : ∀ {m : HM α} {l : List Nat}, (m.bind f).run call h = some (b, l) →
    ∃ a l1 l2, m.run call h = some (a, l1) ∧ (f a).run call h = some (b, l2) ∧ l = l1 ++ l2
  | .ret a, l, e => ⟨a, [], l, rfl, e, rfl⟩
  | .rd id k, l, e => by
    simp only [HM.bind, HM.run] at e
    split at e
    · rename_i blk hb
      split at e
      · rename_i a l' hk
        obtain ⟨a', l1, l2, h1, h2, rfl⟩ := HM.run_bind hk
        simp only [Option.some.injEq, Prod.mk.injEq] at e
        obtain ⟨rfl, rfl⟩ := e
        exact ⟨a', id.ix :: l1, l2, by simp only [HM.run, hb, h1], h2, rfl⟩
      · cases e
    · cases e
  | .chk t k, l, e => by
    cases t with
    | true => exact HM.run_bind (m := k) e
    | false => cases e
  | .dec t x y, l, e => by
    cases t with
    | true => exact HM.run_bind (m := x) e
    | false => exact HM.run_bind (m := y) e
  | .call g as bs n k, l, e => by
    simp only [HM.bind, HM.run] at e
    split at e
    · rename_i r ts wr hr
      obtain ⟨a', l1, l2, h1, h2, rfl⟩ := HM.run_bind e
      exact ⟨a', l1, l2, by simp only [HM.run, hr, h1], h2, rfl⟩
    · cases e
  | .fail, l, e => by cases e

theorem HM.run_chk {α : Type} {call : CallF} {h : Ref → Option Blk} {b : Bool} {k : HM α} {r : α × List Nat} (e : (HM.chk b k).run call h = some r) : b = true ∧ k.run call h = some r := by
  cases b with
  | true => exact ⟨rfl, e⟩
  | false => cases e

theorem HM.run_rd {α : Type} {call : CallF} {h : Ref → Option Blk} {id : Ref} {k : Blk → HM α} {a : α} {l : List Nat} (e : (HM.rd id k).run call h = some (a, l)) :
    ∃ b l', h id = some b ∧ (k b).run call h = some (a, l') ∧ l = id.ix :: l' := by
  simp only [HM.run] at e
  split at e
  · rename_i b hb
    split at e
    · rename_i a' l' hk
      simp only [Option.some.injEq, Prod.mk.injEq] at e
      obtain ⟨rfl, rfl⟩ := e
      exact ⟨b, l', hb, hk, rfl⟩
    · cases e
  · cases e

theorem HM.run_one {call : CallF} {h : Ref → Option Blk} {x : Option AV} {a : AV} {l : List Nat} (e : (one x).run call h = some (a, l)) : x = some a ∧ l = [] := by
  unfold one at e
  split at e
  · simp only [HM.run, Option.some.injEq, Prod.mk.injEq] at e
    obtain ⟨rfl, rfl⟩ := e
    exact ⟨rfl, rfl⟩
  · cases e

section
variable {c : Ctx} {I : Nat → Prop} {L : Ref → Option Pl} {s : St} {a : Act} {w : World} {call : CallF}

theorem Rep.noL {R : RC} {L : Ref → Option Pl} {x : AV} {v : Value} (h : Rep R noL x v) : Rep R L x v :=
  h.mono (RLe.refl R) (fun _ _ e => by cases e)
theorem RepL.noL {R : RC} {L : Ref → Option Pl} {x : List AV} {v : List Value} (h : RepL R noL x v) : RepL R L x v :=
  h.mono (RLe.refl R) (fun _ _ e => by cases e)

theorem getD_cut {α : Type} (l : List α) (i k j : Nat) (d : α) (h : j < k) : ((l.drop i).take k).getD j d = l.getD (i + j) d := by
  simp [List.getD_eq_getElem?_getD, h, List.getElem?_drop]

/-- a slice of a block of the call's own, read as plain data -/
theorem Sim.slice (h : Sim c I L s a w) {id : Ref} {i n g : Nat} {b : Blk} {t : Ty} {l : List (Val t)} {y : Value} {u : Ty} (hx : Rep (c.rc I L w) L (.lsl u id i n g) y) (hb : s.rd id = some b) (hg : g = b.gen)
    (hct : b.ct = .sl t l) (hle : i + n ≤ l.length) {I' : Nat → Prop} (hi : ∀ b, I b → I' b) (hI : ∀ p, L id = some p → p.virt = false → I' p.b) :
    RepT (c.rc I' L w) (.sl t) ((l.drop i).take n) [y] := by
  simp only [Rep] at hx
  obtain ⟨p, hp, _, hge, ad, cap, rfl, hcap, hsome, hy⟩ := hx
  obtain ⟨⟨hpg, hk⟩, hf⟩ := h.get hp hb
  rw [hct] at hk
  have hor := hy (by rw [hpg, hg])
  have hlen : ((l.drop i).take n).length = n := by simp; omega
  have hr : RLe (c.rc I L w) (c.rc I' L w) := rle_of_heap hi (fun _ _ => rfl) (LLe.refl L)
  refine ⟨ad, cap, by rw [hlen], by rw [hlen]; exact hcap, fun hne => ?_, fun hz => by
    rcases hor with h0 | ⟨_, had, _⟩
    · exact h0
    · rw [hz] at had; cases had⟩
  rw [hlen] at hne
  rcases hk with ⟨hv, rfl, _⟩ | ⟨hv, hw, cs, T, hh, hs, hsz, hrow⟩
  · simp at hle; omega
  · rcases hor with h0 | ⟨_, had, _⟩
    · omega
    · refine ⟨p.b, _, had, hI p hp hv, fun j hj => ?_⟩
      rw [hlen] at hj
      rw [getD_cut l i n j _ hj]
      obtain ⟨d, hd, hat⟩ := hrow (i + j) (by omega)
      refine ⟨d, hd.mono hr, ?_⟩
      rw [← hw, Nat.add_assoc, ← Nat.add_mul]
      exact hat

/-- what is told of where things are handed out -/
def Held (L : Ref → Option Pl) (s : St) (ids : List Ref) (rs : List Nat) : Prop := ∀ id, id ∈ ids → id.ix ∈ rs ∧ ∃ p, L id = some p ∧ ∃ b, s.rd id = some b

mutual
theorem exportN_sound (h : Sim c I L s a w) : ∀ (n : Nat) {x y : AV} {ids : List Ref} {rs : List Nat} {v : Value}, (exportN n x).run call s.rd = some ((y, ids), rs) → Rep (c.rc I L w) L x v →
    (∀ id, id ∈ ids → id.ix ∈ rs ∧ ∃ p, L id = some p ∧ ∃ b, s.rd id = some b ∧ b.isTab = false) ∧
    ∀ I' : Nat → Prop, (∀ b, I b → I' b) → (∀ id, id ∈ ids → ∀ p, L id = some p → p.virt = false → I' p.b) → Rep (c.rc I' L w) noL y v
  | 0, x, y, ids, rs, v, e, hx => by simp only [exportN, HM.run] at e; cases e
  | n + 1, x, y, ids, rs, v, e, hx => by
    have triv : ∀ {z : AV}, (HM.ret (z, ([] : List Ref))).run call s.rd = some ((y, ids), rs) → (∀ I' : Nat → Prop, (∀ b, I b → I' b) → Rep (c.rc I' L w) Go.Eng.noL z v) →
        (∀ id, id ∈ ids → id.ix ∈ rs ∧ ∃ p, L id = some p ∧ ∃ b, s.rd id = some b ∧ b.isTab = false) ∧ ∀ I' : Nat → Prop, (∀ b, I b → I' b) → (∀ id, id ∈ ids → ∀ p, L id = some p → p.virt = false → I' p.b) → Rep (c.rc I' L w) Go.Eng.noL y v := by
      intro z e hz
      simp only [HM.run, Option.some.injEq, Prod.mk.injEq] at e
      obtain ⟨⟨rfl, rfl⟩, rfl⟩ := e
      exact ⟨fun id hid => by simp at hid, fun I' hi _ => hz I' hi⟩
    have hR : ∀ I' : Nat → Prop, (∀ b, I b → I' b) → RLe (c.rc I L w) (c.rc I' L w) := fun I' hi => rle_of_heap hi (fun _ _ => rfl) (LLe.refl L)
    cases x with
    | v z => exact triv (by simpa only [exportN] using e) fun I' hi => by simpa only [Rep] using hx
    | er z => exact triv (by simpa only [exportN] using e) fun I' hi => by simp only [Rep] at *; exact hx.mono (hR I' hi)
    | isl t l => exact triv (by simpa only [exportN] using e) fun I' hi => by simp only [Rep] at *; exact hx.mono (hR I' hi)
    | nsl t l => exact triv (by simpa only [exportN] using e) fun I' hi => by simp only [Rep] at *; exact hx.1.mono (hR I' hi)
    | iptr r j => exact triv (by simpa only [exportN] using e) fun I' hi => (show Rep (c.rc I L w) Go.Eng.noL (.iptr r j) v by simpa only [Rep] using hx).mono (hR I' hi) (LLe.refl _)
    | gptr g j => exact triv (by simpa only [exportN] using e) fun I' hi => by simpa only [Rep] using hx
    | hd k x => exact triv (by simpa only [exportN] using e) fun I' hi => by simp only [Rep] at *; exact RepT.mono (hR I' hi) (.hd k) hx
    | top => simp only [exportN, HM.run] at e; cases e
    | agg l =>
      simp only [exportN] at e
      obtain ⟨⟨l', f⟩, r1, r2, e1, e2, rfl⟩ := HM.run_bind e
      simp only [HM.run, Option.some.injEq, Prod.mk.injEq] at e2
      obtain ⟨⟨rfl, rfl⟩, rfl⟩ := e2
      simp only [Rep] at hx
      obtain ⟨cs, rfl, hl⟩ := hx
      obtain ⟨g1, g2⟩ := exportL_sound h n e1 hl
      exact ⟨fun id hid => ⟨by simp [(g1 id hid).1], (g1 id hid).2⟩, fun I' hi hI => by simp only [Rep]; exact ⟨cs, rfl, g2 I' hi hI⟩⟩
    | tup l =>
      simp only [exportN] at e
      obtain ⟨⟨l', f⟩, r1, r2, e1, e2, rfl⟩ := HM.run_bind e
      simp only [HM.run, Option.some.injEq, Prod.mk.injEq] at e2
      obtain ⟨⟨rfl, rfl⟩, rfl⟩ := e2
      simp only [Rep] at hx
      obtain ⟨cs, rfl, hl⟩ := hx
      obtain ⟨g1, g2⟩ := exportL_sound h n e1 hl
      exact ⟨fun id hid => ⟨by simp [(g1 id hid).1], (g1 id hid).2⟩, fun I' hi hI => by simp only [Rep]; exact ⟨cs, rfl, g2 I' hi hI⟩⟩
    | iface t z =>
      simp only [exportN] at e
      obtain ⟨⟨l', f⟩, r1, r2, e1, e2, rfl⟩ := HM.run_bind e
      simp only [HM.run, Option.some.injEq, Prod.mk.injEq] at e2
      obtain ⟨⟨rfl, rfl⟩, rfl⟩ := e2
      simp only [Rep] at hx
      obtain ⟨u, rfl, hl⟩ := hx
      obtain ⟨g1, g2⟩ := exportN_sound h n e1 hl
      exact ⟨fun id hid => ⟨by simp [(g1 id hid).1], (g1 id hid).2⟩, fun I' hi hI => by simp only [Rep]; exact ⟨u, rfl, g2 I' hi hI⟩⟩
    | fn f a1 c1 =>
      simp only [exportN] at e
      obtain ⟨⟨l1, f1⟩, r1, r2, e1, e2, rfl⟩ := HM.run_bind e
      obtain ⟨⟨l2, f2⟩, r3, r4, e3, e4, rfl⟩ := HM.run_bind e2
      simp only [HM.run, Option.some.injEq, Prod.mk.injEq] at e4
      obtain ⟨⟨rfl, rfl⟩, rfl⟩ := e4
      simp only [Rep] at hx
      obtain ⟨a', c', rfl, ha, hc⟩ := hx
      obtain ⟨g1, g2⟩ := exportL_sound h n e1 ha
      obtain ⟨k1, k2⟩ := exportL_sound h n e3 hc
      refine ⟨fun id hid => ?_, fun I' hi hI => ?_⟩
      · rcases List.mem_append.1 hid with hid | hid
        · exact ⟨by simp [(g1 id hid).1], (g1 id hid).2⟩
        · exact ⟨by simp [(k1 id hid).1], (k1 id hid).2⟩
      · simp only [Rep]
        exact ⟨a', c', rfl, g2 I' hi fun id hid => hI id (List.mem_append.2 (.inl hid)), k2 I' hi fun id hid => hI id (List.mem_append.2 (.inr hid))⟩
    | lsl u id i k g =>
      simp only [exportN] at e
      obtain ⟨b, l', hb, e', rfl⟩ := HM.run_rd e
      clear e
      have e := e'
      clear e'
      split at e
      · rename_i hg
        split at e
        · rename_i t l hct
          obtain ⟨hle, e⟩ := HM.run_chk e
          simp only [HM.run, Option.some.injEq, Prod.mk.injEq] at e
          obtain ⟨⟨rfl, rfl⟩, rfl⟩ := e
          refine ⟨fun id' hid => ?_, fun I' hi hI => ?_⟩
          · simp only [List.mem_singleton] at hid
            subst hid
            simp only [Rep] at hx
            obtain ⟨p, hp, _⟩ := hx
            exact ⟨by simp, p, hp, b, hb, by simp [Blk.isTab, hct]⟩
          · have := h.slice hx hb hg hct (of_decide_eq_true hle) hi (fun p hp hv => hI id (by simp) p hp hv)
            simpa only [Rep] using this
        · cases e
      · cases e
    | lptr id i j g =>
      simp only [exportN] at e
      cases id with
      | o k x q =>
        simp only at e
        split at e
        · rename_i hc
          obtain ⟨rfl, rfl, rfl⟩ := hc
          refine triv e fun I' hi => ?_
          simp only [Rep] at hx ⊢
          obtain ⟨p, hp, hge, q, rfl, hy⟩ := hx
          have hH : (c.rc I L w).H k x = some p.b := by simp [Ctx.rc, rcW, hOf, hp]
          obtain ⟨p', hp', _, hpo, _, hpg, _⟩ := h.objL hH
          rw [hp] at hp'
          injection hp' with hp'
          subst hp'
          have hq := hy (by omega)
          subst hq
          exact ⟨p.b, by simp [Ctx.rc, rcW, hOf, hp], by simp [hpo]⟩
        · cases e
      | l id =>
      simp only at e
      obtain ⟨b, l', hb, e', rfl⟩ := HM.run_rd e
      clear e
      have e := e'
      clear e'
      split at e
      · rename_i hg
        simp only [Rep] at hx
        obtain ⟨p, hp, hge, q, rfl, hy⟩ := hx
        obtain ⟨⟨hpg, hk⟩, hf⟩ := h.get hp hb
        have hq := hy (by rw [hpg, hg])
        subst hq
        split at e
        · rename_i row hct
          rw [hct] at hk
          obtain ⟨hv, ho, cs, T, hh, hrow⟩ := hk
          split at e
          · rename_i hi0
            subst hi0
            obtain ⟨⟨r', f⟩, r1, r2, e1, e2, rfl⟩ := HM.run_bind e
            simp only [HM.run, Option.some.injEq, Prod.mk.injEq] at e2
            obtain ⟨⟨rfl, rfl⟩, rfl⟩ := e2
            obtain ⟨g1, g2⟩ := exportL_sound h n e1 hrow
            refine ⟨fun id' hid => ?_, fun I' hi hI => ?_⟩
            · simp only [List.mem_cons] at hid
              rcases hid with rfl | hid
              · exact ⟨by simp, p, hp, b, hb, by simp [Blk.isTab, hct]⟩
              · exact ⟨by simp [(g1 id' hid).1], (g1 id' hid).2⟩
            · simp only [Rep]
              refine ⟨p.b, p.o, by simp, hI _ (by simp) p hp hv, cs.toList, g2 I' hi (fun id' hid => hI id' (by simp [hid])), ?_⟩
              intro k v hk
              show w.cell? _ = _
              rw [cell?_cells hh, ho]
              simpa using hk
          · cases e
        · rename_i t l hct
          rw [hct] at hk
          obtain ⟨hlt, e⟩ := HM.run_chk e
          have hlt := of_decide_eq_true hlt
          simp only [HM.run, Option.some.injEq, Prod.mk.injEq] at e
          obtain ⟨⟨rfl, rfl⟩, rfl⟩ := e
          refine ⟨fun id' hid => ?_, fun I' hi hI => ?_⟩
          · simp only [List.mem_singleton] at hid
            subst hid
            exact ⟨by simp, p, hp, b, hb, by simp [Blk.isTab, hct]⟩
          · rcases hk with ⟨hv, rfl, _⟩ | ⟨hv, hw, cs, T, hh, hs, hsz, hrow⟩
            · simp at hlt
            · obtain ⟨d, hd, hat⟩ := hrow i hlt
              simp only [Rep]
              exact ⟨p.b, p.o + i * p.w, rfl, hI _ (by simp) p hp hv, d, RepL.ofT t (hd.mono (hR I' hi)), hat⟩
        · cases e
      · cases e
theorem exportL_sound (h : Sim c I L s a w) : ∀ (n : Nat) {x y : List AV} {ids : List Ref} {rs : List Nat} {v : List Value}, (exportN.exportL n x).run call s.rd = some ((y, ids), rs) → RepL (c.rc I L w) L x v →
    (∀ id, id ∈ ids → id.ix ∈ rs ∧ ∃ p, L id = some p ∧ ∃ b, s.rd id = some b ∧ b.isTab = false) ∧
    ∀ I' : Nat → Prop, (∀ b, I b → I' b) → (∀ id, id ∈ ids → ∀ p, L id = some p → p.virt = false → I' p.b) → RepL (c.rc I' L w) noL y v
  | n, [], y, ids, rs, v, e, hx => by
    simp only [exportN.exportL, mapX, HM.run, Option.some.injEq, Prod.mk.injEq] at e
    obtain ⟨⟨rfl, rfl⟩, rfl⟩ := e
    exact ⟨fun id hid => by simp at hid, fun I' hi _ => by simpa only [RepL] using hx⟩
  | n, x :: r, y, ids, rs, v, e, hx => by
    simp only [exportN.exportL, mapX] at e
    obtain ⟨⟨x', f⟩, r1, r2, e1, e2, rfl⟩ := HM.run_bind e
    obtain ⟨⟨l2, f2⟩, r3, r4, e3, e4, rfl⟩ := HM.run_bind e2
    simp only [HM.run, Option.some.injEq, Prod.mk.injEq] at e4
    obtain ⟨⟨rfl, rfl⟩, rfl⟩ := e4
    simp only [RepL] at hx
    obtain ⟨y0, t, rfl, hy0, ht⟩ := hx
    obtain ⟨g1, g2⟩ := exportN_sound h n e1 hy0
    obtain ⟨k1, k2⟩ := exportL_sound h n e3 ht
    refine ⟨fun id hid => ?_, fun I' hi hI => ?_⟩
    · rcases List.mem_append.1 hid with hid | hid
      · exact ⟨by simp [(g1 id hid).1], (g1 id hid).2⟩
      · exact ⟨by simp [(k1 id hid).1], (k1 id hid).2⟩
    · simp only [RepL]
      exact ⟨y0, t, rfl, g2 I' hi fun id hid => hI id (List.mem_append.2 (.inl hid)), k2 I' hi fun id hid => hI id (List.mem_append.2 (.inr hid))⟩
end

end
end Go.Eng
