/-
  The abstract machine, part 23b: a state told as plain data.
-/
import Derived.Test.YtnbpgehpjhifgaaDoorLxEngXa
namespace Go.Eng

theorem tabOf_inv {call : CallF} {h : Ref → Option Blk} {cs : List Cell} {b : Blk} {l : List (Val (rowsTy cs))} {rs : List Nat} (e : (tabOf cs b).run call h = some (l, rs)) : ∃ gs, b.ct = .tab cs l [] gs := by
  unfold tabOf at e
  split at e
  · rename_i cs' l' st gs hct
    split at e
    · rename_i hc
      subst hc
      cases hs : st.isEmpty with
      | false => simp only [hs] at e; cases e
      | true =>
        simp only [hs] at e
        obtain ⟨h1, _⟩ := HM.run_ret e
        have hst : st = [] := by simpa using hs
        subst hst
        have h1 : l = l' := h1
        subst h1
        exact ⟨gs, hct⟩
    · cases e
  · cases e

theorem decTabs_sound {call : CallF} {s : St} {ks : List (List Cell)} : ∀ {tk : List Nat} {t : Val (tabsTy ks tk)} {rs : List Nat}, (decTabs ks tk).run call s.rd = some (t, rs) →
    ∀ (j k : Nat), tk[j]? = some k → ∃ b l gs, s.heap[k]? = some (some b) ∧ b.ct = .tab (ks.getD k []) l [] gs ∧ (encTabs ks tk t)[j]? = some (tabB (ks.getD k []) l)
  | [], _, _, _, j, k, hj => by simp at hj
  | k0 :: r, t, rs, e, j, k, hj => by
    simp only [decTabs] at e
    obtain ⟨b, l', hb, e1, rfl⟩ := HM.run_rd e
    obtain ⟨l, r1, r2, e2, e3, rfl⟩ := HM.run_bind e1
    obtain ⟨z, r3, r4, e4, e5, rfl⟩ := HM.run_bind e3
    obtain ⟨h1, rfl⟩ := HM.run_ret e5
    subst h1
    obtain ⟨gs, hct⟩ := tabOf_inv e2
    cases j with
    | zero =>
      simp only [List.getElem?_cons_zero, Option.some.injEq] at hj
      subst hj
      exact ⟨b, l, gs, rdv_l.1 (show rdv s.heap (.l k0) = some b from hb), hct, rfl⟩
    | succ j =>
      obtain ⟨b', l', gs', g1, g2, g3⟩ := decTabs_sound e4 j k (by simpa using hj)
      exact ⟨b', l', gs', g1, g2, by simpa [encTabs] using g3⟩

theorem noTabs_sound {call : CallF} {s : St} : ∀ {l : List Nat} {u : Unit} {rs : List Nat}, (noTabs l).run call s.rd = some (u, rs) → ∀ k, k ∈ l → ∃ b cs st gs, s.heap[k]? = some (some b) ∧ b.ct = .tab cs [] st gs
  | [], _, _, _, k, hk => by cases hk
  | k0 :: r, u, rs, e, k, hk => by
    simp only [noTabs] at e
    obtain ⟨b, l', hb, e1, rfl⟩ := HM.run_rd e
    split at e1
    · rename_i cs l st gs hct
      cases l with
      | cons _ _ => cases e1
      | nil =>
        simp only at e1
        rcases List.mem_cons.1 hk with rfl | hk
        · exact ⟨b, cs, st, gs, rdv_l.1 (show rdv s.heap (.l k) = some b from hb), hct⟩
        · exact noTabs_sound e1 k hk
    · cases e1

theorem mem_others {n k : Nat} {tk : List Nat} (h1 : k < n) (h2 : k ∉ tk) : k ∈ others n tk := by
  unfold others
  rw [List.mem_filter, List.mem_range]
  refine ⟨h1, ?_⟩
  cases hb : tk.any (Nat.beq k) with
  | true => exact absurd (any_beq.1 hb) h2
  | false => rfl

/-- an object's row, in a reading that goes on -/
theorem rowO_le {R R' : RC} {L L' : Ref → Option Pl} (h : RLe R R') {k i : Nat} {gs gs' : List Nat}
    (hq : ∀ q p, L (.o k i q) = some p → 1 ≤ q → p.gen = gs.getD q 0 ∧ L' (.o k i q) = some { p with gen := gs'.getD q 0 }) : ∀ {cs : List Cell} {q : Nat} {x : Val (rowsTy cs)} {ys : List Value}, 1 ≤ q →
    RepL R L (rowO k i (fun q => decide ((q, i) ∈ ([] : List (Nat × Nat)))) gs cs q x) ys → RepL R' L' (rowO k i (fun q => decide ((q, i) ∈ ([] : List (Nat × Nat)))) gs' cs q x) ys
  | [], _, _, _, _, h => h
  | .d t :: r, q, x, ys, h1, hx => by
    simp only [rowO] at hx ⊢
    obtain ⟨c, d, rfl, hc, hd⟩ := hx.split
    exact (RepL.ofT t (RepT.mono h t (RepL.toT t hc))).append (rowO_le h hq h1 hd)
  | .sl t :: r, q, x, ys, h1, hx => by
    simp only [rowO, RepL] at hx ⊢
    obtain ⟨y, tl, rfl, hy, ht⟩ := hx
    refine ⟨y, tl, rfl, ?_, rowO_le h hq (by omega) ht⟩
    simp only [List.not_mem_nil, decide_false, Rep] at hy ⊢
    obtain ⟨p, hp, hw, hge, ad, cap, hv, hcap, hsome, hcur⟩ := hy
    obtain ⟨hg, hp'⟩ := hq q p hp h1
    exact ⟨_, hp', hw, Nat.le_refl _, ad, cap, hv, hcap, hsome, fun _ => hcur hg⟩

section
variable {c : Ctx} {I : Nat → Prop} {L : Ref → Option Pl} {s : St} {a : Act} {w : World} {call : CallF}

/-- the places of a state that is told as plain data -/
def freshL (nk b0 : Nat) (L : Ref → Option Pl) (pls : List Pl) : Ref → Option Pl
  | .l id => if id < nk then some ⟨0, 0, 0, 0, 0, true⟩ else if b0 ≤ id then pls[id - b0]? else none
  | .o k i q => (L (.o k i q)).map fun p => { p with gen := 0 }

/-- A STATE TOLD AS PLAIN DATA stands for all that it stood for. -/
theorem dec_sim (h : Sim c I L s a w) {tk : List Nat} {sl : List Slot} {x : StV c.E tk sl} {rs : List Nat} {b0 : Nat} (hb0 : c.E.kinds.length ≤ b0) (hnd : tk.Nodup) (hlt : ∀ k, k ∈ tk → k < c.E.kinds.length)
    (e : (decSlots c.E tk sl s).run call s.rd = some (x, rs)) : ∃ I2 L2, Sim c I2 L2 (encAt c.E tk sl b0 x) a w := by
  unfold decSlots at e
  obtain ⟨⟨env, ids⟩, r1, r2, e1, e2, rfl⟩ := HM.run_bind e
  simp only at e2
  cases hall : (ids.all Ref.isL && (s.heap.drop c.E.kinds.length).all noTab) with
  | false => simp only [hall] at e2; cases e2
  | true =>
  simp only [hall] at e2
  simp only [Bool.and_eq_true, List.all_eq_true] at hall
  obtain ⟨hidL, hnoT⟩ := hall
  obtain ⟨u, r3, r4, e3, e4, rfl⟩ := HM.run_bind e2
  obtain ⟨t, r5, r6, e5, e6, rfl⟩ := HM.run_bind e4
  obtain ⟨y, r7, r8, e7, e8, rfl⟩ := HM.run_bind e6
  obtain ⟨hx, rfl⟩ := HM.run_ret e8
  subst hx
  obtain ⟨_, g2⟩ := expA_sound h e1 h.env
  have hi : ∀ b, I b → heldBy I L ids b := fun b hb => .inl hb
  have hh : ∀ id, id ∈ ids → ∀ p, L id = some p → p.virt = false → heldBy I L ids p.b := fun id hid p hp hv => .inr ⟨id, p, hid, hp, hv, rfl⟩
  have hrep := g2 (heldBy I L ids) hi hh
  obtain ⟨used', src, pls, hk, hs⟩ := decE_kept h hi hh sl _ _ _ _ _ b0 e7 hrep
  have htab := decTabs_sound e5
  have hnone := noTabs_sound e3
  obtain ⟨hp, hhp⟩ : ∃ hp, hp = encHeap sl b0 y := ⟨_, rfl⟩
  obtain ⟨T, hT⟩ : ∃ T, T = encTabs c.E.kinds tk t := ⟨_, rfl⟩
  rw [← hhp] at hk
  rw [← hT] at htab
  show ∃ I2 L2, Sim c I2 L2 ⟨encEnv sl b0 y, outH c.E tk (encTabs c.E.kinds tk t) b0 (encHeap sl b0 y)⟩ a w
  rw [← hhp, ← hT]
  -- the heap
  have hTk : ∀ k, k ∈ tk → ∃ b cs l gs, s.heap[k]? = some (some b) ∧ b.ct = .tab cs l [] gs ∧ (outH c.E tk T b0 hp)[k]? = some (some (tabB cs l)) := by
    intro k hkk
    obtain ⟨j, hj, ek⟩ := List.getElem_of_mem hkk
    have hj' : tk[j]? = some k := by rw [List.getElem?_eq_getElem hj, ek]
    obtain ⟨b, l, gs, g1, g2, g3⟩ := htab j k hj'
    refine ⟨b, _, l, gs, g1, g2, ?_⟩
    rw [outH_tab (hlt k hkk)]
    exact putK_at _ tk T j k _ hnd (fun k hk => by simpa using hlt k hk) hj' g3
  have hTn : ∀ k, k < c.E.kinds.length → k ∉ tk → ∃ cs, (outH c.E tk T b0 hp)[k]? = some (some (tab0 cs)) := by
    intro k hkl hkk
    refine ⟨c.E.kinds[k], ?_⟩
    rw [outH_tab hkl]
    unfold entryH
    rw [putK_other _ tk _ k hkk, List.getElem?_map, List.getElem?_eq_getElem hkl]
    rfl
  have hTm : ∀ id, c.E.kinds.length ≤ id → id < b0 → ∀ b, (outH c.E tk T b0 hp)[id]? = some (some b) → False := by
    intro id h1 h2 b hb
    unfold outH at hb
    rw [List.append_assoc, List.getElem?_append_right (by rw [entryH_length]; exact h1), entryH_length, List.getElem?_append_left (by simp; omega), List.getElem?_replicate] at hb
    split at hb <;> simp at hb
  have hTb : ∀ id, b0 ≤ id → (outH c.E tk T b0 hp)[id]? = hp[id - b0]? := by
    intro id h1
    have := outH_new (E := c.E) (ks := tk) (ts := T) (hp := hp) hb0 (id - b0)
    rw [show b0 + (id - b0) = id from by omega] at this
    exact this
  have hTt : ∀ k b, c.E.kinds.length ≤ k → (outH c.E tk T b0 hp)[k]? = some (some b) → b.isTab = false := by
    intro k b h1 hb
    rcases Nat.lt_or_ge k b0 with h2 | h2
    · exact (hTm k h1 h2 b hb).elim
    · rw [hTb k h2] at hb
      obtain ⟨B, p, hx, _, hz, _⟩ := hk.blk _ _ hb
      injection hx with hx
      subst hx
      exact hz
  have hno : ∀ k i q p, L (.o k i q) = some p → k ∈ tk := by
    intro k i q p hp0
    apply Classical.byContradiction
    intro hkk
    obtain ⟨x, hx⟩ := h.dom _ p hp0
    rcases Nat.lt_or_ge k c.E.kinds.length with hkl | hkl
    · obtain ⟨b, cs, st, gs, g1, g2⟩ := hnone k (mem_others hkl hkk)
      simp only [rdv, g1, g2, List.length_nil, Nat.not_lt_zero, if_false] at hx
      cases hx
    · simp only [rdv] at hx
      split at hx
      · rename_i b hb
        have := hnoT (some b) (List.mem_of_getElem? (show (s.heap.drop c.E.kinds.length)[k - c.E.kinds.length]? = some (some b) by rw [List.getElem?_drop, show c.E.kinds.length + (k - c.E.kinds.length) = k from by omega]; exact hb))
        simp only [noTab, Bool.not_eq_true'] at this
        unfold Blk.isTab at this
        split at hx
        · rename_i hct
          rw [hct] at this
          cases this
        · cases hx
      · cases hx
  -- the places
  obtain ⟨L2, hL2⟩ : ∃ L2, L2 = freshL c.E.kinds.length b0 L pls := ⟨_, rfl⟩
  have L2t : ∀ id, id < c.E.kinds.length → L2 (.l id) = some ⟨0, 0, 0, 0, 0, true⟩ := fun id h1 => by rw [hL2]; exact if_pos h1
  have L2b : ∀ id, b0 ≤ id → L2 (.l id) = pls[id - b0]? := fun id h1 => by
    rw [hL2]
    show (if id < c.E.kinds.length then _ else _) = _
    rw [if_neg (by omega), if_pos h1]
  have L2m : ∀ id, c.E.kinds.length ≤ id → id < b0 → L2 (.l id) = none := fun id h1 h2 => by
    rw [hL2]
    show (if id < c.E.kinds.length then _ else _) = _
    rw [if_neg (by omega), if_neg (by omega)]
  have L2o : ∀ k i q, L2 (.o k i q) = (L (.o k i q)).map fun p => { p with gen := 0 } := fun k i q => by rw [hL2]; rfl
  have hag : Agree L2 b0 pls := fun j p hj => by rw [L2b _ (Nat.le_add_right _ _), Nat.add_sub_cancel_left]; exact hj
  have hfr : Fresh L L2 := fun k i q p hp0 => by rw [L2o, hp0]; rfl
  have hH : hOf L2 = hOf L := by
    funext k i
    simp only [hOf, L2o]
    cases L (.o k i 0) <;> rfl
  have hR : c.rc (heldBy I L ids) L2 w = c.rc (heldBy I L ids) L w := by
    unfold Ctx.rc rcW
    rw [hH]
  have hrle : RLe (c.rc I L w) (c.rc (heldBy I L ids) L2 w) := by
    rw [hR]
    exact rle_of_heap hi (fun _ _ => rfl) (LLe.refl L)
  have hheld : ∀ k i q p, L (.o k i q) = some p → p.virt = false → ¬ I p.b → ¬ heldBy I L ids p.b := by
    intro k i q p hp0 hv hI hx
    rcases hx with hx | ⟨id, p', hid, hp', hv', hbb⟩
    · exact hI hx
    · have := h.inj _ _ p p' hp0 hp' hv hv' hbb
      subst this
      have := hidL _ hid
      simp [Ref.isL] at this
  have hsrc : ∀ (b : Nat) (q : Pl), pls[b]? = some q → q.virt = false → ∃ id p, src[b]? = some (some id) ∧ id ∉ lids ids ∧ L (.l id) = some p ∧ q.b = p.b ∧ p.virt = false ∧ ¬ I p.b := by
    intro b q hq hv
    have hlt : b < src.length := by rw [← hk.len.1]; exact (List.getElem?_eq_some_iff.1 hq).1
    cases hsb : src[b]? with
    | none => rw [List.getElem?_eq_none_iff] at hsb; omega
    | some o =>
      cases o with
      | none =>
        obtain ⟨q', hq', hv'⟩ := hk.virt b hsb
        rw [hq] at hq'
        injection hq' with hq'
        subst hq'
        rw [hv] at hv'
        cases hv'
      | some id =>
        obtain ⟨h1, _, p, q', h2, h3, h4, h5, h6⟩ := hk.own b id hsb
        rw [hq] at h3
        injection h3 with h3
        subst h3
        have hpv : p.virt = false := by rw [← h5]; exact hv
        exact ⟨id, p, rfl, h1, h2, h4, hpv, h6 hpv⟩
  have hmem : ∀ id, Ref.l id ∈ ids → id ∈ lids ids := by
    intro id
    generalize ids = l
    induction l with
    | nil => intro h0; cases h0
    | cons r l ih =>
      intro h0
      cases r with
      | l id' =>
        simp only [lids, List.mem_cons] at h0 ⊢
        rcases h0 with h0 | h0
        · injection h0 with h0; exact .inl h0
        · exact .inr (ih h0)
      | o k i q =>
        simp only [lids, List.mem_cons] at h0 ⊢
        rcases h0 with h0 | h0
        · cases h0
        · exact ih h0
  -- an object's blocks
  have hobj : ∀ k i q x, rdv (outH c.E tk T b0 hp) (.o k i q) = some x → ∃ p, L (.o k i q) = some p ∧ (p.virt = false → ¬ I p.b) ∧ x.frozen = false ∧ BlkOK (c.rc (heldBy I L ids) L2 w) L2 w { p with gen := 0 } x := by
    intro k i q x hx
    have hkl : k < c.E.kinds.length := by
      apply Classical.byContradiction
      intro hkl
      simp only [rdv] at hx
      split at hx
      · rename_i b hb
        have := hTt k b (by omega) hb
        unfold Blk.isTab at this
        split at hx
        · rename_i hct
          rw [hct] at this
          cases this
        · cases hx
      · cases hx
    by_cases hkk : k ∈ tk
    · obtain ⟨b, cs, l, gs, h1, h2, h4⟩ := hTk k hkk
      simp only [rdv, h4, tabB] at hx
      split at hx
      rotate_left
      · cases hx
      rename_i hil
      cases q with
      | zero =>
        simp only [viewV, Option.some.injEq] at hx
        subst hx
        have hbox : rdv s.heap (.o k i 0) = some { ct := .box (rowO k i (fun q => decide ((q, i) ∈ ([] : List (Nat × Nat)))) gs cs 1 (l.getD i (dfl (rowsTy cs)))), gen := 0, frozen := false } := by
          simp only [rdv, h1, h2, if_pos hil, viewV]
        obtain ⟨p, hp0, hkk', hf⟩ := h.blk _ _ hbox
        refine ⟨p, hp0, hf rfl, rfl, ?_⟩
        obtain ⟨e1, e2, e3, cc, T, e4, e5⟩ := hkk'
        refine ⟨rfl, e2, e3, cc, T, e4, ?_⟩
        refine rowO_le hrle (fun q p hp1 hq => ?_) (Nat.le_refl 1) e5
        obtain ⟨_, _, hg⟩ := slice_gen h h1 h2 hp1
        refine ⟨(hg hq).1, ?_⟩
        rw [L2o, hp1, zeros_getD]
        rfl
      | succ q =>
        simp only [viewV] at hx
        split at hx
        rotate_left
        · cases hx
        rename_i ty y' hsl
        simp only [List.not_mem_nil, if_false, Option.some.injEq, zeros_getD] at hx
        subst hx
        have hsl0 : rdv s.heap (.o k i (q + 1)) = some { ct := .sl ty y', gen := gs.getD (q + 1) 0, frozen := false } := by
          simp only [rdv, h1, h2, if_pos hil, viewV, hsl, List.not_mem_nil, if_false]
        obtain ⟨p, hp0, hkk', hf⟩ := h.blk _ _ hsl0
        refine ⟨p, hp0, hf rfl, rfl, rfl, ?_⟩
        rcases hkk'.2 with ⟨e1, e2, e3⟩ | ⟨e1, e2, cc, T, e3, e4, e5, e6⟩
        · exact .inl ⟨e1, e2, e3⟩
        · refine .inr ⟨e1, e2, cc, T, e3, e4, e5, fun j hj => ?_⟩
          obtain ⟨d, hd, hda⟩ := e6 j hj
          exact ⟨d, hd.mono hrle, hda⟩
    · exfalso
      obtain ⟨cs, h1⟩ := hTn k hkl hkk
      simp only [rdv, h1, tab0, List.length_nil, Nat.not_lt_zero, if_false] at hx
      cases hx
  refine ⟨heldBy I L ids, L2, ?_, h.defers, fun r x hx => ?_, fun r p hp0 => ?_, fun r p hp0 hv => ?_, fun r r' p p' hp0 hp0' hv hv' hbb => ?_, fun b hb => ?_, fun b hb => .inl (h.i0 b hb), fun b hb => ?_, h.same, h.fix, fun k i p hp0 => ?_, h.grow, h.io⟩
  · rw [hR]
    exact hs L2 hag hfr
  · cases r with
    | l id =>
      have hx' := rdv_l.1 hx
      rcases Nat.lt_or_ge id c.E.kinds.length with hkl | hkl
      · refine ⟨_, L2t id hkl, ?_, fun _ hv => by cases hv⟩
        by_cases hkk : id ∈ tk
        · obtain ⟨b, cs, l, gs, h1, h2, h4⟩ := hTk id hkk
          simp only at hx'
          rw [h4] at hx'
          injection hx' with hx'
          injection hx' with hx'
          subst hx'
          exact ⟨rfl, rfl⟩
        · obtain ⟨cs, h4⟩ := hTn id hkl hkk
          simp only at hx'
          rw [h4] at hx'
          injection hx' with hx'
          injection hx' with hx'
          subst hx'
          exact ⟨rfl, rfl⟩
      · rcases Nat.lt_or_ge id b0 with h2 | h2
        · exact (hTm id hkl h2 x hx').elim
        · simp only at hx'
          rw [hTb id h2] at hx'
          obtain ⟨B', p, hx2, hz, _, hp0, hB'⟩ := hk.blk _ _ hx'
          injection hx2 with hx2
          subst hx2
          refine ⟨p, by rw [L2b id h2]; exact hp0, by rw [hR]; exact hB' _ hag, fun _ hv hI => ?_⟩
          obtain ⟨id1, p0, _, hid, hp1, hb1, hv1, hI1⟩ := hsrc _ p hp0 hv
          rcases hI with hI | ⟨r2, p2, hid2, hp2, hv2, hb2⟩
          · rw [hb1] at hI; exact hI1 hI
          · have := h.inj _ _ p0 p2 hp1 hp2 hv1 hv2 (by rw [← hb1]; exact hb2)
            subst this
            exact hid (hmem _ hid2)
    | o k i q =>
      obtain ⟨p, hp0, hI, hz, hkk⟩ := hobj k i q x hx
      exact ⟨_, hfr _ _ _ p hp0, hkk, fun _ hv => hheld k i q p hp0 hv (hI hv)⟩
  · cases r with
    | l id =>
      rcases Nat.lt_or_ge id c.E.kinds.length with hkl | hkl
      · by_cases hkk : id ∈ tk
        · obtain ⟨b, cs, l, gs, h1, h2, h4⟩ := hTk id hkk
          exact ⟨_, rdv_l.2 h4⟩
        · obtain ⟨cs, h4⟩ := hTn id hkl hkk
          exact ⟨_, rdv_l.2 h4⟩
      · rcases Nat.lt_or_ge id b0 with h2 | h2
        · rw [L2m id hkl h2] at hp0; cases hp0
        · rw [L2b id h2] at hp0
          have hlt : id - b0 < hp.length := by rw [← hk.len.2, ← hk.len.1]; exact (List.getElem?_eq_some_iff.1 hp0).1
          have hB := List.getElem?_eq_getElem hlt
          obtain ⟨B, p', hx, _⟩ := hk.blk _ _ hB
          exact ⟨B, rdv_l.2 (by simp only; rw [hTb id h2, hB, hx])⟩
    | o k i q =>
      rw [L2o] at hp0
      obtain ⟨p0, hp1, rfl⟩ := Option.map_eq_some_iff.1 hp0
      obtain ⟨b, cs, l, gs, h1, h2, h4⟩ := hTk k (hno k i q p0 hp1)
      obtain ⟨hil, _, hq⟩ := slice_gen h h1 h2 hp1
      simp only [rdv, h4, tabB, if_pos hil]
      cases q with
      | zero => exact ⟨_, rfl⟩
      | succ q =>
        obtain ⟨_, _, ty, y', hsl, _⟩ := hq (by omega)
        simp only [viewV, hsl]
        exact ⟨_, rfl⟩
  · cases r with
    | l id =>
      rcases Nat.lt_or_ge id c.E.kinds.length with hkl | hkl
      · rw [L2t id hkl] at hp0
        injection hp0 with hp0
        subst hp0
        cases hv
      · rcases Nat.lt_or_ge id b0 with h2 | h2
        · rw [L2m id hkl h2] at hp0; cases hp0
        · rw [L2b id h2] at hp0
          obtain ⟨id1, p0, _, _, hp1, hb1, hv1, _⟩ := hsrc _ p hp0 hv
          rw [hb1]
          exact h.own _ p0 hp1 hv1
    | o k i q =>
      rw [L2o] at hp0
      obtain ⟨p0, hp1, rfl⟩ := Option.map_eq_some_iff.1 hp0
      exact h.own _ p0 hp1 hv
  · -- from where a place is
    have hfrom : ∀ r p, L2 r = some p → p.virt = false → ∃ r0 p0, L r0 = some p0 ∧ p0.virt = false ∧ p.b = p0.b ∧ (r = r0 ∧ r.isL = false ∨ ∃ id id1, r = .l id ∧ r0 = .l id1 ∧ b0 ≤ id ∧ src[id - b0]? = some (some id1)) := by
      intro r p hp0 hv
      cases r with
      | l id =>
        rcases Nat.lt_or_ge id c.E.kinds.length with hkl | hkl
        · rw [L2t id hkl] at hp0
          injection hp0 with hp0
          subst hp0
          cases hv
        · rcases Nat.lt_or_ge id b0 with h2 | h2
          · rw [L2m id hkl h2] at hp0; cases hp0
          · rw [L2b id h2] at hp0
            obtain ⟨id1, p0, hs0, _, hp1, hb1, hv1, _⟩ := hsrc _ p hp0 hv
            exact ⟨.l id1, p0, hp1, hv1, hb1, .inr ⟨id, id1, rfl, rfl, h2, hs0⟩⟩
      | o k i q =>
        rw [L2o] at hp0
        obtain ⟨p0, hp1, rfl⟩ := Option.map_eq_some_iff.1 hp0
        exact ⟨.o k i q, p0, hp1, hv, rfl, .inl ⟨rfl, rfl⟩⟩
    obtain ⟨r0, p0, a1, a2, a3, a4⟩ := hfrom r p hp0 hv
    obtain ⟨r0', p0', b1, b2, b3, b4⟩ := hfrom r' p' hp0' hv'
    have := h.inj _ _ p0 p0' a1 b1 a2 b2 (by rw [← a3, ← b3]; exact hbb)
    subst this
    rcases a4 with ⟨rfl, a5⟩ | ⟨id, id1, rfl, rfl, a5, a6⟩ <;> rcases b4 with ⟨rfl, b5⟩ | ⟨id', id1', rfl, e', b5, b6⟩
    · rfl
    · rw [e'] at a5; cases a5
    · cases b5
    · injection e' with e'
      subst e'
      have := hk.inj _ _ id1 a6 b6
      rw [show id = id' from by omega]
  · rcases hb with hb | ⟨id, p, _, hp0, hv, rfl⟩
    · exact h.imm b hb
    · exact (h.own id p hp0 hv).2
  · rcases hb with hb | ⟨id, p, _, hp0, hv, rfl⟩
    · exact h.iN b hb
    · exact .inr (h.own id p hp0 hv).1
  · have h0 := h.bx k i p hp0
    obtain ⟨b, cs, l, gs, h1, h2, _⟩ := hTk k (hno k i 0 p h0)
    have := (slice_gen h h1 h2 h0).2.1 rfl
    rw [L2o, h0, Option.map_some, ← this]

end

/-- which kinds: each once, and there -/
def KindsOK (E : Env) (tk : List Nat) : Prop := tk.Nodup ∧ ∀ k, k ∈ tk → k < E.kinds.length

theorem decSlots_ref {P : Program} {E : Env} {S : Ini} {tk : List Nat} (hK : KindsOK E tk) {sl : List Slot} {s : St} {x : StV E tk sl} {rs : List Nat} {call : CallF} (e : (decSlots E tk sl s).run call s.rd = some (x, rs)) : May P E S s (encSlots E tk sl x) := by
  intro w0 Rt B I0 I L a w h
  exact dec_sim (c := ⟨P, E, S, w0, I0, Rt, B⟩) h (Nat.le_refl _) hK.1 hK.2 e

end Go.Eng
