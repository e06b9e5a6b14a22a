/-
  The abstract machine, part 16c: a store into an object's variable.
-/
import Derived.Test.YtnbpgehpjhifgaaDoorLxEngQb
namespace Go.Eng

section
variable {c : Ctx} {I : Nat → Prop} {L : Ref → Option Pl} {s : St} {a : Act} {w : World} {call : CallF}

theorem Sim.objPut (h : Sim c I L s a w) {s0 : St} {k i : Nat} {tb : Blk} {cs : List Cell} {l : List (Val (rowsTy cs))} {st : List (Nat × Nat)} {gs : List Nat} (htb : s.heap[k]? = some (some tb)) (htct : tb.ct = .tab cs l st gs) (hlt : i < l.length) {pb : Pl} (hpb : L (.o k i 0) = some pb)
    {x' : Val (rowsTy cs)} {us : List (Nat × Src)} {zs : List Value} (hput : RowPut (c.rc I L w) L s0 k i (fun q => decide ((q, i) ∈ st)) gs cs 1 (l.getD i (dfl (rowsTy cs))) x' us zs)
    (hrd : ∀ q src r, (q, src) ∈ us → src.ref k i q = some r → s.rd r = s0.rd r) (hnd : nodupN (srcIds us) = true) (hgl : ∀ q, q ∈ us.map (·.1) → q < gs.length)
    {st' : List (Nat × Nat)} (hb1 : ∀ p, p ∈ st → p.1 ∈ us.map (·.1) → p.2 = i) (hb2 : ∀ p, p ∈ st' ↔ p ∈ st ∧ p.1 ∉ us.map (·.1))
    {w' : World} {T : TypeId} (hcell : w'.heap[pb.b]? = some (.cells zs.toArray T (0, 0))) (hs : w'.heap.size = w.heap.size) (hio : IO w w') (hw : ∀ b, b ≠ pb.b → w'.heap[b]? = w.heap[b]?) :
    ∃ L', Sim c I L' ⟨s.env, putAll s.heap (goneA us ++ [(.l k, { tb with ct := .tab cs (l.set i x') st' (turnG (us.map (·.1)) gs) })])⟩ a w' := by
  obtain ⟨qs, hqs⟩ : ∃ qs, qs = us.map (·.1) := ⟨_, rfl⟩
  obtain ⟨gs', hgs'⟩ : ∃ gs', gs' = turnG qs gs := ⟨_, rfl⟩
  have hqnd : qs.Nodup := by rw [hqs]; exact hput.nodup
  rw [← hqs] at hgl hb1 hb2 ⊢
  rw [← hgs']
  have hG : ∀ q, gs'.getD q 0 = if q ∈ qs then gs.getD q 0 + 2 else gs.getD q 0 := fun q => by rw [hgs']; exact turnG_get hqnd hgl
  have hge : ∀ q, q ∈ qs → 1 ≤ q := fun q hq => by
    rw [hqs] at hq
    obtain ⟨p, hp, rfl⟩ := List.mem_map.1 hq
    exact hput.ge p hp
  have hmem : ∀ q, q ∈ qs → ∃ src, (q, src) ∈ us := fun q hq => by
    rw [hqs] at hq
    obtain ⟨p, hp, rfl⟩ := List.mem_map.1 hq
    exact ⟨p.2, hp⟩
  have hmem' : ∀ q src, (q, src) ∈ us → q ∈ qs := fun q src hm => by
    rw [hqs]
    exact List.mem_map.2 ⟨_, hm, rfl⟩
  -- the new places
  obtain ⟨np, hnp⟩ : ∃ np : Nat → Pl, ∀ q src (t : Ty) (l' : List (Val t)), (q, src) ∈ us → slO q cs 1 x' = some ⟨t, l'⟩ → np q = newPl L k i q t (gs'.getD q 0) src := by
    have this : ∀ q, ∃ p : Pl, ∀ src (t : Ty) (l' : List (Val t)), (q, src) ∈ us → slO q cs 1 x' = some ⟨t, l'⟩ → p = newPl L k i q t (gs'.getD q 0) src := by
      intro q
      by_cases hq : ∃ (src : Src) (t : Ty) (l' : List (Val t)), (q, src) ∈ us ∧ slO q cs 1 x' = some ⟨t, l'⟩
      · obtain ⟨src, t, l', hm, hsl⟩ := hq
        refine ⟨newPl L k i q t (gs'.getD q 0) src, fun src2 t2 l2 hm2 hsl2 => ?_⟩
        have e1 : src = src2 := nodup_fst (by rw [← hqs]; exact hqnd) hm hm2
        rw [hsl] at hsl2
        injection hsl2 with hsl2
        injection hsl2 with e2 _
        rw [e1, e2]
      · exact ⟨⟨0, 0, 0, 0, 0, true⟩, fun src t l' hm hsl => absurd ⟨src, t, l', hm, hsl⟩ hq⟩
    exact ⟨fun q => (this q).choose, fun q => (this q).choose_spec⟩
  -- what is known of each slice that went over
  have hU : ∀ q src, (q, src) ∈ us → ∃ (t : Ty) (l0 l' : List (Val t)) (v : Value), slO q cs 1 (l.getD i (dfl (rowsTy cs))) = some ⟨t, l0⟩ ∧ slO q cs 1 x' = some ⟨t, l'⟩ ∧ Taken L s0 k i q t l' src v ∧ np q = newPl L k i q t (gs'.getD q 0) src := by
    intro q src hm
    obtain ⟨t, l0, l', v, g1, g2, g3⟩ := hput.mem q src hm
    exact ⟨t, l0, l', v, g1, g2, g3, hnp q src t l' hm g2⟩
  have hOK : ∀ q src, (q, src) ∈ us → ∀ (t : Ty) (l' : List (Val t)) (v : Value), Taken L s0 k i q t l' src v → _ := fun q src hm t l' v ht => newPl_ok (G := gs'.getD q 0) h ht (fun r hr => hrd q src r hm hr)
  -- the blocks that go over
  have hloc : ∀ q id i0 t g, (q, Src.loc id i0 t g) ∈ us → ∃ p b l0, L (.l id) = some p ∧ s.heap[id]? = some (some b) ∧ b.ct = .sl t l0 ∧ b.gen = p.gen ∧ g = b.gen ∧ p.w = t.size := by
    intro q id i0 t g hm
    obtain ⟨t1, l0, l', v, _, _, ht, _⟩ := hU q _ hm
    obtain ⟨ad, cap, _, _, _, ht⟩ := ht
    simp only [Src.ref] at ht
    obtain ⟨p, b, l1, hp, hb, hz, hbg, hct, hsrc, _⟩ := ht
    obtain ⟨e1, e2⟩ := hsrc id i0 t g rfl
    subst e1
    have hb' : s.rd (.l id) = some b := by rw [hrd q _ (.l id) hm rfl]; exact hb
    obtain ⟨⟨_, hk⟩, _⟩ := h.get hp hb'
    rw [hct] at hk
    refine ⟨p, b, l1, hp, rdv_l.1 (show rdv s.heap (.l id) = some b from hb'), hct, hbg, e2, ?_⟩
    rcases hk with ⟨_, _, h1⟩ | ⟨_, h1, _⟩
    · exact h1
    · exact h1
  have hlocE : ∀ id, id ∈ srcIds us → ∃ q i0 t g, (q, Src.loc id i0 t g) ∈ us := fun id hid => srcIds_mem hid
  have hknot : k ∉ srcIds us := by
    intro hk
    obtain ⟨q, i0, t, g, hm⟩ := hlocE k hk
    obtain ⟨p, b, l0, _, hb, hct, _⟩ := hloc q k i0 t g hm
    rw [htb] at hb
    injection hb with hb
    injection hb with hb
    subst hb
    rw [htct] at hct
    cases hct
  obtain ⟨g1, g2, g3, g4⟩ := goneA_sound (u := us) (h := s.heap) hnd (fun id hid => by
    obtain ⟨q, i0, t, g, hm⟩ := hlocE id hid
    obtain ⟨p, b, l0, _, hb, _⟩ := hloc q id i0 t g hm
    exact (List.getElem?_eq_some_iff.1 hb).1) (fun id b hid hb => by
    obtain ⟨q, i0, t, g, hm⟩ := hlocE id hid
    obtain ⟨p, b2, l0, _, hb2, hct, _⟩ := hloc q id i0 t g hm
    rw [hb2] at hb
    injection hb with hb
    injection hb with hb
    subst hb
    simp [Blk.isTab, hct])
  have hkl : k < s.heap.length := (List.getElem?_eq_some_iff.1 htb).1
  obtain ⟨hp', hhp'⟩ : ∃ hp', hp' = putAll s.heap (goneA us ++ [(.l k, { tb with ct := .tab cs (l.set i x') st' gs' })]) := ⟨_, rfl⟩
  rw [← hhp']
  have hset : hp' = (putAll s.heap (goneA us)).set k (some { tb with ct := .tab cs (l.set i x') st' gs' }) := by
    rw [hhp', putAll_append]
    simp only [putAll, putH]
  have r2 : hp'[k]? = some (some { tb with ct := .tab cs (l.set i x') st' gs' }) := by rw [hset, List.getElem?_set_self (by rw [g1]; exact hkl)]
  have rgone : ∀ q id i0 t g, (q, Src.loc id i0 t g) ∈ us → rdv hp' (.l id) = some { ct := .sl t [], gen := g + 1, frozen := false } := by
    intro q id i0 t g hm
    have hne : k ≠ id := fun e => hknot (by rw [e]; exact mem_srcIds hm)
    rw [rdv_l, hset, List.getElem?_set_ne hne]
    exact rdv_l.1 (g4 q id i0 t g hm)
  have rl : ∀ id, id ≠ k → id ∉ srcIds us → rdv hp' (.l id) = rdv s.heap (.l id) := by
    intro id hne hn
    simp only [rdv, hset, List.getElem?_set_ne (Ne.symm hne)]
    rw [g3 id hn]
  have ro : ∀ k' i' q, k' ≠ k → rdv hp' (.o k' i' q) = rdv s.heap (.o k' i' q) := by
    intro k' i' q hne
    have : rdv hp' (.o k' i' q) = rdv (putAll s.heap (goneA us)) (.o k' i' q) := by
      simp only [rdv, hset, List.getElem?_set_ne (Ne.symm hne)]
    rw [this, g2 _ (fun id _ e => by cases e)]
  have rk : ∀ i' q, rdv hp' (.o k i' q) = if i' < l.length then viewV k i' cs ((l.set i x').getD i' (dfl (rowsTy cs))) st' gs' q else none := by
    intro i' q
    simp only [rdv, r2, List.length_set]
  have rk0 : ∀ i' q, rdv s.heap (.o k i' q) = if i' < l.length then viewV k i' cs (l.getD i' (dfl (rowsTy cs))) st gs q else none := by
    intro i' q
    simp only [rdv, htb, htct]
  -- the places
  let L' : Ref → Option Pl := fun r => match r with
    | .l id => if id ∈ srcIds us then (L (.l id)).map fun p => { p with gen := p.gen + 1, virt := true } else L (.l id)
    | .o k' i' q => if k' = k ∧ q ∈ qs then (if i' = i then some (np q) else (L (.o k' i' q)).map fun p => { p with gen := gs'.getD q 0 }) else L (.o k' i' q)
  have L1 : ∀ id, id ∉ srcIds us → L' (.l id) = L (.l id) := fun id hn => if_neg hn
  have L2 : ∀ id, id ∈ srcIds us → L' (.l id) = (L (.l id)).map fun p => { p with gen := p.gen + 1, virt := true } := fun id hn => if_pos hn
  have L3 : ∀ q, q ∈ qs → L' (.o k i q) = some (np q) := fun q hq => by show (if k = k ∧ q ∈ qs then _ else _) = _; rw [if_pos ⟨rfl, hq⟩, if_pos rfl]
  have L4 : ∀ i' q, q ∈ qs → i' ≠ i → L' (.o k i' q) = (L (.o k i' q)).map fun p => { p with gen := gs'.getD q 0 } := fun i' q hq hne => by
    show (if k = k ∧ q ∈ qs then _ else _) = _; rw [if_pos ⟨rfl, hq⟩, if_neg hne]
  have L5 : ∀ k' i' q, ¬ (k' = k ∧ q ∈ qs) → L' (.o k' i' q) = L (.o k' i' q) := fun k' i' q hn => if_neg hn
  have hz0 : 0 ∉ qs := fun h0 => by have := hge 0 h0; omega
  -- an old slice's place
  have hold : ∀ i' q p, q ∈ qs → L (.o k i' q) = some p → ∃ (t : Ty) (y : List (Val t)), i' < l.length ∧ slO q cs 1 (l.getD i' (dfl (rowsTy cs))) = some ⟨t, y⟩ ∧ p.w = t.size ∧ p.gen = (if (q, i') ∈ st then gs.getD q 0 + 1 else gs.getD q 0) := by
    intro i' q p hq hp
    obtain ⟨b, hb⟩ := h.dom _ p hp
    obtain ⟨p2, hp2, hk, _⟩ := h.blk _ b hb
    rw [hp] at hp2
    injection hp2 with hp2
    subst hp2
    rw [rk0] at hb
    split at hb
    · rename_i hil
      have h1 := hge q hq
      obtain ⟨q, rfl⟩ := Nat.exists_eq_add_of_le' h1
      simp only [viewV] at hb
      split at hb
      · rename_i t y hsl
        simp only [Option.some.injEq] at hb
        refine ⟨t, y, hil, hsl, ?_, ?_⟩
        · split at hb
          · subst hb
            rcases hk.2 with ⟨_, _, h1⟩ | ⟨_, h1, _⟩
            · exact h1
            · exact h1
          · subst hb
            rcases hk.2 with ⟨_, _, h1⟩ | ⟨_, h1, _⟩
            · exact h1
            · exact h1
        · have hg := hk.1
          split at hb
          · rename_i hm
            subst hb
            rw [if_pos hm]
            exact hg
          · rename_i hm
            subst hb
            rw [if_neg hm]
            exact hg
      · cases hb
    · cases hb
  -- types of a slot do not hang on the object
  have hsty : ∀ q (x y : Val (rowsTy cs)) (t t' : Ty) (l1 : List (Val t)) (l2 : List (Val t')), slO q cs 1 x = some ⟨t, l1⟩ → slO q cs 1 y = some ⟨t', l2⟩ → t = t' := by
    have key : ∀ (cs : List Cell) (n q : Nat) (x y : Val (rowsTy cs)) (t t' : Ty) (l1 : List (Val t)) (l2 : List (Val t')), slO q cs n x = some ⟨t, l1⟩ → slO q cs n y = some ⟨t', l2⟩ → t = t' := by
      intro cs
      induction cs with
      | nil => intro n q x y t t' l1 l2 h; cases h
      | cons cell r ih =>
        intro n q x y t t' l1 l2 h1 h2
        cases cell with
        | d u => simp only [slO] at h1 h2; exact ih n q x.2 y.2 t t' l1 l2 h1 h2
        | sl u =>
          simp only [slO] at h1 h2
          cases hb : Nat.beq n q with
          | true =>
            rw [hb] at h1 h2
            simp only [Option.some.injEq, Sigma.mk.injEq] at h1 h2
            rw [← h1.1, ← h2.1]
          | false =>
            rw [hb] at h1 h2
            exact ih (n + 1) q x.2 y.2 t t' l1 l2 h1 h2
    exact fun q x y => key cs 1 q x y
  have hl : LLe L L' := by
    intro r p hp
    cases r with
    | l id =>
      by_cases hid : id ∈ srcIds us
      · exact ⟨{ p with gen := p.gen + 1, virt := true }, by rw [L2 id hid, hp]; rfl, rfl, .inr ⟨Nat.lt_succ_self _, fun hb => hb⟩⟩
      · exact ⟨p, by rw [L1 id hid]; exact hp, rfl, .inl rfl⟩
    | o k' i' q =>
      by_cases hkq : k' = k ∧ q ∈ qs
      · obtain ⟨rfl, hq⟩ := hkq
        have hnb : ¬ (Ref.o k' i' q).isBox := by
          have := hge q hq
          obtain ⟨q, rfl⟩ := Nat.exists_eq_add_of_le' this
          exact fun hb => hb
        obtain ⟨t, y, hil, hsl, hpw, hpg⟩ := hold i' q p hq hp
        have hGq := hG q
        rw [if_pos hq] at hGq
        by_cases hii : i' = i
        · subst hii
          obtain ⟨src, hm⟩ := hmem q hq
          obtain ⟨t2, l0, l', v, hs0, hs1, ht, hnpq⟩ := hU q src hm
          obtain ⟨k1, k2, _⟩ := hOK q src hm t2 l' v ht
          refine ⟨np q, L3 q hq, ?_, .inr ⟨?_, hnb⟩⟩
          · rw [hnpq, k1, hpw, hsty q _ _ _ _ _ _ hs0 hsl]
          · rw [hnpq, k2, hGq, hpg]
            split <;> omega
        · refine ⟨{ p with gen := gs'.getD q 0 }, by rw [L4 i' q hq hii, hp]; rfl, rfl, .inr ⟨?_, hnb⟩⟩
          show p.gen < gs'.getD q 0
          rw [hGq, hpg]
          split <;> omega
      · exact ⟨p, by rw [L5 k' i' q hkq]; exact hp, rfl, .inl rfl⟩
  -- where the new places come from
  have hO : ∀ r p, L' r = some p → p.virt = false → ∃ r0 p0, L r0 = some p0 ∧ p0.virt = false ∧ p.b = p0.b ∧
      ((r = r0 ∧ ∀ id, r0 = .l id → id ∉ srcIds us) ∨ ∃ q id i0 t g, r = .o k i q ∧ (q, Src.loc id i0 t g) ∈ us ∧ r0 = .l id) := by
    intro r p hp hv
    cases r with
    | l id =>
      by_cases hid : id ∈ srcIds us
      · rw [L2 id hid] at hp
        obtain ⟨p0, _, rfl⟩ := Option.map_eq_some_iff.1 hp
        cases hv
      · rw [L1 id hid] at hp
        exact ⟨_, p, hp, hv, rfl, .inl ⟨rfl, fun id' e => by injection e with e; rw [← e]; exact hid⟩⟩
    | o k' i' q =>
      by_cases hkq : k' = k ∧ q ∈ qs
      · obtain ⟨rfl, hq⟩ := hkq
        by_cases hii : i' = i
        · subst hii
          rw [L3 q hq] at hp
          injection hp with hp
          subst hp
          obtain ⟨src, hm⟩ := hmem q hq
          obtain ⟨t2, l0, l', v, hs0, hs1, ht, hnpq⟩ := hU q src hm
          obtain ⟨_, _, _, _, k5⟩ := hOK q src hm t2 l' v ht
          rw [hnpq] at hv ⊢
          obtain ⟨r, p0, hr, hp0, hpv, hpb0, _⟩ := k5 hv
          cases src with
          | nil => cases hr
          | own i0 =>
            simp only [Src.ref, Option.some.injEq] at hr
            subst hr
            exact ⟨_, p0, hp0, hpv, hpb0, .inl ⟨rfl, fun id e => by cases e⟩⟩
          | loc id i0 t g =>
            simp only [Src.ref, Option.some.injEq] at hr
            subst hr
            exact ⟨_, p0, hp0, hpv, hpb0, .inr ⟨q, id, i0, t, g, rfl, hm, rfl⟩⟩
        · rw [L4 i' q hq hii] at hp
          obtain ⟨p0, hp0, rfl⟩ := Option.map_eq_some_iff.1 hp
          exact ⟨_, p0, hp0, hv, rfl, .inl ⟨rfl, fun id e => by cases e⟩⟩
      · rw [L5 k' i' q hkq] at hp
        exact ⟨_, p, hp, hv, rfl, .inl ⟨rfl, fun id e => by cases e⟩⟩
  have hsame : ∀ r p, r ≠ .o k i 0 → L r = some p → p.virt = false → w'.heap[p.b]? = w.heap[p.b]? := by
    intro r p hne hp hv
    refine hw _ fun e => ?_
    obtain ⟨pb', hpb', hbb, _, hv', _⟩ := h.objL (k := k) (i := i) (b := pb.b) (by simp [Ctx.rc, rcW, hOf, hpb])
    rw [hpb] at hpb'
    injection hpb' with hpb'
    subst hpb'
    exact hne (h.inj r _ p pb hp hpb hv hv' e)
  have hpbv : pb.virt = false := by
    obtain ⟨pb', hpb', hbb, _, hv', _⟩ := h.objL (k := k) (i := i) (b := pb.b) (by simp [Ctx.rc, rcW, hOf, hpb])
    rw [hpb] at hpb'
    injection hpb' with hpb'
    subst hpb'
    exact hv'
  have hmono : RLe (c.rc I L w) (c.rc I L' w') → ∀ r p b, r ≠ .o k i 0 → L r = some p → BlkOK (c.rc I L w) L w p b → BlkOK (c.rc I L' w') L' w' p b := by
    intro hr r p b hne hp hk
    exact hk.mono hr hl (fun hv => hsame r p hne hp hv) (fun hv o => cell?_heap _ _ (hsame r p hne hp hv))
  refine ⟨L', h.turn hl (by rw [hs]; exact Nat.le_refl _) hio (fun b _ hor => ?_) (fun hr r b hb => ?_) (fun r p hp => ?_) (fun r p hp hv => ?_) (fun r r' p p' hp hp' hv hv' hbb => ?_)⟩
  · refine hw b fun e => ?_
    rcases hor with hI | hne
    · obtain ⟨bb, hbb⟩ := h.dom _ pb hpb
      obtain ⟨p2, hp2, hk2, hf2⟩ := h.blk _ bb hbb
      rw [hpb] at hp2
      injection hp2 with hp2
      subst hp2
      have : bb.frozen = false := by
        rw [rk0, if_pos hlt] at hbb
        simp only [viewV, Option.some.injEq] at hbb
        subst hbb
        rfl
      rw [e] at hI
      exact hf2 this hpbv hI
    · exact hne _ pb hpb hpbv e.symm
  · -- blocks
    cases r with
    | l id =>
      by_cases hk : id = k
      · subst hk
        rw [rdv_l.2 r2] at hb
        injection hb with hb
        subst hb
        obtain ⟨p1, hp1, hk1, hf1⟩ := h.blk (.l id) tb (rdv_l.2 htb)
        refine ⟨p1, by rw [L1 id hknot]; exact hp1, ?_, hf1⟩
        unfold BlkOK at hk1 ⊢
        rw [htct] at hk1
        exact hk1
      · by_cases hid : id ∈ srcIds us
        · obtain ⟨q, i0, t, g, hm⟩ := hlocE id hid
          obtain ⟨p, b0, l0, hp, _, _, hbg, hg, hpw⟩ := hloc q id i0 t g hm
          rw [rgone q id i0 t g hm] at hb
          injection hb with hb
          subst hb
          refine ⟨{ p with gen := p.gen + 1, virt := true }, by rw [L2 id hid, hp]; rfl, ⟨?_, .inl ⟨rfl, rfl, hpw⟩⟩, fun _ hv => by cases hv⟩
          show p.gen + 1 = g + 1
          rw [hg, hbg]
        · rw [rl id hk hid] at hb
          obtain ⟨p1, hp1, hk1, hf1⟩ := h.blk _ b hb
          exact ⟨p1, by rw [L1 id hid]; exact hp1, hmono hr _ p1 b (by simp) hp1 hk1, hf1⟩
    | o k' i' q =>
      by_cases hkk : k' = k
      · subst hkk
        rw [rk] at hb
        split at hb
        · rename_i hil
          by_cases hii : i' = i
          · subst hii
            rw [getD_sets hlt] at hb
            cases q with
            | zero =>
              simp only [viewV, Option.some.injEq] at hb
              subst hb
              have hbox : rdv s.heap (.o k' i' 0) = some { ct := .box (rowO k' i' (fun q => decide ((q, i') ∈ st)) gs cs 1 (l.getD i' (dfl (rowsTy cs)))), gen := 0, frozen := false } := by
                rw [rk0, if_pos hlt]; rfl
              obtain ⟨p1, hp1, hk1, hf1⟩ := h.blk _ _ hbox
              rw [hpb] at hp1
              injection hp1 with hp1
              subst hp1
              obtain ⟨e1, e2, e3, _⟩ := hk1
              refine ⟨pb, by rw [L5 _ _ _ (fun hx => hz0 hx.2)]; exact hpb, ⟨e1, e2, e3, _, T, hcell, ?_⟩, hf1⟩
              refine hput.row hr hl (U := us) (CS := cs) (X := x') (fun q hq => ⟨?_, ?_⟩) (fun q src t l' v hm hsl ht => ⟨?_, ?_⟩) (fun p hp => hp) (fun p hp _ => hp) (fun _ _ => rfl)
              · have hqn : q ∉ qs := fun hm => by
                  obtain ⟨src, hm⟩ := hmem q hm
                  exact hq _ hm rfl
                have : (q, i') ∈ st' ↔ (q, i') ∈ st := by
                  rw [hb2]
                  exact ⟨fun h => h.1, fun h => ⟨h, hqn⟩⟩
                simp only [this]
              · have hqn : q ∉ qs := fun hm => by
                  obtain ⟨src, hm⟩ := hmem q hm
                  exact hq _ hm rfl
                rw [hG q, if_neg hqn]
              · have : ¬ (q, i') ∈ st' := fun hx => ((hb2 _).1 hx).2 (hmem' q src hm)
                simp only [this, decide_false]
              · obtain ⟨_, _, _, k4, _⟩ := hOK q src hm t l' v ht
                refine k4 _ _ ?_
                rw [L3 q (hmem' q src hm), hnp q src t l' hm hsl]
            | succ q =>
              by_cases hq : q + 1 ∈ qs
              · obtain ⟨src, hm⟩ := hmem _ hq
                obtain ⟨t, l0, l', v, hs0, hs1, ht, hnpq⟩ := hU _ src hm
                have hn' : ¬ (q + 1, i') ∈ st' := fun hx => ((hb2 _).1 hx).2 hq
                simp only [viewV, hs1, if_neg hn', Option.some.injEq] at hb
                subst hb
                obtain ⟨k1, k2, k3, k4, k5⟩ := hOK _ src hm t l' v ht
                refine ⟨np (q + 1), L3 _ hq, ?_, fun _ hv => ?_⟩
                · rw [hnpq]
                  refine k3.mono hr hl (fun hv => ?_) (fun hv o => ?_)
                  · obtain ⟨r, p0, hr0, hp0, hpv, hpb0, _⟩ := k5 hv
                    rw [hpb0]
                    refine hsame r p0 (fun e => ?_) hp0 hpv
                    subst e
                    cases src <;> simp [Src.ref] at hr0
                  · obtain ⟨r, p0, hr0, hp0, hpv, hpb0, _⟩ := k5 hv
                    refine cell?_heap _ _ ?_
                    rw [hpb0]
                    refine hsame r p0 (fun e => ?_) hp0 hpv
                    subst e
                    cases src <;> simp [Src.ref] at hr0
                · rw [hnpq] at hv ⊢
                  obtain ⟨r, p0, hr0, hp0, hpv, hpb0, hnI⟩ := k5 hv
                  rw [hpb0]
                  exact hnI
              · have hst : (q + 1, i') ∈ st' ↔ (q + 1, i') ∈ st := by
                  rw [hb2]
                  exact ⟨fun h => h.1, fun h => ⟨h, hq⟩⟩
                have hsl : slO (q + 1) cs 1 x' = slO (q + 1) cs 1 (l.getD i' (dfl (rowsTy cs))) := hput.other fun p hp e => hq (by rw [← e]; exact hmem' p.1 p.2 hp)
                have hb0 : rdv s.heap (.o k' i' (q + 1)) = some b := by
                  rw [rk0, if_pos hlt]
                  simp only [viewV] at hb ⊢
                  have hGq := hG (q + 1)
                  rw [if_neg hq] at hGq
                  rw [hsl, hGq] at hb
                  simp only [hst] at hb
                  exact hb
                obtain ⟨p1, hp1, hk1, hf1⟩ := h.blk _ b hb0
                exact ⟨p1, by rw [L5 _ _ _ (fun hx => hq hx.2)]; exact hp1, hmono hr _ p1 b (by simp) hp1 hk1, hf1⟩
          · rw [getD_setn (Ne.symm hii)] at hb
            have hstn : ∀ q, q ∈ qs → ¬ (q, i') ∈ st := fun q hq hx => hii (hb1 _ hx hq)
            have hst' : ∀ q, (q, i') ∈ st' ↔ (q, i') ∈ st := fun q => by
              rw [hb2]
              exact ⟨fun h => h.1, fun h => ⟨h, fun hq => hstn q hq h⟩⟩
            cases q with
            | zero =>
              simp only [viewV, Option.some.injEq] at hb
              subst hb
              have hbox : rdv s.heap (.o k' i' 0) = some { ct := .box (rowO k' i' (fun q => decide ((q, i') ∈ st)) gs cs 1 (l.getD i' (dfl (rowsTy cs)))), gen := 0, frozen := false } := by
                rw [rk0, if_pos hil]; rfl
              obtain ⟨p1, hp1, hk1, hf1⟩ := h.blk _ _ hbox
              obtain ⟨e1, e2, e3, cc, TT, e4, e5⟩ := hk1
              have hne : Ref.o k' i' 0 ≠ Ref.o k' i 0 := fun e => by injection e with _ e _; exact hii e
              refine ⟨p1, by rw [L5 _ _ _ (fun hx => hz0 hx.2)]; exact hp1, ⟨e1, e2, e3, cc, TT, by rw [hsame _ p1 hne hp1 e2]; exact e4, ?_⟩, hf1⟩
              refine rowO_regen hr hl (fun q hq => by simp only [decide_eq_true_eq] at hq ⊢; exact (hst' q).2 hq) (fun q => ?_) (fun q p hp hq h1 => ?_) (Nat.le_refl 1) e5
              · by_cases hq : q ∈ qs
                · exact .inr fun p hp _ => by rw [L4 i' q hq hii, hp]; rfl
                · exact .inl (by rw [hG q, if_neg hq])
              · obtain ⟨bb, hbb⟩ := h.dom _ p hp
                obtain ⟨p2, hp2, hk2, _⟩ := h.blk _ bb hbb
                rw [hp] at hp2
                injection hp2 with hp2
                subst hp2
                rw [rk0, if_pos hil] at hbb
                obtain ⟨q, rfl⟩ := Nat.exists_eq_add_of_le' h1
                simp only [viewV] at hbb
                have hqn : ¬ (q + 1, i') ∈ st := by simpa using hq
                split at hbb
                · rw [if_neg hqn] at hbb
                  injection hbb with hbb
                  subst hbb
                  exact hk2.1
                · cases hbb
            | succ q =>
              by_cases hq : q + 1 ∈ qs
              · have hGq := hG (q + 1)
                have hn0 : ¬ (q + 1, i') ∈ st := hstn _ hq
                have hn1 : ¬ (q + 1, i') ∈ st' := fun hx => hn0 ((hst' _).1 hx)
                simp only [viewV] at hb
                cases hsl : slO (q + 1) cs 1 (l.getD i' (dfl (rowsTy cs))) with
                | none => rw [hsl] at hb; cases hb
                | some ty =>
                  obtain ⟨t, y⟩ := ty
                  rw [hsl] at hb
                  simp only [if_neg hn1, Option.some.injEq] at hb
                  subst hb
                  have hb0 : rdv s.heap (.o k' i' (q + 1)) = some { ct := .sl t y, gen := gs.getD (q + 1) 0, frozen := false } := by
                    rw [rk0, if_pos hil]
                    simp only [viewV, hsl, if_neg hn0]
                  obtain ⟨p1, hp1, hk1, hf1⟩ := h.blk _ _ hb0
                  refine ⟨{ p1 with gen := gs'.getD (q + 1) 0 }, by rw [L4 _ _ hq hii, hp1]; rfl, ?_, fun hz hv => hf1 hz hv⟩
                  have := hmono hr _ p1 _ (by simp) hp1 hk1
                  exact ⟨rfl, this.2⟩
              · have hb0 : rdv s.heap (.o k' i' (q + 1)) = some b := by
                  rw [rk0, if_pos hil]
                  simp only [viewV] at hb ⊢
                  have hGq := hG (q + 1)
                  rw [if_neg hq] at hGq
                  rw [hGq] at hb
                  simp only [hst'] at hb
                  exact hb
                obtain ⟨p1, hp1, hk1, hf1⟩ := h.blk _ b hb0
                exact ⟨p1, by rw [L5 _ _ _ (fun hx => hq hx.2)]; exact hp1, hmono hr _ p1 b (by simp) hp1 hk1, hf1⟩
        · cases hb
      · rw [ro k' i' q hkk] at hb
        obtain ⟨p1, hp1, hk1, hf1⟩ := h.blk _ b hb
        exact ⟨p1, by rw [L5 _ _ _ (fun hx => hkk hx.1)]; exact hp1, hmono hr _ p1 b (fun e => by injection e with e; exact hkk e) hp1 hk1, hf1⟩
  · -- places
    cases r with
    | l id =>
      by_cases hk : id = k
      · subst hk; exact ⟨_, rdv_l.2 r2⟩
      · by_cases hid : id ∈ srcIds us
        · obtain ⟨q, i0, t, g, hm⟩ := hlocE id hid
          exact ⟨_, rgone q id i0 t g hm⟩
        · rw [L1 id hid] at hp
          rw [rl id hk hid]
          exact h.dom _ p hp
    | o k' i' q =>
      by_cases hkk : k' = k
      · subst hkk
        rw [rk]
        by_cases hq : q ∈ qs
        · have hq1 := hge q hq
          obtain ⟨q, rfl⟩ := Nat.exists_eq_add_of_le' hq1
          by_cases hii : i' = i
          · subst hii
            rw [if_pos hlt, getD_sets hlt]
            obtain ⟨src, hm⟩ := hmem _ hq
            obtain ⟨t, l0, l', v, hs0, hs1, ht, hnpq⟩ := hU _ src hm
            simp only [viewV, hs1]
            exact ⟨_, rfl⟩
          · rw [L4 i' _ hq hii] at hp
            obtain ⟨p0, hp0, _⟩ := Option.map_eq_some_iff.1 hp
            obtain ⟨t, y, hil, hsl, _⟩ := hold i' _ p0 hq hp0
            rw [if_pos hil, getD_setn (Ne.symm hii)]
            simp only [viewV, hsl]
            exact ⟨_, rfl⟩
        · rw [L5 _ _ _ (fun hx => hq hx.2)] at hp
          obtain ⟨b, hb⟩ := h.dom _ p hp
          rw [rk0] at hb
          split at hb
          · rename_i hil
            rw [if_pos hil]
            cases q with
            | zero => exact ⟨_, rfl⟩
            | succ q =>
              by_cases hii : i' = i
              · subst hii
                rw [getD_sets hlt]
                have hsl : slO (q + 1) cs 1 x' = slO (q + 1) cs 1 (l.getD i' (dfl (rowsTy cs))) := hput.other fun p hp e => hq (by rw [← e]; exact hmem' p.1 p.2 hp)
                simp only [viewV] at hb ⊢
                rw [hsl]
                split at hb
                · exact ⟨_, rfl⟩
                · cases hb
              · rw [getD_setn (Ne.symm hii)]
                simp only [viewV] at hb ⊢
                split at hb
                · exact ⟨_, rfl⟩
                · cases hb
          · cases hb
      · rw [ro k' i' q hkk]
        rw [L5 _ _ _ (fun hx => hkk hx.1)] at hp
        exact h.dom _ p hp
  · obtain ⟨r0, p0, hp0, hv0, hb0, _⟩ := hO r p hp hv
    rw [hb0]
    exact ⟨by rw [hs]; exact (h.own _ p0 hp0 hv0).2, .inr ⟨r0, p0, hp0, hv0, rfl⟩⟩
  · obtain ⟨r0, p0, hp0, hv0, hb0, h0⟩ := hO r p hp hv
    obtain ⟨r1, p1, hp1, hv1, hb1', h1⟩ := hO r' p' hp' hv'
    have e := h.inj r0 r1 p0 p1 hp0 hp1 hv0 hv1 (by rw [← hb0, ← hb1', hbb])
    subst e
    rcases h0 with ⟨e0, n0⟩ | ⟨q, id, i0, t, g, e0, m0, f0⟩ <;> rcases h1 with ⟨e1, n1⟩ | ⟨q', id', i0', t', g', e1, m1, f1⟩
    · rw [e0, e1]
    · exact absurd (mem_srcIds m1) (n0 id' f1)
    · exact absurd (mem_srcIds m0) (n1 id f0)
    · rw [f0] at f1
      injection f1 with f1
      subst f1
      rw [e0, e1, srcIds_inj hnd m0 m1]

end
end Go.Eng
