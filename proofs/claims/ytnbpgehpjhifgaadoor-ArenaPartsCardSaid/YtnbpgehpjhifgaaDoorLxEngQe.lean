/-
  The abstract machine, part 16e: an object more.
-/
import Derived.Test.YtnbpgehpjhifgaaDoorLxEngQd
namespace Go.Eng

theorem slO_own {want : Nat} : ∀ {cs : List Cell} {q : Nat} {x : Val (rowsTy cs)} {r : (t : Ty) × List (Val t)}, slO want cs q x = some r → want ∈ ownQs cs q
  | [], _, _, _, h => by cases h
  | .d t :: r, q, x, _, h => by simp only [slO] at h; simp only [ownQs]; exact slO_own h
  | .sl t :: r, q, x, _, h => by
    simp only [slO] at h
    simp only [ownQs, List.mem_cons]
    split at h
    · rename_i hb; exact .inl (Nat.eq_of_beq_eq_true hb).symm
    · exact .inr (slO_own h)

theorem rowO_congr {k i : Nat} {st st' : Nat → Bool} {gs : List Nat} : ∀ {cs : List Cell} {q : Nat} {x : Val (rowsTy cs)}, (∀ p, p ∈ ownQs cs q → st p = st' p) → rowO k i st gs cs q x = rowO k i st' gs cs q x
  | [], _, _, _ => rfl
  | .d t :: r, q, x, h => by
    simp only [ownQs] at h
    simp only [rowO]
    rw [rowO_congr h]
  | .sl t :: r, q, x, h => by
    simp only [ownQs, List.mem_cons, forall_eq_or_imp] at h
    simp only [rowO]
    rw [h.1, rowO_congr h.2]

theorem dfl_rep (R : RC) : ∀ (t : Ty), t.zb = true → ∃ cs, RepT R t (dfl t) cs
  | .int _, _ | .bool, _ | .str, _ | .flt, _ | .unit, _ | .nat, _ => ⟨_, rfl⟩
  | .err, _ => ⟨_, _, rfl, rfl⟩
  | .hd _, _ => ⟨_, rfl⟩
  | .pair a b, h => by
    simp only [Ty.zb, Bool.and_eq_true] at h
    obtain ⟨c, hc⟩ := dfl_rep R a h.1
    obtain ⟨d, hd⟩ := dfl_rep R b h.2
    exact ⟨c ++ d, c, d, rfl, hc, hd⟩
  | .st a, h => by
    simp only [Ty.zb] at h
    exact dfl_rep R a h
  | .sl a, _ => ⟨[.slice none 0 0], none, 0, rfl, Nat.le_refl _, fun h => absurd rfl h, fun _ => rfl⟩
  | .ref _, h => by cases h
  | .clo _ _, h => by cases h

theorem dfl_row (R : RC) (L : Ref → Option Pl) (k i : Nat) (gs : List Nat) : ∀ (cs : List Cell) (q : Nat), cs.all Cell.zb = true → ∃ ys, RepL R L (rowO k i (fun _ => true) gs cs q (dfl (rowsTy cs))) ys
  | [], _, _ => ⟨[], by simp [rowO, RepL]⟩
  | .d t :: r, q, h => by
    simp only [List.all_cons, Bool.and_eq_true, Cell.zb] at h
    obtain ⟨c, hc⟩ := dfl_rep R t h.1
    obtain ⟨d, hd⟩ := dfl_row R L k i gs r q h.2
    exact ⟨c ++ d, (RepL.ofT t hc).append hd⟩
  | .sl t :: r, q, h => by
    simp only [List.all_cons, Bool.and_eq_true] at h
    obtain ⟨d, hd⟩ := dfl_row R L k i gs r (q + 1) h.2
    refine ⟨undef :: d, ?_⟩
    simp only [rowO, RepL]
    exact ⟨_, _, rfl, by simp [Rep], hd⟩

section
variable {c : Ctx} {I : Nat → Prop} {L : Ref → Option Pl} {s : St} {a : Act} {w : World} {call : CallF}

theorem Sim.objNew (h : Sim c I L s a w) {s0 : St} {k : Nat} {tb : Blk} {cs : List Cell} {l : List (Val (rowsTy cs))} {gs : List Nat} (htb : s.heap[k]? = some (some tb)) (htct : tb.ct = .tab cs l [] gs)
    {x x' : Val (rowsTy cs)} {us : List (Nat × Src)} {zs : List Value} (hput : RowPut (c.rc I L w) L s0 k l.length (fun _ => true) gs cs 1 x x' us zs) (hall : ∀ q, q ∈ ownQs cs 1 → q ∈ us.map (·.1))
    (hrd : ∀ q src r, (q, src) ∈ us → src.ref k l.length q = some r → s.rd r = s0.rd r) (hnd : nodupN (srcIds us) = true)
    {w' : World} {T : TypeId} (hheap : w'.heap = w.heap.push (.cells zs.toArray T (0, 0))) (hio : IO w w') :
    ∃ L', Sim c I L' ⟨s.env, putAll s.heap (goneA us ++ [(.l k, { tb with ct := .tab cs (l ++ [x']) [] gs })])⟩ a w' ∧ L' (.o k l.length 0) = some ⟨w.heap.size, 0, 0, 0, 0, false⟩ := by
  obtain ⟨n, hn⟩ : ∃ n, n = l.length := ⟨_, rfl⟩
  rw [← hn] at hput hrd ⊢
  obtain ⟨qs, hqs⟩ : ∃ qs, qs = us.map (·.1) := ⟨_, rfl⟩
  have hqnd : qs.Nodup := by rw [hqs]; exact hput.nodup
  rw [← hqs] at hall
  have hge : ∀ q, q ∈ qs → 1 ≤ q := fun q hq => by
    rw [hqs] at hq
    obtain ⟨p, hp, rfl⟩ := List.mem_map.1 hq
    exact hput.ge p hp
  have hmem : ∀ q, q ∈ qs → ∃ src, (q, src) ∈ us := fun q hq => by
    rw [hqs] at hq
    obtain ⟨p, hp, rfl⟩ := List.mem_map.1 hq
    exact ⟨p.2, hp⟩
  have hmem' : ∀ q src, (q, src) ∈ us → q ∈ qs := fun q src hm => by
    rw [hqs]
    exact List.mem_map.2 ⟨_, hm, rfl⟩
  obtain ⟨np, hnp⟩ : ∃ np : Nat → Pl, ∀ q src (t : Ty) (l' : List (Val t)), (q, src) ∈ us → slO q cs 1 x' = some ⟨t, l'⟩ → np q = newPl L k n q t (gs.getD q 0) src := by
    have this : ∀ q, ∃ p : Pl, ∀ src (t : Ty) (l' : List (Val t)), (q, src) ∈ us → slO q cs 1 x' = some ⟨t, l'⟩ → p = newPl L k n q t (gs.getD q 0) src := by
      intro q
      by_cases hq : ∃ (src : Src) (t : Ty) (l' : List (Val t)), (q, src) ∈ us ∧ slO q cs 1 x' = some ⟨t, l'⟩
      · obtain ⟨src, t, l', hm, hsl⟩ := hq
        refine ⟨newPl L k n q t (gs.getD q 0) src, fun src2 t2 l2 hm2 hsl2 => ?_⟩
        have e1 : src = src2 := nodup_fst (by rw [← hqs]; exact hqnd) hm hm2
        rw [hsl] at hsl2
        injection hsl2 with hsl2
        injection hsl2 with e2 _
        rw [e1, e2]
      · exact ⟨⟨0, 0, 0, 0, 0, true⟩, fun src t l' hm hsl => absurd ⟨src, t, l', hm, hsl⟩ hq⟩
    exact ⟨fun q => (this q).choose, fun q => (this q).choose_spec⟩
  have hU : ∀ q src, (q, src) ∈ us → ∃ (t : Ty) (l' : List (Val t)) (v : Value), slO q cs 1 x' = some ⟨t, l'⟩ ∧ Taken L s0 k n q t l' src v ∧ np q = newPl L k n q t (gs.getD q 0) src := by
    intro q src hm
    obtain ⟨t, l0, l', v, g1, g2, g3⟩ := hput.mem q src hm
    exact ⟨t, l', v, g2, g3, hnp q src t l' hm g2⟩
  have hOK : ∀ q src, (q, src) ∈ us → ∀ (t : Ty) (l' : List (Val t)) (v : Value), Taken L s0 k n q t l' src v → _ := fun q src hm t l' v ht => newPl_ok (G := gs.getD q 0) h ht (fun r hr => hrd q src r hm hr)
  have hloc : ∀ q id i0 t g, (q, Src.loc id i0 t g) ∈ us → ∃ p b l0, L (.l id) = some p ∧ s.heap[id]? = some (some b) ∧ b.ct = .sl t l0 ∧ b.gen = p.gen ∧ g = b.gen ∧ p.w = t.size := by
    intro q id i0 t g hm
    obtain ⟨t1, l', v, _, ht, _⟩ := hU q _ hm
    obtain ⟨ad, cap, _, _, _, ht⟩ := ht
    simp only [Src.ref] at ht
    obtain ⟨p, b, l1, hp, hb, hz, hbg, hct, hsrc, _⟩ := ht
    obtain ⟨e1, e2⟩ := hsrc id i0 t g rfl
    subst e1
    have hb' : s.rd (.l id) = some b := by rw [hrd q _ (.l id) hm rfl]; exact hb
    obtain ⟨⟨_, hk⟩, _⟩ := h.get hp hb'
    rw [hct] at hk
    refine ⟨p, b, l1, hp, rdv_l.1 (show rdv s.heap (.l id) = some b from hb'), hct, hbg, e2, ?_⟩
    rcases hk with ⟨_, _, h1⟩ | ⟨_, h1, _⟩
    · exact h1
    · exact h1
  have hlocE : ∀ id, id ∈ srcIds us → ∃ q i0 t g, (q, Src.loc id i0 t g) ∈ us := fun id hid => srcIds_mem hid
  have hknot : k ∉ srcIds us := by
    intro hk
    obtain ⟨q, i0, t, g, hm⟩ := hlocE k hk
    obtain ⟨p, b, l0, _, hb, hct, _⟩ := hloc q k i0 t g hm
    rw [htb] at hb
    injection hb with hb
    injection hb with hb
    subst hb
    rw [htct] at hct
    cases hct
  obtain ⟨g1, g2, g3, g4⟩ := goneA_sound (u := us) (h := s.heap) hnd (fun id hid => by
    obtain ⟨q, i0, t, g, hm⟩ := hlocE id hid
    obtain ⟨p, b, l0, _, hb, _⟩ := hloc q id i0 t g hm
    exact (List.getElem?_eq_some_iff.1 hb).1) (fun id b hid hb => by
    obtain ⟨q, i0, t, g, hm⟩ := hlocE id hid
    obtain ⟨p, b2, l0, _, hb2, hct, _⟩ := hloc q id i0 t g hm
    rw [hb2] at hb
    injection hb with hb
    injection hb with hb
    subst hb
    simp [Blk.isTab, hct])
  have hkl : k < s.heap.length := (List.getElem?_eq_some_iff.1 htb).1
  obtain ⟨hp', hhp'⟩ : ∃ hp', hp' = putAll s.heap (goneA us ++ [(.l k, { tb with ct := .tab cs (l ++ [x']) [] gs })]) := ⟨_, rfl⟩
  rw [← hhp']
  have hset : hp' = (putAll s.heap (goneA us)).set k (some { tb with ct := .tab cs (l ++ [x']) [] gs }) := by
    rw [hhp', putAll_append]
    simp only [putAll, putH]
  have r2 : hp'[k]? = some (some { tb with ct := .tab cs (l ++ [x']) [] gs }) := by rw [hset, List.getElem?_set_self (by rw [g1]; exact hkl)]
  have rgone : ∀ q id i0 t g, (q, Src.loc id i0 t g) ∈ us → rdv hp' (.l id) = some { ct := .sl t [], gen := g + 1, frozen := false } := by
    intro q id i0 t g hm
    have hne : k ≠ id := fun e => hknot (by rw [e]; exact mem_srcIds hm)
    rw [rdv_l, hset, List.getElem?_set_ne hne]
    exact rdv_l.1 (g4 q id i0 t g hm)
  have rl : ∀ id, id ≠ k → id ∉ srcIds us → rdv hp' (.l id) = rdv s.heap (.l id) := by
    intro id hne hn
    simp only [rdv, hset, List.getElem?_set_ne (Ne.symm hne)]
    rw [g3 id hn]
  have ro : ∀ k' i' q, k' ≠ k → rdv hp' (.o k' i' q) = rdv s.heap (.o k' i' q) := by
    intro k' i' q hne
    have : rdv hp' (.o k' i' q) = rdv (putAll s.heap (goneA us)) (.o k' i' q) := by
      simp only [rdv, hset, List.getElem?_set_ne (Ne.symm hne)]
    rw [this, g2 _ (fun id _ e => by cases e)]
  have rn : ∀ q, rdv hp' (.o k n q) = viewV k n cs x' [] gs q := by
    intro q
    simp only [rdv, r2]
    rw [if_pos (by simp [hn])]
    congr 1
    rw [hn, List.getD_eq_getElem?_getD, List.getElem?_append_right (Nat.le_refl _), Nat.sub_self]
    rfl
  have rk : ∀ i' q, i' ≠ n → rdv hp' (.o k i' q) = rdv s.heap (.o k i' q) := by
    intro i' q hne
    simp only [rdv, r2, htb, htct, List.length_append, List.length_singleton]
    by_cases hi : i' < l.length
    · rw [if_pos (by omega), if_pos hi]
      congr 1
      rw [List.getD_eq_getElem?_getD, List.getElem?_append_left hi, ← List.getD_eq_getElem?_getD]
    · rw [if_neg (by omega), if_neg hi]
  have Ln : ∀ q, L (.o k n q) = none := by
    intro q
    cases hl : L (.o k n q) with
    | none => rfl
    | some p =>
      obtain ⟨b, hb⟩ := h.dom _ p hl
      simp only [rdv, htb, htct] at hb
      rw [if_neg (by omega)] at hb
      cases hb
  let L' : Ref → Option Pl := fun r => match r with
    | .l id => if id ∈ srcIds us then (L (.l id)).map fun p => { p with gen := p.gen + 1, virt := true } else L (.l id)
    | .o k' i' q => if k' = k ∧ i' = n then (if q = 0 then some ⟨w.heap.size, 0, 0, 0, 0, false⟩ else if q ∈ qs then some (np q) else none) else L (.o k' i' q)
  have L1 : ∀ id, id ∉ srcIds us → L' (.l id) = L (.l id) := fun id hn => if_neg hn
  have L2 : ∀ id, id ∈ srcIds us → L' (.l id) = (L (.l id)).map fun p => { p with gen := p.gen + 1, virt := true } := fun id hn => if_pos hn
  have L0 : L' (.o k n 0) = some ⟨w.heap.size, 0, 0, 0, 0, false⟩ := by show (if k = k ∧ n = n then _ else _) = _; rw [if_pos ⟨rfl, rfl⟩, if_pos rfl]
  have L3 : ∀ q, q ∈ qs → L' (.o k n q) = some (np q) := fun q hq => by
    have := hge q hq
    show (if k = k ∧ n = n then _ else _) = _
    rw [if_pos ⟨rfl, rfl⟩, if_neg (by omega), if_pos hq]
  have L4 : ∀ q, q ∉ qs → q ≠ 0 → L' (.o k n q) = none := fun q hq h0 => by
    show (if k = k ∧ n = n then _ else _) = _
    rw [if_pos ⟨rfl, rfl⟩, if_neg h0, if_neg hq]
  have L5 : ∀ k' i' q, ¬ (k' = k ∧ i' = n) → L' (.o k' i' q) = L (.o k' i' q) := fun k' i' q hn => if_neg hn
  have hl : LLe L L' := by
    intro r p hp
    cases r with
    | l id =>
      by_cases hid : id ∈ srcIds us
      · exact ⟨{ p with gen := p.gen + 1, virt := true }, by rw [L2 id hid, hp]; rfl, rfl, .inr ⟨Nat.lt_succ_self _, fun hb => hb⟩⟩
      · exact ⟨p, by rw [L1 id hid]; exact hp, rfl, .inl rfl⟩
    | o k' i' q =>
      by_cases hkn : k' = k ∧ i' = n
      · obtain ⟨rfl, rfl⟩ := hkn
        rw [Ln] at hp
        cases hp
      · exact ⟨p, by rw [L5 k' i' q hkn]; exact hp, rfl, .inl rfl⟩
  have hO : ∀ r p, L' r = some p → p.virt = false → (r = .o k n 0 ∧ p = ⟨w.heap.size, 0, 0, 0, 0, false⟩) ∨ ∃ r0 p0, L r0 = some p0 ∧ p0.virt = false ∧ p.b = p0.b ∧
      ((r = r0 ∧ ∀ id, r0 = .l id → id ∉ srcIds us) ∨ ∃ q id i0 t g, r = .o k n q ∧ (q, Src.loc id i0 t g) ∈ us ∧ r0 = .l id) := by
    intro r p hp hv
    cases r with
    | l id =>
      right
      by_cases hid : id ∈ srcIds us
      · rw [L2 id hid] at hp
        obtain ⟨p0, _, rfl⟩ := Option.map_eq_some_iff.1 hp
        cases hv
      · rw [L1 id hid] at hp
        exact ⟨_, p, hp, hv, rfl, .inl ⟨rfl, fun id' e => by injection e with e; rw [← e]; exact hid⟩⟩
    | o k' i' q =>
      by_cases hkn : k' = k ∧ i' = n
      · obtain ⟨rfl, rfl⟩ := hkn
        by_cases h0 : q = 0
        · subst h0
          rw [L0] at hp
          injection hp with hp
          exact .inl ⟨rfl, hp.symm⟩
        · right
          by_cases hq : q ∈ qs
          · rw [L3 q hq] at hp
            injection hp with hp
            subst hp
            obtain ⟨src, hm⟩ := hmem q hq
            obtain ⟨t2, l', v, hs1, ht, hnpq⟩ := hU q src hm
            obtain ⟨_, _, _, _, k5⟩ := hOK q src hm t2 l' v ht
            rw [hnpq] at hv ⊢
            obtain ⟨r, p0, hr, hp0, hpv, hpb0, _⟩ := k5 hv
            cases src with
            | nil => cases hr
            | own i0 =>
              simp only [Src.ref, Option.some.injEq] at hr
              subst hr
              exact ⟨_, p0, hp0, hpv, hpb0, .inl ⟨rfl, fun id e => by cases e⟩⟩
            | loc id i0 t g =>
              simp only [Src.ref, Option.some.injEq] at hr
              subst hr
              exact ⟨_, p0, hp0, hpv, hpb0, .inr ⟨q, id, i0, t, g, rfl, hm, rfl⟩⟩
          · rw [L4 q hq h0] at hp
            cases hp
      · right
        rw [L5 k' i' q hkn] at hp
        exact ⟨_, p, hp, hv, rfl, .inl ⟨rfl, fun id e => by cases e⟩⟩
  have hold : ∀ b, b < w.heap.size → w'.heap[b]? = w.heap[b]? := fun b hb => heap_push_old hheap b hb
  have hmono : RLe (c.rc I L w) (c.rc I L' w') → ∀ r p b, L r = some p → BlkOK (c.rc I L w) L w p b → BlkOK (c.rc I L' w') L' w' p b := by
    intro hr r p b hp hk
    exact hk.mono hr hl (fun hv => hold _ (h.own r p hp hv).2) (fun hv o => cell?_heap _ _ (hold _ (h.own r p hp hv).2))
  refine ⟨L', h.turn hl (by rw [hheap]; simp) hio (fun b hb _ => hold b hb) (fun hr r b hb => ?_) (fun r p hp => ?_) (fun r p hp hv => ?_) (fun r r' p p' hp hp' hv hv' hbb => ?_), L0⟩
  · cases r with
    | l id =>
      by_cases hk : id = k
      · subst hk
        rw [rdv_l.2 r2] at hb
        injection hb with hb
        subst hb
        obtain ⟨p1, hp1, hk1, hf1⟩ := h.blk (.l id) tb (rdv_l.2 htb)
        refine ⟨p1, by rw [L1 id hknot]; exact hp1, ?_, hf1⟩
        unfold BlkOK at hk1 ⊢
        rw [htct] at hk1
        exact hk1
      · by_cases hid : id ∈ srcIds us
        · obtain ⟨q, i0, t, g, hm⟩ := hlocE id hid
          obtain ⟨p, b0, l0, hp, _, _, hbg, hg, hpw⟩ := hloc q id i0 t g hm
          rw [rgone q id i0 t g hm] at hb
          injection hb with hb
          subst hb
          refine ⟨{ p with gen := p.gen + 1, virt := true }, by rw [L2 id hid, hp]; rfl, ⟨?_, .inl ⟨rfl, rfl, hpw⟩⟩, fun _ hv => by cases hv⟩
          show p.gen + 1 = g + 1
          rw [hg, hbg]
        · rw [rl id hk hid] at hb
          obtain ⟨p1, hp1, hk1, hf1⟩ := h.blk _ b hb
          exact ⟨p1, by rw [L1 id hid]; exact hp1, hmono hr _ p1 b hp1 hk1, hf1⟩
    | o k' i' q =>
      by_cases hkk : k' = k
      · subst hkk
        by_cases hii : i' = n
        · subst hii
          rw [rn] at hb
          cases q with
          | zero =>
            simp only [viewV, Option.some.injEq] at hb
            subst hb
            refine ⟨_, L0, ⟨rfl, rfl, rfl, _, T, heap_push_new hheap, ?_⟩, fun _ _ hI => ?_⟩
            · have hrow := hput.row (st' := fun q => decide (q ∉ qs)) hr hl (U := us) (CS := cs) (X := x') (gs' := gs) (fun q hq => ⟨?_, rfl⟩) (fun q src t l' v hm hsl ht => ⟨?_, ?_⟩) (fun p hp => hp) (fun p hp _ => hp) (fun _ _ => rfl)
              · rw [rowO_congr (st' := fun q => decide (q ∉ qs))]
                · exact hrow
                · intro q hq
                  have := hall q hq
                  simp [this]
              · have hqn : q ∉ qs := fun hm => by
                  obtain ⟨src, hm⟩ := hmem q hm
                  exact hq _ hm rfl
                simp [hqn]
              · have := hmem' q src hm
                simp [this]
              · obtain ⟨_, _, _, k4, _⟩ := hOK q src hm t l' v ht
                refine k4 _ _ ?_
                rw [L3 q (hmem' q src hm), hnp q src t l' hm hsl]
            · have := h.imm _ hI
              simp only at this
              omega
          | succ q =>
            simp only [viewV] at hb
            cases hsl : slO (q + 1) cs 1 x' with
            | none => rw [hsl] at hb; cases hb
            | some ty =>
              obtain ⟨t, y⟩ := ty
              rw [hsl] at hb
              simp only [List.not_mem_nil, if_false, Option.some.injEq] at hb
              subst hb
              have hq := hall _ (slO_own hsl)
              obtain ⟨src, hm⟩ := hmem _ hq
              obtain ⟨t2, l', v, hs1, ht, hnpq⟩ := hU _ src hm
              rw [hsl] at hs1
              simp only [Option.some.injEq, Sigma.mk.injEq] at hs1
              obtain ⟨rfl, hs1⟩ := hs1
              have hs1 := eq_of_heq hs1
              subst hs1
              obtain ⟨k1, k2, k3, k4, k5⟩ := hOK _ src hm t y v ht
              refine ⟨np (q + 1), L3 _ hq, ?_, fun _ hv => ?_⟩
              · rw [hnpq]
                refine k3.mono hr hl (fun hv => ?_) (fun hv o => ?_)
                · obtain ⟨r, p0, hr0, hp0, hpv, hpb0, _⟩ := k5 hv
                  rw [hpb0]
                  exact hold _ (h.own r p0 hp0 hpv).2
                · obtain ⟨r, p0, hr0, hp0, hpv, hpb0, _⟩ := k5 hv
                  refine cell?_heap _ _ ?_
                  rw [hpb0]
                  exact hold _ (h.own r p0 hp0 hpv).2
              · rw [hnpq] at hv ⊢
                obtain ⟨r, p0, hr0, hp0, hpv, hpb0, hnI⟩ := k5 hv
                rw [hpb0]
                exact hnI
        · rw [rk i' q hii] at hb
          obtain ⟨p1, hp1, hk1, hf1⟩ := h.blk _ b hb
          exact ⟨p1, by rw [L5 _ _ _ (fun hx => hii hx.2)]; exact hp1, hmono hr _ p1 b hp1 hk1, hf1⟩
      · rw [ro k' i' q hkk] at hb
        obtain ⟨p1, hp1, hk1, hf1⟩ := h.blk _ b hb
        exact ⟨p1, by rw [L5 _ _ _ (fun hx => hkk hx.1)]; exact hp1, hmono hr _ p1 b hp1 hk1, hf1⟩
  · cases r with
    | l id =>
      by_cases hk : id = k
      · subst hk; exact ⟨_, rdv_l.2 r2⟩
      · by_cases hid : id ∈ srcIds us
        · obtain ⟨q, i0, t, g, hm⟩ := hlocE id hid
          exact ⟨_, rgone q id i0 t g hm⟩
        · rw [L1 id hid] at hp
          rw [rl id hk hid]
          exact h.dom _ p hp
    | o k' i' q =>
      by_cases hkk : k' = k
      · subst hkk
        by_cases hii : i' = n
        · subst hii
          rw [rn]
          by_cases h0 : q = 0
          · subst h0; exact ⟨_, rfl⟩
          · by_cases hq : q ∈ qs
            · obtain ⟨src, hm⟩ := hmem _ hq
              obtain ⟨t2, l', v, hs1, ht, hnpq⟩ := hU _ src hm
              obtain ⟨q, rfl⟩ := Nat.exists_eq_succ_of_ne_zero h0
              simp only [viewV, hs1]
              exact ⟨_, rfl⟩
            · rw [L4 q hq h0] at hp
              cases hp
        · rw [rk i' q hii]
          rw [L5 _ _ _ (fun hx => hii hx.2)] at hp
          exact h.dom _ p hp
      · rw [ro k' i' q hkk]
        rw [L5 _ _ _ (fun hx => hkk hx.1)] at hp
        exact h.dom _ p hp
  · rcases hO r p hp hv with ⟨_, rfl⟩ | ⟨r0, p0, hp0, hv0, hb0, _⟩
    · exact ⟨by rw [hheap]; simp, .inl (Nat.le_refl _)⟩
    · rw [hb0]
      have := (h.own _ p0 hp0 hv0).2
      exact ⟨by rw [hheap]; simp; omega, .inr ⟨r0, p0, hp0, hv0, rfl⟩⟩
  · rcases hO r p hp hv with ⟨e, rfl⟩ | ⟨r0, p0, hp0, hv0, hb0, h0⟩ <;> rcases hO r' p' hp' hv' with ⟨e', rfl⟩ | ⟨r1, p1, hp1, hv1, hb1', h1⟩
    · rw [e, e']
    · have := (h.own _ p1 hp1 hv1).2
      simp only at hbb
      omega
    · have := (h.own _ p0 hp0 hv0).2
      simp only at hbb
      omega
    · have e := h.inj r0 r1 p0 p1 hp0 hp1 hv0 hv1 (by rw [← hb0, ← hb1', hbb])
      subst e
      rcases h0 with ⟨e0, n0⟩ | ⟨q, id, i0, t, g, e0, m0, f0⟩ <;> rcases h1 with ⟨e1, n1⟩ | ⟨q', id', i0', t', g', e1, m1, f1⟩
      · rw [e0, e1]
      · exact absurd (mem_srcIds m1) (n0 id' f1)
      · exact absurd (mem_srcIds m0) (n1 id f0)
      · rw [f0] at f1
        injection f1 with f1
        subst f1
        rw [e0, e1, srcIds_inj hnd m0 m1]

/-- the operation -/
theorem newOA_sound (h : Sim c I L s a w) {ti : TyI} {k : Nat} {cells : List AV} {vs : Array Value} {T : TypeId} {o : Oper} (hv : RepL (c.rc I L w) L cells vs.toList)
    (hx : (execOp a.eval o).run c.P w = .ok (.value (.pointer (some ⟨w.heap.size, 0, none⟩))) { w with heap := w.heap.push (.cells vs T) }) {δ : Dl} {rs : List Nat}
    (e : (newOA c.E ti k cells).run call s.rd = some (δ, rs)) : OpOK c s a w o δ := by
  unfold newOA at e
  obtain ⟨tb, l1, htb, e1, rfl⟩ := HM.run_rd e
  have htb' := rdv_l.1 (show rdv s.heap (.l k) = some tb from htb)
  split at e1
  rotate_left
  · cases e1
  rename_i cs l st gs htct
  split at e1
  rotate_left
  · cases e1
  rename_i hcond
  obtain ⟨hall, hsz⟩ := hcond
  obtain ⟨⟨x', f, u⟩, r1, r2, e2, e3, rfl⟩ := HM.run_bind e1
  obtain ⟨fz, r3, r4, e4, e5, rfl⟩ := HM.run_bind e3
  split at e5
  rotate_left
  · cases e5
  rename_i hc
  obtain ⟨hnd, hcf, hown, hzb, hst, hlen⟩ := hc
  obtain ⟨rfl, rfl⟩ := HM.run_ret e5
  have hst : st = [] := by simpa using hst
  subst hst
  have hvl := hv.length
  obtain ⟨ys, hys⟩ := dfl_row (c.rc I L w) L k l.length gs cs 1 hzb
  have hysl : ys.length = (rowsTy cs).size := by
    have h1 := hys.length
    have h2 : ∀ (cs : List Cell) (q : Nat) (x : Val (rowsTy cs)), (rowO k l.length (fun _ => true) gs cs q x).length = (rowsTy cs).size := by
      intro cs
      induction cs with
      | nil => intro q x; rfl
      | cons cell r ih =>
        intro q x
        cases cell with
        | d t => simp only [rowO, List.length_append, cellsT_length, ih, rowsTy, Ty.size]
        | sl t => simp only [rowO, List.length_cons, ih, rowsTy, Ty.size]; omega
    rw [h1, h2]
  obtain ⟨told, hbound, hput⟩ := storeO_sound h e2 hv hys
  have hput := hput (heldBy I L f) (fun b hb => .inl hb) (fun id hid p hp hv => .inr ⟨id, p, hid, hp, hv, rfl⟩)
  have hF := h.freezeAll e4 told
  obtain ⟨f1, f2, f3, f4, f5⟩ := told.freeze e4
  have hknf : Ref.l k ∉ f := fun hm => by
    have := told.notab hm htb'
    simp [Blk.isTab, htct] at this
  have hzs : ovl ys 0 vs.toList = vs.toList := by
    apply List.ext_getElem?
    intro m
    rw [ovl_get]
    by_cases hm : m < vs.toList.length
    · rw [if_pos ⟨Nat.zero_le _, by omega, by omega⟩, Nat.sub_zero]
    · rw [if_neg (by omega), List.getElem?_eq_none (by omega), List.getElem?_eq_none (by omega)]
  rw [hzs] at hput
  have hS := hF.objNew (s0 := s) (k := k) (tb := tb) (T := T) (w' := { w with heap := w.heap.push (.cells vs T) }) (show (putAll s.heap fz)[k]? = _ by rw [f5 k hknf]; exact htb') htct hput (fun q hq => ?_) (fun q src r hm hr => ?_) hnd rfl ⟨rfl, rfl, rfl⟩
  · obtain ⟨L', hS, hL'⟩ := hS
    refine OpOK.both hx (I' := heldBy I L f) (L' := L') ?_ ?_
    · rw [List.append_assoc, putAll_append]
      exact hS
    · simp only [Rep]
      exact ⟨w.heap.size, by simp [Ctx.rc, rcW, hOf, hL'], rfl⟩
  · simp only [List.all_eq_true] at hown
    have := hown q hq
    obtain ⟨y, hy, hb⟩ := List.any_eq_true.1 this
    rw [Nat.eq_of_beq_eq_true hb]
    exact hy
  · show rdH (putAll s.heap fz) r = rdH s.heap r
    refine (f2 r fun hm2 => ?_).2
    cases src with
    | nil => cases hr
    | own i0 =>
      simp only [Src.ref, Option.some.injEq] at hr
      subst hr
      obtain ⟨_, _, e0, _⟩ := f3 _ hm2
      cases e0
    | loc id i0 t g =>
      simp only [Src.ref, Option.some.injEq] at hr
      subst hr
      simp only [List.all_eq_true] at hcf
      have := hcf id (mem_srcIds hm)
      simp [hm2] at this

theorem op_allocObj (h : Sim c I L s a w) (hE : EnvOK c.P c.E) {t : TypeId} {o : Oper} (ho : o.op = .alloc t) {k : Nat} {cs : List Cell} (hkd : c.E.kind t = some (k, cs)) {newId : Nat} {δ : Dl} {rs : List Nat}
    (e : (aop c.E (aeval s.env) newId o.op).run call s.rd = some (δ, rs)) : OpOK c s a w o δ := by
  rw [ho] at e
  simp only [aop, hkd] at e
  split at e
  · rename_i ti hty
    obtain ⟨d, i, z, hT⟩ := hE.ty _ ti hty
    refine newOA_sound h (vs := z.cells) (T := t) (hT.zeroL _ _) ?_ e
    simp only [execOp, ho]
    simp [Instr.alloc, hT.run_zero, newVar, newRow]
  · cases e

theorem op_boxObj (h : Sim c I L s a w) {t : TypeId} {x : Operand} {o : Oper} (ho : o.op = .box t x) {k : Nat} {cs : List Cell} (hkd : c.E.kind t = some (k, cs)) {newId : Nat} {δ : Dl} {rs : List Nat}
    (e : (aop c.E (aeval s.env) newId o.op).run call s.rd = some (δ, rs)) : OpOK c s a w o δ := by
  rw [ho] at e
  simp only [aop, hkd] at e
  have hx := h.eval x
  split at e
  · rename_i ti cs hty hcs
    split at e
    · refine newOA_sound h (vs := (a.eval x).cells) (T := t) (cells_sound hcs hx) ?_ e
      simp only [execOp, ho]
      simp [Instr.box, newVar, newRow]
    · cases e
  · cases e

end
end Go.Eng
