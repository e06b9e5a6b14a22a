/-
  The abstract machine, part 23a: what is taken over.
-/
import Derived.Test.YtnbpgehpjhifgaaDoorLxEngX
namespace Go.Eng

def Shows0 (R : RC) (b0 : Nat) (env : List AV) (vs : List Value) (pls : List Pl) : Prop :=
  ∀ (L' : Ref → Option Pl), Agree L' b0 pls → RepL R L' env vs

def Shows (R : RC) (L : Ref → Option Pl) (b0 : Nat) (env : List AV) (vs : List Value) (pls : List Pl) : Prop :=
  ∀ (L' : Ref → Option Pl), Agree L' b0 pls → Fresh L L' → RepL R L' env vs

section
variable {c : Ctx} {I I' : Nat → Prop} {L : Ref → Option Pl} {s : St} {a : Act} {w : World} {call : CallF}

theorem takeSl_kept (h : Sim c I L s a w) (hi : ∀ b, I b → I' b) {t : Ty} {u u' : List Nat} {y : AV} {z : Value} {l0 : List (Val t)} {rs : List Nat} (et : (takeSl t u y).run call s.rd = some ((l0, u'), rs)) (hz : Rep (c.rc I' L w) L y z) (b0 : Nat) :
    ∃ o q, Kept (c.rc I' L w) L I w b0 u u' [some { ct := .sl t l0, gen := 0, frozen := false }] [o] [q] ∧ ∀ L', L' (.l b0) = some q → Rep (c.rc I' L w) L' (.lsl t (.l b0) 0 l0.length 0) z := by
  unfold takeSl at et
  split at et
  · obtain ⟨h0, rfl⟩ := HM.run_ret et
    simp only [Prod.mk.injEq] at h0
    obtain ⟨rfl, rfl⟩ := h0
    refine ⟨none, ⟨0, 0, t.size, 0, 0, true⟩, Kept.nil.consV rfl rfl rfl (fun L' => ⟨rfl, .inl ⟨rfl, rfl, rfl⟩⟩), fun L' hp => ?_⟩
    simp only [Rep] at hz ⊢
    exact ⟨_, hp, rfl, Nat.le_refl _, none, 0, by simpa using hz, by simp, fun hne => absurd rfl hne, fun _ => .inl rfl⟩
  · rename_i t0 id i n g
    split at et
    · cases et
    · rename_i hu
      have hu : id ∉ u := by
        intro hm
        have : u.contains id = true := by simpa using hm
        rw [this] at hu
        cases hu
      obtain ⟨b, l', hb, et1, rfl⟩ := HM.run_rd et
      split at et1
      · rename_i hc
        obtain ⟨hg, hf, rfl⟩ := hc
        split at et1
        · rename_i t' l hct
          split at et1
          · rename_i htt
            subst htt
            obtain ⟨hn, et2⟩ := HM.run_chk et1
            have hn := of_decide_eq_true hn
            obtain ⟨h0, rfl⟩ := HM.run_ret et2
            simp only [Prod.mk.injEq] at h0
            obtain ⟨h0, rfl⟩ := h0
            have h0 : l = l0 := h0.symm
            subst h0
            obtain ⟨p, hp, hk, hfr⟩ := h.blk (.l _) b hb
            have hk' := hk.mono (R' := c.rc I' L w) (L' := L) (rle_of_heap hi (fun _ _ => rfl) (LLe.refl L)) (LLe.refl L) (w' := w) (fun _ => rfl) (fun _ _ => rfl)
            simp only [Rep] at hz
            obtain ⟨p', hp', hpw, hge, ad, cap, hv, hcap, hsome, hcur⟩ := hz
            rw [hp] at hp'
            injection hp' with hp'
            subst hp'
            have hpg : p.gen = g := by rw [hk.1, hg]
            by_cases hvirt : p.virt = true ∨ cap = 0 ∧ l = []
            · have hl0 : l = [] ∧ cap = 0 := by
                rcases hvirt with hvt | ⟨h0, h1⟩
                · obtain ⟨_, hk⟩ := hk
                  rw [hct] at hk
                  rcases hk with ⟨_, h0, _⟩ | ⟨h0, _⟩
                  · refine ⟨h0, ?_⟩
                    rcases hcur hpg with hc | ⟨hc, _⟩
                    · exact hc
                    · rw [hvt] at hc; cases hc
                  · rw [hvt] at h0; cases h0
                · exact ⟨h1, h0⟩
              obtain ⟨rfl, rfl⟩ := hl0
              refine ⟨some id, { p with gen := 0, w := t'.size, virt := p.virt }, ?_, ?_⟩
              · refine Kept.cons (p := p) Kept.nil hu hp ⟨rfl, rfl⟩ (fun hv => hfr hf hv) rfl rfl fun L' _ => ⟨rfl, ?_⟩
                cases hv' : p.virt with
                | true => exact .inl ⟨rfl, rfl, rfl⟩
                | false =>
                  obtain ⟨_, hk⟩ := hk'
                  rw [hct] at hk
                  rcases hk with ⟨h0, _⟩ | ⟨_, hpw2, cs, T, hh, hps, hle, _⟩
                  · rw [hv'] at h0; cases h0
                  · refine .inr ⟨rfl, rfl, cs, T, hh, hps, ?_, fun i hi => by simp at hi⟩
                    simpa using hle
              · intro L' hpl
                simp only [Rep]
                exact ⟨_, hpl, rfl, Nat.le_refl _, ad, 0, by rw [hv, hn], Nat.zero_le _, fun hne => absurd rfl hne, fun _ => .inl rfl⟩
            · have hvf : p.virt = false := by
                cases hv' : p.virt with
                | true => exact absurd (.inl hv') hvirt
                | false => rfl
              obtain ⟨_, hk2⟩ := hk'
              rw [hct] at hk2
              rcases hk2 with ⟨h0, _⟩ | ⟨_, hpw2, cs, T, hh, hps, hle, hrow⟩
              · rw [hvf] at h0; cases h0
              refine ⟨some id, { p with gen := 0 }, ?_, ?_⟩
              · exact Kept.cons (p := p) Kept.nil hu hp ⟨rfl, rfl⟩ (fun hv => hfr hf hv) rfl rfl fun L' _ => ⟨rfl, .inr ⟨hvf, hpw2, cs, T, hh, hps, hle, hrow⟩⟩
              · intro L' hpl
                simp only [Rep]
                refine ⟨_, hpl, hpw2, Nat.le_refl _, ad, cap, by rw [hv, hn], ?_, ?_, fun _ => hcur hpg⟩
                · rw [hn] at hcap; exact hcap
                · rw [hn] at hsome; exact hsome
          · cases et1
        · cases et1
      · cases et1
  · cases et

theorem takeRow_kept (h : Sim c I L s a w) (hi : ∀ b, I b → I' b) : ∀ (cs : List Cell) (u u' : List Nat) (row : List AV) (x : Val (rowsTy cs)) (rs : List Nat) (vs : List Value) (b0 : Nat), (takeRow c.E.toNames cs u row).run call s.rd = some ((x, u'), rs) → RepL (c.rc I' L w) L row vs →
    ∃ src pls, Kept (c.rc I' L w) L I w b0 u u' (encRowH cs x) src pls ∧ pls.length = rowsN cs ∧ Shows0 (c.rc I' L w) b0 (encRow cs b0 x) vs pls
  | [], u, u', row, x, rs, vs, b0, e, hr => by
    simp only [takeRow] at e
    split at e
    · obtain ⟨h0, rfl⟩ := HM.run_ret e
      have h1 : u' = u := congrArg Prod.snd h0
      subst h1
      exact ⟨[], [], Kept.nil, rfl, fun L' _ => by simpa only [encRow, RepL] using hr⟩
    · cases e
  | .d t :: cs, u, u', row, x, rs, vs, b0, e, hr => by
    simp only [takeRow] at e
    split at e
    · rename_i y r hd
      obtain ⟨⟨z, u1⟩, r1, r2, e1, e2, rfl⟩ := HM.run_bind e
      obtain ⟨h0, rfl⟩ := HM.run_ret e2
      injection h0 with h0 h00
      subst h0 h00
      obtain ⟨d, v2, rfl, hT, hr2⟩ := decT_sound (R := c.rc I' L w) t hd hr
      obtain ⟨src, pls, k1, k2, k3⟩ := takeRow_kept h hi cs u _ r z _ v2 b0 e1 hr2
      refine ⟨src, pls, k1, k2, fun L' ha => ?_⟩
      simp only [encRow]
      exact (RepL.ofT t hT).append (k3 L' ha)
    · cases e
  | .sl t :: cs, u, u', row, x, rs, vs, b0, e, hr => by
    simp only [takeRow] at e
    split at e
    · rename_i y r
      obtain ⟨⟨l, u1⟩, r1, r2, e1, e2, rfl⟩ := HM.run_bind e
      obtain ⟨⟨z, u2⟩, r3, r4, e3, e4, rfl⟩ := HM.run_bind e2
      obtain ⟨h0, rfl⟩ := HM.run_ret e4
      injection h0 with h0 h00
      subst h0 h00
      simp only [RepL] at hr
      obtain ⟨v, tl, rfl, hv, ht⟩ := hr
      obtain ⟨o, q, k1, k2⟩ := takeSl_kept h hi e1 hv b0
      obtain ⟨src, pls, k3, k4, k5⟩ := takeRow_kept h hi cs u1 _ r z _ tl (b0 + 1) e3 ht
      refine ⟨[o] ++ src, [q] ++ pls, k1.append k3, by simp [k4, rowsN, Nat.add_comm], fun L' ha => ?_⟩
      simp only [encRow, RepL]
      exact ⟨v, tl, rfl, k2 L' (Agree.head ha), k5 L' (Agree.tail ha)⟩
    · cases e

theorem takeBox_kept (h : Sim c I L s a w) (hi : ∀ b, I b → I' b) {hd : List Ref} (hh : ∀ id, id ∈ hd → ∀ p, L id = some p → p.virt = false → I' p.b) {cs : List Cell} {u u' : List Nat} {y : AV} {z : Value} {x : Val (rowsTy cs)} {rs : List Nat} (et : (takeBox c.E.toNames cs hd u y).run call s.rd = some ((x, u'), rs)) (hz : Rep (c.rc I' L w) L y z) (b0 : Nat) :
    ∃ src pls, Kept (c.rc I' L w) L I w b0 u u' (some { ct := .box (encRow cs (b0 + 1) x), gen := 0, frozen := false } :: encRowH cs x) src pls ∧ pls.length = rowsN cs + 1 ∧ ∀ L', Agree L' b0 pls → Rep (c.rc I' L w) L' (.lptr (.l b0) 0 0 0) z := by
  unfold takeBox at et
  split at et
  · rename_i id i j0 g
    split at et
    · cases et
    · rename_i hu
      have hu : id ∉ u := by
        intro hm
        have : u.contains id = true := by simpa using hm
        rw [this] at hu
        cases hu
      obtain ⟨b, l', hb, et1, rfl⟩ := HM.run_rd et
      split at et1
      · rename_i hc
        obtain ⟨hg, hf, rfl, rfl⟩ := hc
        split at et1
        · rename_i row0 hct
          obtain ⟨⟨row, f⟩, r1, r2, ex, et2, rfl⟩ := HM.run_bind et1
          clear et1
          have et1 := et2
          clear et2
          simp only at et1
          split at et1
          case h_2 => cases et1
          rename_i hall
          obtain ⟨p, hp, hk, hfr⟩ := h.blk (.l _) b hb
          have hpg : p.gen = g := by rw [hk.1, hg]
          obtain ⟨_, hk2⟩ := hk
          rw [hct] at hk2
          obtain ⟨hv, ho, cells, T, hcells, hrow0⟩ := hk2
          have hrow := (expRow_sound h ex hrow0).2 I' hi fun id hid => hh id (by
            rw [List.all_eq_true] at hall
            simpa using hall id hid)
          obtain ⟨src, pls, k1, k2, k3⟩ := takeRow_kept h hi cs _ _ row x _ _ (b0 + 1) et1 hrow
          simp only [Rep] at hz
          obtain ⟨p', hp', hge, q, hq, hcur⟩ := hz
          rw [hp] at hp'
          injection hp' with hp'
          subst hp'
          refine ⟨some id :: src, { p with gen := 0 } :: pls, ?_, by simp [k2], ?_⟩
          · exact k1.cons (p := p) hu hp ⟨rfl, rfl⟩ (fun hv => hfr hf hv) rfl rfl fun L' ha => ⟨rfl, hv, ho, cells, T, hcells, k3 L' ha⟩
          · intro L' ha
            simp only [Rep]
            exact ⟨_, ha.head, Nat.le_refl _, q, hq, fun _ => hcur hpg⟩
        · cases et1
      · cases et1
  · cases et

theorem takeAg_kept (h : Sim c I L s a w) (hi : ∀ b, I b → I' b) {cs : List Cell} {u u' : List Nat} {y : AV} {z : Value} {x : Val (rowsTy cs)} {rs : List Nat} (et : (takeAg c.E.toNames cs u y).run call s.rd = some ((x, u'), rs)) (hz : Rep (c.rc I' L w) L y z) (b0 : Nat) :
    ∃ src pls, Kept (c.rc I' L w) L I w b0 u u' (encRowH cs x) src pls ∧ pls.length = rowsN cs ∧ ∀ L', Agree L' b0 pls → Rep (c.rc I' L w) L' (.agg (encRow cs b0 x)) z := by
  unfold takeAg at et
  split at et
  · rename_i row
    simp only [Rep] at hz
    obtain ⟨cells, rfl, hrow⟩ := hz
    obtain ⟨src, pls, k1, k2, k3⟩ := takeRow_kept h hi cs _ _ row x _ _ b0 et hrow
    refine ⟨src, pls, k1, k2, fun L' ha => ?_⟩
    simp only [Rep]
    exact ⟨cells, rfl, k3 L' ha⟩
  · cases et

/-- a piece of an object's own, told anew -/
theorem takeBor_kept (h : Sim c I L s a w) {t : Ty} {k q : Nat} {y : AV} {z : Value} {x : Nat × Nat × Nat} {rs : List Nat} (et : (takeBor t k q y).run call s.rd = some (x, rs)) (hz : Rep (c.rc I' L w) L y z) :
    ∀ L', Fresh L L' → Rep (c.rc I' L w) L' (.lsl t (.o k x.1 q) x.2.1 x.2.2 0) z := by
  intro L' hfr
  unfold takeBor at et
  split at et
  · rename_i t0 k' i q' lo n g
    split at et
    · rename_i hc
      simp only [Bool.and_eq_true] at hc
      obtain ⟨⟨h1, h2⟩, h3⟩ := hc
      have h1 := Nat.eq_of_beq_eq_true h1
      have h2 := Nat.eq_of_beq_eq_true h2
      subst h1; subst h2
      obtain ⟨b, l', hb, et1, rfl⟩ := HM.run_rd et
      split at et1
      · rename_i hg
        split at et1
        · rename_i t' l hct
          split at et1
          · rename_i htt
            subst htt
            obtain ⟨rfl, rfl⟩ := HM.run_ret et1
            simp only [Rep] at hz ⊢
            obtain ⟨p, hp, hw, hge, ad, cap, hv, hcap, hsome, hcur⟩ := hz
            obtain ⟨hk, _⟩ := h.get hp hb
            refine ⟨_, hfr _ _ _ p hp, ?_, Nat.le_refl _, ad, cap, hv, hcap, hsome, fun _ => hcur (by rw [hk.1, hg])⟩
            have hk2 := hk.2
            rw [hct] at hk2
            rcases hk2 with ⟨_, _, e⟩ | ⟨_, e, _⟩
            · exact e
            · exact e
          · cases et1
        · cases et1
      · cases et1
    · cases et
  · obtain ⟨b, l', hb, et1, rfl⟩ := HM.run_rd et
    split at et1
    · rename_i cs l st gs hct
      split at et1
      · rename_i t' y' hq hsl
        split at et1
        · rename_i htt
          subst htt
          obtain ⟨hlt, et2⟩ := HM.run_chk et1
          have hlt := of_decide_eq_true hlt
          obtain ⟨rfl, rfl⟩ := HM.run_ret et2
          have hq : 0 < q := Nat.le_of_ble_eq_true hq
          obtain ⟨q, rfl⟩ := Nat.exists_eq_add_of_le' hq
          have hb' := rdv_l.1 (show rdv s.heap (.l k) = some b from hb)
          obtain ⟨t2, l2, hs2⟩ := slO_some (x := l.getD 0 (dfl (rowsTy cs))) (slO_own hsl)
          have := slO_same hs2 hsl
          subst this
          obtain ⟨v2, hv2⟩ : ∃ v2, rdv s.heap (.o k 0 (q + 1)) = some v2 ∧ (∃ l3, v2.ct = .sl t2 l3) := by
            simp only [rdv, hb', hct, if_pos hlt, viewV, hs2]
            refine ⟨_, rfl, ?_⟩
            split
            · exact ⟨_, rfl⟩
            · exact ⟨_, rfl⟩
          obtain ⟨hv2, l3, hc3⟩ := hv2
          obtain ⟨p, hp, hk, _⟩ := h.blk _ v2 hv2
          simp only [Rep] at hz ⊢
          refine ⟨_, hfr _ _ _ p hp, ?_, Nat.le_refl _, none, 0, hz, Nat.le_refl _, fun h0 => absurd rfl h0, fun _ => .inl rfl⟩
          have hk2 := hk.2
          rw [hc3] at hk2
          rcases hk2 with ⟨_, _, e⟩ | ⟨_, e, _⟩
          · exact e
          · exact e
        · cases et1
      · cases et1
    · cases et1
  · cases et

theorem decE_kept (h : Sim c I L s a w) (hi : ∀ b, I b → I' b) {hd : List Ref} (hh : ∀ id, id ∈ hd → ∀ p, L id = some p → p.virt = false → I' p.b) : ∀ (sl : List Slot) (env : List AV) (used : List Nat) (x : Val (slotsTy sl)) (rs : List Nat) (vs : List Value) (b0 : Nat), (decE' c.E.toNames hd sl used env).run call s.rd = some (x, rs) → RepL (c.rc I' L w) L env vs →
    ∃ used' src pls, Kept (c.rc I' L w) L I w b0 used used' (encHeap sl b0 x) src pls ∧ Shows (c.rc I' L w) L b0 (encEnv sl b0 x) vs pls
  | [], env, used, x, rs, vs, b0, e, hx => by
    cases env with
    | nil => exact ⟨used, [], [], Kept.nil, fun L' _ _ => by simpa only [encEnv, RepL] using hx⟩
    | cons y env => cases e
  | .dead :: sl, env, used, x, rs, vs, b0, e, hx => by
    cases env with
    | nil => cases e
    | cons y env =>
      simp only [decE', nextA] at e
      simp only [RepL] at hx
      obtain ⟨z, tl, rfl, hz, ht⟩ := hx
      obtain ⟨u', src, pls, h1, h2⟩ := decE_kept h hi hh sl env used x rs tl b0 e ht
      refine ⟨u', src, pls, h1, fun L' hp hfr => ?_⟩
      simp only [encEnv, RepL]
      exact ⟨z, tl, rfl, by simp [Rep], h2 L' hp hfr⟩
  | .data t :: sl, env, used, x, rs, vs, b0, e, hx => by
    cases env with
    | nil => cases e
    | cons y env =>
      simp only [decE', nextA] at e
      split at e
      · rename_i y' hy
        obtain ⟨r, r1, r2, e1, e2, rfl⟩ := HM.run_bind e
        obtain ⟨rfl, rfl⟩ := HM.run_ret e2
        simp only [RepL] at hx
        obtain ⟨z, tl, rfl, hz, ht⟩ := hx
        obtain ⟨u', src, pls, h1, h2⟩ := decE_kept h hi hh sl env used r _ tl b0 e1 ht
        refine ⟨u', src, pls, h1, fun L' hp hfr => ?_⟩
        simp only [encEnv, RepL]
        exact ⟨z, tl, rfl, decV_sound (R := c.rc I' L w) hy hz, h2 L' hp hfr⟩
      · cases e
  | .sl t :: sl, env, used, x, rs, vs, b0, e, hx => by
    cases env with
    | nil => cases e
    | cons y env =>
      simp only [decE', nextA] at e
      simp only [RepL] at hx
      obtain ⟨z, tl, rfl, hz, ht⟩ := hx
      obtain ⟨⟨l0, u'⟩, q1, q2, et, ek, rfl⟩ := HM.run_bind e
      simp only at ek
      obtain ⟨r, r1, r2, e1, e2, rfl⟩ := HM.run_bind ek
      obtain ⟨rfl, rfl⟩ := HM.run_ret e2
      obtain ⟨o, q, k1, k2⟩ := takeSl_kept h hi et hz b0
      obtain ⟨u2, src, pls, k3, k4⟩ := decE_kept h hi hh sl env u' r _ tl (b0 + 1) e1 ht
      refine ⟨u2, [o] ++ src, [q] ++ pls, k1.append k3, fun L' ha hfr => ?_⟩
      simp only [encEnv, RepL]
      exact ⟨z, tl, rfl, k2 L' (Agree.head ha), k4 L' (Agree.tail ha) hfr⟩
  | .box cs :: sl, env, used, x, rs, vs, b0, e, hx => by
    cases env with
    | nil => cases e
    | cons y env =>
      simp only [decE', nextA] at e
      simp only [RepL] at hx
      obtain ⟨z, tl, rfl, hz, ht⟩ := hx
      obtain ⟨⟨l0, u'⟩, q1, q2, et, ek, rfl⟩ := HM.run_bind e
      simp only at ek
      obtain ⟨r, r1, r2, e1, e2, rfl⟩ := HM.run_bind ek
      obtain ⟨rfl, rfl⟩ := HM.run_ret e2
      obtain ⟨s1, p1, k1, kl, k2⟩ := takeBox_kept h hi hh et hz b0
      obtain ⟨u2, src, pls, k3, k4⟩ := decE_kept h hi hh sl env u' r _ tl (b0 + 1 + rowsN cs) e1 ht
      have hb : b0 + 1 + rowsN cs = b0 + p1.length := by rw [kl]; omega
      rw [hb] at k3 k4
      refine ⟨u2, s1 ++ src, p1 ++ pls, ?_, fun L' ha hfr => ?_⟩
      · simp only [encHeap]
        rw [hb]
        exact k1.append k3
      · simp only [encEnv, RepL]
        rw [hb]
        exact ⟨z, tl, rfl, k2 L' ha.left, k4 L' ha.right hfr⟩
  | .bor t k q :: sl, env, used, x, rs, vs, b0, e, hx => by
    cases env with
    | nil => cases e
    | cons y env =>
      simp only [decE', nextA] at e
      simp only [RepL] at hx
      obtain ⟨z, tl, rfl, hz, ht⟩ := hx
      obtain ⟨y', q1, q2, et, ek, rfl⟩ := HM.run_bind e
      obtain ⟨r, r1, r2, e1, e2, rfl⟩ := HM.run_bind ek
      obtain ⟨rfl, rfl⟩ := HM.run_ret e2
      have k2 := takeBor_kept (I' := I') h et hz
      obtain ⟨u2, src, pls, k3, k4⟩ := decE_kept h hi hh sl env used r _ tl b0 e1 ht
      refine ⟨u2, src, pls, k3, fun L' ha hfr => ?_⟩
      simp only [encEnv, RepL]
      exact ⟨z, tl, rfl, k2 L' hfr, k4 L' ha hfr⟩
  | .ag cs :: sl, env, used, x, rs, vs, b0, e, hx => by
    cases env with
    | nil => cases e
    | cons y env =>
      simp only [decE', nextA] at e
      simp only [RepL] at hx
      obtain ⟨z, tl, rfl, hz, ht⟩ := hx
      obtain ⟨⟨l0, u'⟩, q1, q2, et, ek, rfl⟩ := HM.run_bind e
      simp only at ek
      obtain ⟨r, r1, r2, e1, e2, rfl⟩ := HM.run_bind ek
      obtain ⟨rfl, rfl⟩ := HM.run_ret e2
      obtain ⟨s1, p1, k1, kl, k2⟩ := takeAg_kept h hi et hz b0
      obtain ⟨u2, src, pls, k3, k4⟩ := decE_kept h hi hh sl env u' r _ tl (b0 + rowsN cs) e1 ht
      rw [← kl] at k3 k4
      refine ⟨u2, s1 ++ src, p1 ++ pls, ?_, fun L' ha hfr => ?_⟩
      · simp only [encHeap]
        rw [← kl]
        exact k1.append k3
      · simp only [encEnv, RepL]
        rw [← kl]
        exact ⟨z, tl, rfl, k2 L' ha.left, k4 L' ha.right hfr⟩

end


end Go.Eng
