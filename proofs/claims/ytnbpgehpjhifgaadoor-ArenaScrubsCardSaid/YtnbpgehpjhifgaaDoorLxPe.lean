/-
  Texts of the proof, one behind the other.
-/
import Derived.Test.YtnbpgehpjhifgaaDoorLxPd
import Derived.LaidEql
import Derived.LaidLaws
import Derived.Carry
import Derived.ChangeShapes
import Derived.ChangeArms
import Derived.WideShapes
import Derived.RangeFuncLeaves
import Derived.Laws.IdiomCopy
import Derived.ArgAppend
import Derived.Lib.SliceRun

/-
  The abstract machine, part 23a: what is taken over.
-/
namespace Go.Eng

def Shows0 (R : RC) (b0 : Nat) (env : List AV) (vs : List Value) (pls : List Pl) : Prop :=
  ∀ (L' : Ref → Option Pl), Agree L' b0 pls → RepL R L' env vs

def Shows (R : RC) (L : Ref → Option Pl) (b0 : Nat) (env : List AV) (vs : List Value) (pls : List Pl) : Prop :=
  ∀ (L' : Ref → Option Pl), Agree L' b0 pls → Fresh L L' → RepL R L' env vs

section
variable {c : Ctx} {I I' : Nat → Prop} {L : Ref → Option Pl} {s : St} {a : Act} {w : World} {call : CallF}

theorem takeSl_kept (h : Sim c I L s a w) (hi : ∀ b, I b → I' b) {t : Ty} {u u' : List Nat} {y : AV} {z : Value} {l0 : List (Val t)} {rs : List Nat} (et : (takeSl t u y).run call s.rd = some ((l0, u'), rs)) (hz : Rep (c.rc I' L w) L y z) (b0 : Nat) :
    ∃ o q, Kept (c.rc I' L w) L I w b0 u u' [some { ct := .sl t l0, gen := 0, frozen := false }] [o] [q] ∧ ∀ L', L' (.l b0) = some q → Rep (c.rc I' L w) L' (.lsl t (.l b0) 0 l0.length 0) z := by
  unfold takeSl at et
  split at et
  · obtain ⟨h0, rfl⟩ := HM.run_ret et
    simp only [Prod.mk.injEq] at h0
    obtain ⟨rfl, rfl⟩ := h0
    refine ⟨none, ⟨0, 0, t.size, 0, 0, true⟩, Kept.nil.consV rfl rfl rfl (fun L' => ⟨rfl, .inl ⟨rfl, rfl, rfl⟩⟩), fun L' hp => ?_⟩
    simp only [Rep] at hz ⊢
    exact ⟨_, hp, rfl, Nat.le_refl _, none, 0, by simpa using hz, by simp, fun hne => absurd rfl hne, fun _ => .inl rfl⟩
  · rename_i t0 id i n g
    split at et
    · cases et
    · rename_i hu
      have hu : id ∉ u := by
        intro hm
        have : u.contains id = true := by simpa using hm
        rw [this] at hu
        cases hu
      obtain ⟨b, l', hb, et1, rfl⟩ := HM.run_rd et
      split at et1
      · rename_i hc
        obtain ⟨hg, hf, rfl⟩ := hc
        split at et1
        · rename_i t' l hct
          split at et1
          · rename_i htt
            subst htt
            obtain ⟨hn, et2⟩ := HM.run_chk et1
            have hn := of_decide_eq_true hn
            obtain ⟨h0, rfl⟩ := HM.run_ret et2
            simp only [Prod.mk.injEq] at h0
            obtain ⟨h0, rfl⟩ := h0
            have h0 : l = l0 := h0.symm
            subst h0
            obtain ⟨p, hp, hk, hfr⟩ := h.blk (.l _) b hb
            have hk' := hk.mono (R' := c.rc I' L w) (L' := L) (rle_of_heap hi (fun _ _ => rfl) (LLe.refl L)) (LLe.refl L) (w' := w) (fun _ => rfl) (fun _ _ => rfl)
            simp only [Rep] at hz
            obtain ⟨p', hp', hpw, hge, ad, cap, hv, hcap, hsome, hcur⟩ := hz
            rw [hp] at hp'
            injection hp' with hp'
            subst hp'
            have hpg : p.gen = g := by rw [hk.1, hg]
            by_cases hvirt : p.virt = true ∨ cap = 0 ∧ l = []
            · have hl0 : l = [] ∧ cap = 0 := by
                rcases hvirt with hvt | ⟨h0, h1⟩
                · obtain ⟨_, hk⟩ := hk
                  rw [hct] at hk
                  rcases hk with ⟨_, h0, _⟩ | ⟨h0, _⟩
                  · refine ⟨h0, ?_⟩
                    rcases hcur hpg with hc | ⟨hc, _⟩
                    · exact hc
                    · rw [hvt] at hc; cases hc
                  · rw [hvt] at h0; cases h0
                · exact ⟨h1, h0⟩
              obtain ⟨rfl, rfl⟩ := hl0
              refine ⟨some id, { p with gen := 0, w := t'.size, virt := p.virt }, ?_, ?_⟩
              · refine Kept.cons (p := p) Kept.nil hu hp ⟨rfl, rfl⟩ (fun hv => hfr hf hv) rfl rfl fun L' _ => ⟨rfl, ?_⟩
                cases hv' : p.virt with
                | true => exact .inl ⟨rfl, rfl, rfl⟩
                | false =>
                  obtain ⟨_, hk⟩ := hk'
                  rw [hct] at hk
                  rcases hk with ⟨h0, _⟩ | ⟨_, hpw2, cs, T, hh, hps, hle, _⟩
                  · rw [hv'] at h0; cases h0
                  · refine .inr ⟨rfl, rfl, cs, T, hh, hps, ?_, fun i hi => by simp at hi⟩
                    simpa using hle
              · intro L' hpl
                simp only [Rep]
                exact ⟨_, hpl, rfl, Nat.le_refl _, ad, 0, by rw [hv, hn], Nat.zero_le _, fun hne => absurd rfl hne, fun _ => .inl rfl⟩
            · have hvf : p.virt = false := by
                cases hv' : p.virt with
                | true => exact absurd (.inl hv') hvirt
                | false => rfl
              obtain ⟨_, hk2⟩ := hk'
              rw [hct] at hk2
              rcases hk2 with ⟨h0, _⟩ | ⟨_, hpw2, cs, T, hh, hps, hle, hrow⟩
              · rw [hvf] at h0; cases h0
              refine ⟨some id, { p with gen := 0 }, ?_, ?_⟩
              · exact Kept.cons (p := p) Kept.nil hu hp ⟨rfl, rfl⟩ (fun hv => hfr hf hv) rfl rfl fun L' _ => ⟨rfl, .inr ⟨hvf, hpw2, cs, T, hh, hps, hle, hrow⟩⟩
              · intro L' hpl
                simp only [Rep]
                refine ⟨_, hpl, hpw2, Nat.le_refl _, ad, cap, by rw [hv, hn], ?_, ?_, fun _ => hcur hpg⟩
                · rw [hn] at hcap; exact hcap
                · rw [hn] at hsome; exact hsome
          · cases et1
        · cases et1
      · cases et1
  · cases et

theorem takeCut_kept (h : Sim c I L s a w) (hi : ∀ b, I b → I' b) {t : Ty} {u u' : List Nat} {y : AV} {z : Value} {l0 : List (Val t)} {rs : List Nat} (et : (takeCut t u y).run call s.rd = some ((l0, u'), rs)) (hz : Rep (c.rc I' L w) L y z) (b0 : Nat) :
    ∃ o q, Kept (c.rc I' L w) L I w b0 u u' [some { ct := .sl t l0, gen := 0, frozen := false }] [o] [q] ∧ ∀ L', L' (.l b0) = some q → Rep (c.rc I' L w) L' (.lsl t (.l b0) 0 l0.length 0) z := by
  unfold takeCut at et
  split at et
  · obtain ⟨h0, rfl⟩ := HM.run_ret et
    simp only [Prod.mk.injEq] at h0
    obtain ⟨rfl, rfl⟩ := h0
    refine ⟨none, ⟨0, 0, t.size, 0, 0, true⟩, Kept.nil.consV rfl rfl rfl (fun L' => ⟨rfl, .inl ⟨rfl, rfl, rfl⟩⟩), fun L' hp => ?_⟩
    simp only [Rep] at hz ⊢
    exact ⟨_, hp, rfl, Nat.le_refl _, none, 0, by simpa using hz, by simp, fun hne => absurd rfl hne, fun _ => .inl rfl⟩
  · rename_i t0 id i n g
    split at et
    · cases et
    · rename_i hu
      have hu : id ∉ u := by
        intro hm
        have : u.contains id = true := by simpa using hm
        rw [this] at hu
        cases hu
      obtain ⟨b, l', hb, et1, rfl⟩ := HM.run_rd et
      split at et1
      · rename_i hc
        obtain ⟨hg, hf, rfl⟩ := hc
        split at et1
        · rename_i t' l hct
          split at et1
          · rename_i htt
            subst htt
            obtain ⟨hn, et2⟩ := HM.run_chk et1
            have hn := of_decide_eq_true hn
            obtain ⟨h0, rfl⟩ := HM.run_ret et2
            simp only [Prod.mk.injEq] at h0
            obtain ⟨h0, rfl⟩ := h0
            have h0 : l0 = l.take n := h0
            subst h0
            have hlt : (l.take n).length = n := by rw [List.length_take]; omega
            obtain ⟨p, hp, hk, hfr⟩ := h.blk (.l _) b hb
            have hk' := hk.mono (R' := c.rc I' L w) (L' := L) (rle_of_heap hi (fun _ _ => rfl) (LLe.refl L)) (LLe.refl L) (w' := w) (fun _ => rfl) (fun _ _ => rfl)
            simp only [Rep] at hz
            obtain ⟨p', hp', hpw, hge, ad, cap, hv, hcap, hsome, hcur⟩ := hz
            rw [hp] at hp'
            injection hp' with hp'
            subst hp'
            have hpg : p.gen = g := by rw [hk.1, hg]
            by_cases hvirt : p.virt = true ∨ cap = 0
            · have hn0 : n = 0 := by
                rcases hvirt with hvt | h0
                · obtain ⟨_, hk⟩ := hk
                  rw [hct] at hk
                  rcases hk with ⟨_, h0, _⟩ | ⟨h0, _⟩
                  · rw [h0] at hn; simpa using hn
                  · rw [hvt] at h0; cases h0
                · omega
              subst hn0
              rw [List.take_zero]
              refine ⟨some id, { p with gen := 0, w := t'.size, virt := p.virt }, ?_, ?_⟩
              · refine Kept.cons (p := p) Kept.nil hu hp ⟨rfl, rfl⟩ (fun hv => hfr hf hv) rfl rfl fun L' _ => ⟨rfl, ?_⟩
                cases hv' : p.virt with
                | true => exact .inl ⟨rfl, rfl, rfl⟩
                | false =>
                  obtain ⟨_, hk⟩ := hk'
                  rw [hct] at hk
                  rcases hk with ⟨h0, _⟩ | ⟨_, hpw2, cs, T, hh, hps, hle, _⟩
                  · rw [hv'] at h0; cases h0
                  · refine .inr ⟨rfl, rfl, cs, T, hh, hps, ?_, fun i hi => by simp at hi⟩
                    simp only [List.length_nil, Nat.zero_mul, Nat.add_zero]
                    omega
              · intro L' hpl
                simp only [Rep]
                refine ⟨_, hpl, rfl, Nat.le_refl _, ad, cap, hv, Nat.zero_le _, fun hne => absurd rfl hne, fun _ => ?_⟩
                rcases hcur hpg with hc | ⟨h1, h2, h3⟩
                · exact .inl hc
                · rcases hvirt with hvt | h0
                  · rw [hvt] at h1; cases h1
                  · exact .inl h0
            · have hvf : p.virt = false := by
                cases hv' : p.virt with
                | true => exact absurd (.inl hv') hvirt
                | false => rfl
              obtain ⟨_, hk2⟩ := hk'
              rw [hct] at hk2
              rcases hk2 with ⟨h0, _⟩ | ⟨_, hpw2, cs, T, hh, hps, hle, hrow⟩
              · rw [hvf] at h0; cases h0
              refine ⟨some id, { p with gen := 0 }, ?_, ?_⟩
              · refine Kept.cons (p := p) Kept.nil hu hp ⟨rfl, rfl⟩ (fun hv => hfr hf hv) rfl rfl fun L' _ => ⟨rfl, .inr ⟨hvf, hpw2, cs, T, hh, hps, ?_, fun i hi => ?_⟩⟩
                · rw [hlt]
                  exact Nat.le_trans (Nat.add_le_add_left (Nat.mul_le_mul_right _ hn) _) hle
                · rw [hlt] at hi
                  have := hrow i (by omega)
                  rw [List.getD_eq_getElem?_getD] at this ⊢
                  rw [List.getElem?_take, if_pos hi]
                  exact this
              · intro L' hpl
                simp only [Rep]
                rw [hlt]
                exact ⟨_, hpl, hpw2, Nat.le_refl _, ad, cap, hv, hcap, hsome, fun _ => hcur hpg⟩
          · cases et1
        · cases et1
      · cases et1
  · cases et

theorem takeRow_kept (h : Sim c I L s a w) (hi : ∀ b, I b → I' b) : ∀ (cs : List Cell) (u u' : List Nat) (row : List AV) (x : Val (rowsTy cs)) (rs : List Nat) (vs : List Value) (b0 : Nat), (takeRow c.E.toNames cs u row).run call s.rd = some ((x, u'), rs) → RepL (c.rc I' L w) L row vs →
    ∃ src pls, Kept (c.rc I' L w) L I w b0 u u' (encRowH cs x) src pls ∧ pls.length = rowsN cs ∧ Shows0 (c.rc I' L w) b0 (encRow cs b0 x) vs pls
  | [], u, u', row, x, rs, vs, b0, e, hr => by
    simp only [takeRow] at e
    split at e
    · obtain ⟨h0, rfl⟩ := HM.run_ret e
      have h1 : u' = u := congrArg Prod.snd h0
      subst h1
      exact ⟨[], [], Kept.nil, rfl, fun L' _ => by simpa only [encRow, RepL] using hr⟩
    · cases e
  | .d t :: cs, u, u', row, x, rs, vs, b0, e, hr => by
    simp only [takeRow] at e
    split at e
    · rename_i y r hd
      obtain ⟨⟨z, u1⟩, r1, r2, e1, e2, rfl⟩ := HM.run_bind e
      obtain ⟨h0, rfl⟩ := HM.run_ret e2
      injection h0 with h0 h00
      subst h0 h00
      obtain ⟨d, v2, rfl, hT, hr2⟩ := decT_sound (R := c.rc I' L w) t hd hr
      obtain ⟨src, pls, k1, k2, k3⟩ := takeRow_kept h hi cs u _ r z _ v2 b0 e1 hr2
      refine ⟨src, pls, k1, k2, fun L' ha => ?_⟩
      simp only [encRow]
      exact (RepL.ofT t hT).append (k3 L' ha)
    · cases e
  | .sl t :: cs, u, u', row, x, rs, vs, b0, e, hr => by
    simp only [takeRow] at e
    split at e
    · rename_i y r
      obtain ⟨⟨l, u1⟩, r1, r2, e1, e2, rfl⟩ := HM.run_bind e
      obtain ⟨⟨z, u2⟩, r3, r4, e3, e4, rfl⟩ := HM.run_bind e2
      obtain ⟨h0, rfl⟩ := HM.run_ret e4
      injection h0 with h0 h00
      subst h0 h00
      simp only [RepL] at hr
      obtain ⟨v, tl, rfl, hv, ht⟩ := hr
      obtain ⟨o, q, k1, k2⟩ := takeSl_kept h hi e1 hv b0
      obtain ⟨src, pls, k3, k4, k5⟩ := takeRow_kept h hi cs u1 _ r z _ tl (b0 + 1) e3 ht
      refine ⟨[o] ++ src, [q] ++ pls, k1.append k3, by simp [k4, rowsN, Nat.add_comm], fun L' ha => ?_⟩
      simp only [encRow, RepL]
      exact ⟨v, tl, rfl, k2 L' (Agree.head ha), k5 L' (Agree.tail ha)⟩
    · cases e

theorem takeBox_kept (h : Sim c I L s a w) (hi : ∀ b, I b → I' b) {hd : List Ref} (hh : ∀ id, id ∈ hd → ∀ p, L id = some p → p.virt = false → I' p.b) {cs : List Cell} {u u' : List Nat} {y : AV} {z : Value} {x : Val (rowsTy cs)} {rs : List Nat} (et : (takeBox c.E.toNames cs hd u y).run call s.rd = some ((x, u'), rs)) (hz : Rep (c.rc I' L w) L y z) (b0 : Nat) :
    ∃ src pls, Kept (c.rc I' L w) L I w b0 u u' (some { ct := .box (encRow cs (b0 + 1) x), gen := 0, frozen := false } :: encRowH cs x) src pls ∧ pls.length = rowsN cs + 1 ∧ ∀ L', Agree L' b0 pls → Rep (c.rc I' L w) L' (.lptr (.l b0) 0 0 0) z := by
  unfold takeBox at et
  split at et
  · rename_i id i j0 g
    split at et
    · cases et
    · rename_i hu
      have hu : id ∉ u := by
        intro hm
        have : u.contains id = true := by simpa using hm
        rw [this] at hu
        cases hu
      obtain ⟨b, l', hb, et1, rfl⟩ := HM.run_rd et
      split at et1
      · rename_i hc
        obtain ⟨hg, hf, rfl, rfl⟩ := hc
        split at et1
        · rename_i row0 hct
          obtain ⟨⟨row, f⟩, r1, r2, ex, et2, rfl⟩ := HM.run_bind et1
          clear et1
          have et1 := et2
          clear et2
          simp only at et1
          split at et1
          case h_2 => cases et1
          rename_i hall
          obtain ⟨p, hp, hk, hfr⟩ := h.blk (.l _) b hb
          have hpg : p.gen = g := by rw [hk.1, hg]
          obtain ⟨_, hk2⟩ := hk
          rw [hct] at hk2
          obtain ⟨hv, ho, cells, T, hcells, hrow0⟩ := hk2
          have hrow := (expRow_sound h ex hrow0).2 I' hi fun id hid => hh id (by
            rw [List.all_eq_true] at hall
            simpa using hall id hid)
          obtain ⟨src, pls, k1, k2, k3⟩ := takeRow_kept h hi cs _ _ row x _ _ (b0 + 1) et1 hrow
          simp only [Rep] at hz
          obtain ⟨p', hp', hge, q, hq, hcur⟩ := hz
          rw [hp] at hp'
          injection hp' with hp'
          subst hp'
          refine ⟨some id :: src, { p with gen := 0 } :: pls, ?_, by simp [k2], ?_⟩
          · exact k1.cons (p := p) hu hp ⟨rfl, rfl⟩ (fun hv => hfr hf hv) rfl rfl fun L' ha => ⟨rfl, hv, ho, cells, T, hcells, k3 L' ha⟩
          · intro L' ha
            simp only [Rep]
            exact ⟨_, ha.head, Nat.le_refl _, q, hq, fun _ => hcur hpg⟩
        · cases et1
      · cases et1
  · cases et

theorem takeAg_kept (h : Sim c I L s a w) (hi : ∀ b, I b → I' b) {cs : List Cell} {u u' : List Nat} {y : AV} {z : Value} {x : Val (rowsTy cs)} {rs : List Nat} (et : (takeAg c.E.toNames cs u y).run call s.rd = some ((x, u'), rs)) (hz : Rep (c.rc I' L w) L y z) (b0 : Nat) :
    ∃ src pls, Kept (c.rc I' L w) L I w b0 u u' (encRowH cs x) src pls ∧ pls.length = rowsN cs ∧ ∀ L', Agree L' b0 pls → Rep (c.rc I' L w) L' (.agg (encRow cs b0 x)) z := by
  unfold takeAg at et
  split at et
  · rename_i row
    simp only [Rep] at hz
    obtain ⟨cells, rfl, hrow⟩ := hz
    obtain ⟨src, pls, k1, k2, k3⟩ := takeRow_kept h hi cs _ _ row x _ _ b0 et hrow
    refine ⟨src, pls, k1, k2, fun L' ha => ?_⟩
    simp only [Rep]
    exact ⟨cells, rfl, k3 L' ha⟩
  · cases et

/-- a piece of an object's own, told anew -/
theorem takeBor_kept (h : Sim c I L s a w) {t : Ty} {k q : Nat} {y : AV} {z : Value} {x : Nat × Nat × Nat} {rs : List Nat} (et : (takeBor t k q y).run call s.rd = some (x, rs)) (hz : Rep (c.rc I' L w) L y z) :
    ∀ L', Fresh L L' → Rep (c.rc I' L w) L' (.lsl t (.o k x.1 q) x.2.1 x.2.2 0) z := by
  intro L' hfr
  unfold takeBor at et
  split at et
  · rename_i t0 k' i q' lo n g
    split at et
    · rename_i hc
      simp only [Bool.and_eq_true] at hc
      obtain ⟨⟨h1, h2⟩, h3⟩ := hc
      have h1 := Nat.eq_of_beq_eq_true h1
      have h2 := Nat.eq_of_beq_eq_true h2
      subst h1; subst h2
      obtain ⟨b, l', hb, et1, rfl⟩ := HM.run_rd et
      split at et1
      · rename_i hg
        split at et1
        · rename_i t' l hct
          split at et1
          · rename_i htt
            subst htt
            obtain ⟨rfl, rfl⟩ := HM.run_ret et1
            simp only [Rep] at hz ⊢
            obtain ⟨p, hp, hw, hge, ad, cap, hv, hcap, hsome, hcur⟩ := hz
            obtain ⟨hk, _⟩ := h.get hp hb
            refine ⟨_, hfr _ _ _ p hp, ?_, Nat.le_refl _, ad, cap, hv, hcap, hsome, fun _ => hcur (by rw [hk.1, hg])⟩
            have hk2 := hk.2
            rw [hct] at hk2
            rcases hk2 with ⟨_, _, e⟩ | ⟨_, e, _⟩
            · exact e
            · exact e
          · cases et1
        · cases et1
      · cases et1
    · cases et
  · obtain ⟨b, l', hb, et1, rfl⟩ := HM.run_rd et
    split at et1
    · rename_i cs l st gs hct
      split at et1
      · rename_i t' y' hq hsl
        split at et1
        · rename_i htt
          subst htt
          obtain ⟨hlt, et2⟩ := HM.run_chk et1
          have hlt := of_decide_eq_true hlt
          obtain ⟨rfl, rfl⟩ := HM.run_ret et2
          have hq : 0 < q := Nat.le_of_ble_eq_true hq
          obtain ⟨q, rfl⟩ := Nat.exists_eq_add_of_le' hq
          have hb' := rdv_l.1 (show rdv s.heap (.l k) = some b from hb)
          obtain ⟨t2, l2, hs2⟩ := slO_some (x := l.getD 0 (dfl (rowsTy cs))) (slO_own hsl)
          have := slO_same hs2 hsl
          subst this
          obtain ⟨v2, hv2⟩ : ∃ v2, rdv s.heap (.o k 0 (q + 1)) = some v2 ∧ (∃ l3, v2.ct = .sl t2 l3) := by
            simp only [rdv, hb', hct, if_pos hlt, viewV, hs2]
            refine ⟨_, rfl, ?_⟩
            split
            · exact ⟨_, rfl⟩
            · exact ⟨_, rfl⟩
          obtain ⟨hv2, l3, hc3⟩ := hv2
          obtain ⟨p, hp, hk, _⟩ := h.blk _ v2 hv2
          simp only [Rep] at hz ⊢
          refine ⟨_, hfr _ _ _ p hp, ?_, Nat.le_refl _, none, 0, hz, Nat.le_refl _, fun h0 => absurd rfl h0, fun _ => .inl rfl⟩
          have hk2 := hk.2
          rw [hc3] at hk2
          rcases hk2 with ⟨_, _, e⟩ | ⟨_, e, _⟩
          · exact e
          · exact e
        · cases et1
      · cases et1
    · cases et1
  · cases et

theorem decE_kept (h : Sim c I L s a w) (hi : ∀ b, I b → I' b) {hd : List Ref} (hh : ∀ id, id ∈ hd → ∀ p, L id = some p → p.virt = false → I' p.b) : ∀ (sl : List Slot) (env : List AV) (used : List Nat) (x : Val (slotsTy sl)) (rs : List Nat) (vs : List Value) (b0 : Nat), (decE' c.E.toNames hd sl used env).run call s.rd = some (x, rs) → RepL (c.rc I' L w) L env vs →
    ∃ used' src pls, Kept (c.rc I' L w) L I w b0 used used' (encHeap sl b0 x) src pls ∧ Shows (c.rc I' L w) L b0 (encEnv sl b0 x) vs pls
  | [], env, used, x, rs, vs, b0, e, hx => by
    cases env with
    | nil => exact ⟨used, [], [], Kept.nil, fun L' _ _ => by simpa only [encEnv, RepL] using hx⟩
    | cons y env => cases e
  | .dead :: sl, env, used, x, rs, vs, b0, e, hx => by
    cases env with
    | nil => cases e
    | cons y env =>
      simp only [decE', nextA] at e
      simp only [RepL] at hx
      obtain ⟨z, tl, rfl, hz, ht⟩ := hx
      obtain ⟨u', src, pls, h1, h2⟩ := decE_kept h hi hh sl env used x rs tl b0 e ht
      refine ⟨u', src, pls, h1, fun L' hp hfr => ?_⟩
      simp only [encEnv, RepL]
      exact ⟨z, tl, rfl, by simp [Rep], h2 L' hp hfr⟩
  | .data t :: sl, env, used, x, rs, vs, b0, e, hx => by
    cases env with
    | nil => cases e
    | cons y env =>
      simp only [decE', nextA] at e
      split at e
      · rename_i y' hy
        obtain ⟨r, r1, r2, e1, e2, rfl⟩ := HM.run_bind e
        obtain ⟨rfl, rfl⟩ := HM.run_ret e2
        simp only [RepL] at hx
        obtain ⟨z, tl, rfl, hz, ht⟩ := hx
        obtain ⟨u', src, pls, h1, h2⟩ := decE_kept h hi hh sl env used r _ tl b0 e1 ht
        refine ⟨u', src, pls, h1, fun L' hp hfr => ?_⟩
        simp only [encEnv, RepL]
        exact ⟨z, tl, rfl, decV_sound (R := c.rc I' L w) hy hz, h2 L' hp hfr⟩
      · cases e
  | .sl t :: sl, env, used, x, rs, vs, b0, e, hx => by
    cases env with
    | nil => cases e
    | cons y env =>
      simp only [decE', nextA] at e
      simp only [RepL] at hx
      obtain ⟨z, tl, rfl, hz, ht⟩ := hx
      obtain ⟨⟨l0, u'⟩, q1, q2, et, ek, rfl⟩ := HM.run_bind e
      simp only at ek
      obtain ⟨r, r1, r2, e1, e2, rfl⟩ := HM.run_bind ek
      obtain ⟨rfl, rfl⟩ := HM.run_ret e2
      obtain ⟨o, q, k1, k2⟩ := takeSl_kept h hi et hz b0
      obtain ⟨u2, src, pls, k3, k4⟩ := decE_kept h hi hh sl env u' r _ tl (b0 + 1) e1 ht
      refine ⟨u2, [o] ++ src, [q] ++ pls, k1.append k3, fun L' ha hfr => ?_⟩
      simp only [encEnv, RepL]
      exact ⟨z, tl, rfl, k2 L' (Agree.head ha), k4 L' (Agree.tail ha) hfr⟩
  | .cut t :: sl, env, used, x, rs, vs, b0, e, hx => by
    cases env with
    | nil => cases e
    | cons y env =>
      simp only [decE', nextA] at e
      simp only [RepL] at hx
      obtain ⟨z, tl, rfl, hz, ht⟩ := hx
      obtain ⟨⟨l0, u'⟩, q1, q2, et, ek, rfl⟩ := HM.run_bind e
      simp only at ek
      obtain ⟨r, r1, r2, e1, e2, rfl⟩ := HM.run_bind ek
      obtain ⟨rfl, rfl⟩ := HM.run_ret e2
      obtain ⟨o, q, k1, k2⟩ := takeCut_kept h hi et hz b0
      obtain ⟨u2, src, pls, k3, k4⟩ := decE_kept h hi hh sl env u' r _ tl (b0 + 1) e1 ht
      refine ⟨u2, [o] ++ src, [q] ++ pls, k1.append k3, fun L' ha hfr => ?_⟩
      simp only [encEnv, RepL]
      exact ⟨z, tl, rfl, k2 L' (Agree.head ha), k4 L' (Agree.tail ha) hfr⟩
  | .box cs :: sl, env, used, x, rs, vs, b0, e, hx => by
    cases env with
    | nil => cases e
    | cons y env =>
      simp only [decE', nextA] at e
      simp only [RepL] at hx
      obtain ⟨z, tl, rfl, hz, ht⟩ := hx
      obtain ⟨⟨l0, u'⟩, q1, q2, et, ek, rfl⟩ := HM.run_bind e
      simp only at ek
      obtain ⟨r, r1, r2, e1, e2, rfl⟩ := HM.run_bind ek
      obtain ⟨rfl, rfl⟩ := HM.run_ret e2
      obtain ⟨s1, p1, k1, kl, k2⟩ := takeBox_kept h hi hh et hz b0
      obtain ⟨u2, src, pls, k3, k4⟩ := decE_kept h hi hh sl env u' r _ tl (b0 + 1 + rowsN cs) e1 ht
      have hb : b0 + 1 + rowsN cs = b0 + p1.length := by rw [kl]; omega
      rw [hb] at k3 k4
      refine ⟨u2, s1 ++ src, p1 ++ pls, ?_, fun L' ha hfr => ?_⟩
      · simp only [encHeap]
        rw [hb]
        exact k1.append k3
      · simp only [encEnv, RepL]
        rw [hb]
        exact ⟨z, tl, rfl, k2 L' ha.left, k4 L' ha.right hfr⟩
  | .bor t k q :: sl, env, used, x, rs, vs, b0, e, hx => by
    cases env with
    | nil => cases e
    | cons y env =>
      simp only [decE', nextA] at e
      simp only [RepL] at hx
      obtain ⟨z, tl, rfl, hz, ht⟩ := hx
      obtain ⟨y', q1, q2, et, ek, rfl⟩ := HM.run_bind e
      obtain ⟨r, r1, r2, e1, e2, rfl⟩ := HM.run_bind ek
      obtain ⟨rfl, rfl⟩ := HM.run_ret e2
      have k2 := takeBor_kept (I' := I') h et hz
      obtain ⟨u2, src, pls, k3, k4⟩ := decE_kept h hi hh sl env used r _ tl b0 e1 ht
      refine ⟨u2, src, pls, k3, fun L' ha hfr => ?_⟩
      simp only [encEnv, RepL]
      exact ⟨z, tl, rfl, k2 L' hfr, k4 L' ha hfr⟩
  | .ag cs :: sl, env, used, x, rs, vs, b0, e, hx => by
    cases env with
    | nil => cases e
    | cons y env =>
      simp only [decE', nextA] at e
      simp only [RepL] at hx
      obtain ⟨z, tl, rfl, hz, ht⟩ := hx
      obtain ⟨⟨l0, u'⟩, q1, q2, et, ek, rfl⟩ := HM.run_bind e
      simp only at ek
      obtain ⟨r, r1, r2, e1, e2, rfl⟩ := HM.run_bind ek
      obtain ⟨rfl, rfl⟩ := HM.run_ret e2
      obtain ⟨s1, p1, k1, kl, k2⟩ := takeAg_kept h hi et hz b0
      obtain ⟨u2, src, pls, k3, k4⟩ := decE_kept h hi hh sl env u' r _ tl (b0 + rowsN cs) e1 ht
      rw [← kl] at k3 k4
      refine ⟨u2, s1 ++ src, p1 ++ pls, ?_, fun L' ha hfr => ?_⟩
      · simp only [encHeap]
        rw [← kl]
        exact k1.append k3
      · simp only [encEnv, RepL]
        rw [← kl]
        exact ⟨z, tl, rfl, k2 L' ha.left, k4 L' ha.right hfr⟩

end


end Go.Eng

/-
  The abstract machine, part 23b: a state told as plain data.
-/
namespace Go.Eng

theorem tabOf_inv {call : CallF} {h : Ref → Option Blk} {cs : List Cell} {b : Blk} {l : List (Val (rowsTy cs))} {rs : List Nat} (e : (tabOf cs b).run call h = some (l, rs)) : ∃ gs, b.ct = .tab cs l [] gs := by
  unfold tabOf at e
  split at e
  · rename_i cs' l' st gs hct
    split at e
    · rename_i hc
      subst hc
      cases hs : st.isEmpty with
      | false => simp only [hs] at e; cases e
      | true =>
        simp only [hs] at e
        obtain ⟨h1, _⟩ := HM.run_ret e
        have hst : st = [] := by simpa using hs
        subst hst
        have h1 : l = l' := h1
        subst h1
        exact ⟨gs, hct⟩
    · cases e
  · cases e

theorem decTabs_sound {call : CallF} {s : St} {ks : List (List Cell)} : ∀ {tk : List Nat} {t : Val (tabsTy ks tk)} {rs : List Nat}, (decTabs ks tk).run call s.rd = some (t, rs) →
    ∀ (j k : Nat), tk[j]? = some k → ∃ b l gs, s.heap[k]? = some (some b) ∧ b.ct = .tab (ks.getD k []) l [] gs ∧ (encTabs ks tk t)[j]? = some (tabB (ks.getD k []) l)
  | [], _, _, _, j, k, hj => by simp at hj
  | k0 :: r, t, rs, e, j, k, hj => by
    simp only [decTabs] at e
    obtain ⟨b, l', hb, e1, rfl⟩ := HM.run_rd e
    obtain ⟨l, r1, r2, e2, e3, rfl⟩ := HM.run_bind e1
    obtain ⟨z, r3, r4, e4, e5, rfl⟩ := HM.run_bind e3
    obtain ⟨h1, rfl⟩ := HM.run_ret e5
    subst h1
    obtain ⟨gs, hct⟩ := tabOf_inv e2
    cases j with
    | zero =>
      simp only [List.getElem?_cons_zero, Option.some.injEq] at hj
      subst hj
      exact ⟨b, l, gs, rdv_l.1 (show rdv s.heap (.l k0) = some b from hb), hct, rfl⟩
    | succ j =>
      obtain ⟨b', l', gs', g1, g2, g3⟩ := decTabs_sound e4 j k (by simpa using hj)
      exact ⟨b', l', gs', g1, g2, by simpa [encTabs] using g3⟩

theorem noTabs_sound {call : CallF} {s : St} : ∀ {l : List Nat} {u : Unit} {rs : List Nat}, (noTabs l).run call s.rd = some (u, rs) → ∀ k, k ∈ l → ∃ b cs st gs, s.heap[k]? = some (some b) ∧ b.ct = .tab cs [] st gs
  | [], _, _, _, k, hk => by cases hk
  | k0 :: r, u, rs, e, k, hk => by
    simp only [noTabs] at e
    obtain ⟨b, l', hb, e1, rfl⟩ := HM.run_rd e
    split at e1
    · rename_i cs l st gs hct
      cases l with
      | cons _ _ => cases e1
      | nil =>
        simp only at e1
        rcases List.mem_cons.1 hk with rfl | hk
        · exact ⟨b, cs, st, gs, rdv_l.1 (show rdv s.heap (.l k) = some b from hb), hct⟩
        · exact noTabs_sound e1 k hk
    · cases e1

theorem mem_others {n k : Nat} {tk : List Nat} (h1 : k < n) (h2 : k ∉ tk) : k ∈ others n tk := by
  unfold others
  rw [List.mem_filter, List.mem_range]
  refine ⟨h1, ?_⟩
  cases hb : tk.any (Nat.beq k) with
  | true => exact absurd (any_beq.1 hb) h2
  | false => rfl

/-- an object's row, in a reading that goes on -/
theorem rowO_le {R R' : RC} {L L' : Ref → Option Pl} (h : RLe R R') {k i : Nat} {gs gs' : List Nat}
    (hq : ∀ q p, L (.o k i q) = some p → 1 ≤ q → p.gen = gs.getD q 0 ∧ L' (.o k i q) = some { p with gen := gs'.getD q 0 }) : ∀ {cs : List Cell} {q : Nat} {x : Val (rowsTy cs)} {ys : List Value}, 1 ≤ q →
    RepL R L (rowO k i (fun q => decide ((q, i) ∈ ([] : List (Nat × Nat)))) gs cs q x) ys → RepL R' L' (rowO k i (fun q => decide ((q, i) ∈ ([] : List (Nat × Nat)))) gs' cs q x) ys
  | [], _, _, _, _, h => h
  | .d t :: r, q, x, ys, h1, hx => by
    simp only [rowO] at hx ⊢
    obtain ⟨c, d, rfl, hc, hd⟩ := hx.split
    exact (RepL.ofT t (RepT.mono h t (RepL.toT t hc))).append (rowO_le h hq h1 hd)
  | .sl t :: r, q, x, ys, h1, hx => by
    simp only [rowO, RepL] at hx ⊢
    obtain ⟨y, tl, rfl, hy, ht⟩ := hx
    refine ⟨y, tl, rfl, ?_, rowO_le h hq (by omega) ht⟩
    simp only [List.not_mem_nil, decide_false, Rep] at hy ⊢
    obtain ⟨p, hp, hw, hge, ad, cap, hv, hcap, hsome, hcur⟩ := hy
    obtain ⟨hg, hp'⟩ := hq q p hp h1
    exact ⟨_, hp', hw, Nat.le_refl _, ad, cap, hv, hcap, hsome, fun _ => hcur hg⟩

section
variable {c : Ctx} {I : Nat → Prop} {L : Ref → Option Pl} {s : St} {a : Act} {w : World} {call : CallF}

/-- the places of a state that is told as plain data -/
def freshL (nk b0 : Nat) (L : Ref → Option Pl) (pls : List Pl) : Ref → Option Pl
  | .l id => if id < nk then some ⟨0, 0, 0, 0, 0, true⟩ else if b0 ≤ id then pls[id - b0]? else none
  | .o k i q => (L (.o k i q)).map fun p => { p with gen := 0 }

/-- A STATE TOLD AS PLAIN DATA stands for all that it stood for. -/
theorem dec_sim (h : Sim c I L s a w) {tk : List Nat} {sl : List Slot} {x : StV c.E tk sl} {rs : List Nat} {b0 : Nat} (hb0 : c.E.kinds.length ≤ b0) (hnd : tk.Nodup) (hlt : ∀ k, k ∈ tk → k < c.E.kinds.length)
    (e : (decSlots c.E tk sl s).run call s.rd = some (x, rs)) : ∃ I2 L2, Sim c I2 L2 (encAt c.E tk sl b0 x) a w := by
  unfold decSlots at e
  obtain ⟨⟨env, ids⟩, r1, r2, e1, e2, rfl⟩ := HM.run_bind e
  simp only at e2
  cases hall : (ids.all Ref.isL && (s.heap.drop c.E.kinds.length).all noTab) with
  | false => simp only [hall] at e2; cases e2
  | true =>
  simp only [hall] at e2
  simp only [Bool.and_eq_true, List.all_eq_true] at hall
  obtain ⟨hidL, hnoT⟩ := hall
  obtain ⟨u, r3, r4, e3, e4, rfl⟩ := HM.run_bind e2
  obtain ⟨t, r5, r6, e5, e6, rfl⟩ := HM.run_bind e4
  obtain ⟨y, r7, r8, e7, e8, rfl⟩ := HM.run_bind e6
  obtain ⟨hx, rfl⟩ := HM.run_ret e8
  subst hx
  obtain ⟨_, g2⟩ := expA_sound h e1 h.env
  have hi : ∀ b, I b → heldBy I L ids b := fun b hb => .inl hb
  have hh : ∀ id, id ∈ ids → ∀ p, L id = some p → p.virt = false → heldBy I L ids p.b := fun id hid p hp hv => .inr ⟨id, p, hid, hp, hv, rfl⟩
  have hrep := g2 (heldBy I L ids) hi hh
  obtain ⟨used', src, pls, hk, hs⟩ := decE_kept h hi hh sl _ _ _ _ _ b0 e7 hrep
  have htab := decTabs_sound e5
  have hnone := noTabs_sound e3
  obtain ⟨hp, hhp⟩ : ∃ hp, hp = encHeap sl b0 y := ⟨_, rfl⟩
  obtain ⟨T, hT⟩ : ∃ T, T = encTabs c.E.kinds tk t := ⟨_, rfl⟩
  rw [← hhp] at hk
  rw [← hT] at htab
  show ∃ I2 L2, Sim c I2 L2 ⟨encEnv sl b0 y, outH c.E tk (encTabs c.E.kinds tk t) b0 (encHeap sl b0 y)⟩ a w
  rw [← hhp, ← hT]
  -- the heap
  have hTk : ∀ k, k ∈ tk → ∃ b cs l gs, s.heap[k]? = some (some b) ∧ b.ct = .tab cs l [] gs ∧ (outH c.E tk T b0 hp)[k]? = some (some (tabB cs l)) := by
    intro k hkk
    obtain ⟨j, hj, ek⟩ := List.getElem_of_mem hkk
    have hj' : tk[j]? = some k := by rw [List.getElem?_eq_getElem hj, ek]
    obtain ⟨b, l, gs, g1, g2, g3⟩ := htab j k hj'
    refine ⟨b, _, l, gs, g1, g2, ?_⟩
    rw [outH_tab (hlt k hkk)]
    exact putK_at _ tk T j k _ hnd (fun k hk => by simpa using hlt k hk) hj' g3
  have hTn : ∀ k, k < c.E.kinds.length → k ∉ tk → ∃ cs, (outH c.E tk T b0 hp)[k]? = some (some (tab0 cs)) := by
    intro k hkl hkk
    refine ⟨c.E.kinds[k], ?_⟩
    rw [outH_tab hkl]
    unfold entryH
    rw [putK_other _ tk _ k hkk, List.getElem?_map, List.getElem?_eq_getElem hkl]
    rfl
  have hTm : ∀ id, c.E.kinds.length ≤ id → id < b0 → ∀ b, (outH c.E tk T b0 hp)[id]? = some (some b) → False := by
    intro id h1 h2 b hb
    unfold outH at hb
    rw [List.append_assoc, List.getElem?_append_right (by rw [entryH_length]; exact h1), entryH_length, List.getElem?_append_left (by simp; omega), List.getElem?_replicate] at hb
    split at hb <;> simp at hb
  have hTb : ∀ id, b0 ≤ id → (outH c.E tk T b0 hp)[id]? = hp[id - b0]? := by
    intro id h1
    have := outH_new (E := c.E) (ks := tk) (ts := T) (hp := hp) hb0 (id - b0)
    rw [show b0 + (id - b0) = id from by omega] at this
    exact this
  have hTt : ∀ k b, c.E.kinds.length ≤ k → (outH c.E tk T b0 hp)[k]? = some (some b) → b.isTab = false := by
    intro k b h1 hb
    rcases Nat.lt_or_ge k b0 with h2 | h2
    · exact (hTm k h1 h2 b hb).elim
    · rw [hTb k h2] at hb
      obtain ⟨B, p, hx, _, hz, _⟩ := hk.blk _ _ hb
      injection hx with hx
      subst hx
      exact hz
  have hno : ∀ k i q p, L (.o k i q) = some p → k ∈ tk := by
    intro k i q p hp0
    apply Classical.byContradiction
    intro hkk
    obtain ⟨x, hx⟩ := h.dom _ p hp0
    rcases Nat.lt_or_ge k c.E.kinds.length with hkl | hkl
    · obtain ⟨b, cs, st, gs, g1, g2⟩ := hnone k (mem_others hkl hkk)
      simp only [rdv, g1, g2, List.length_nil, Nat.not_lt_zero, if_false] at hx
      cases hx
    · simp only [rdv] at hx
      split at hx
      · rename_i b hb
        have := hnoT (some b) (List.mem_of_getElem? (show (s.heap.drop c.E.kinds.length)[k - c.E.kinds.length]? = some (some b) by rw [List.getElem?_drop, show c.E.kinds.length + (k - c.E.kinds.length) = k from by omega]; exact hb))
        simp only [noTab, Bool.not_eq_true'] at this
        unfold Blk.isTab at this
        split at hx
        · rename_i hct
          rw [hct] at this
          cases this
        · cases hx
      · cases hx
  -- the places
  obtain ⟨L2, hL2⟩ : ∃ L2, L2 = freshL c.E.kinds.length b0 L pls := ⟨_, rfl⟩
  have L2t : ∀ id, id < c.E.kinds.length → L2 (.l id) = some ⟨0, 0, 0, 0, 0, true⟩ := fun id h1 => by rw [hL2]; exact if_pos h1
  have L2b : ∀ id, b0 ≤ id → L2 (.l id) = pls[id - b0]? := fun id h1 => by
    rw [hL2]
    show (if id < c.E.kinds.length then _ else _) = _
    rw [if_neg (by omega), if_pos h1]
  have L2m : ∀ id, c.E.kinds.length ≤ id → id < b0 → L2 (.l id) = none := fun id h1 h2 => by
    rw [hL2]
    show (if id < c.E.kinds.length then _ else _) = _
    rw [if_neg (by omega), if_neg (by omega)]
  have L2o : ∀ k i q, L2 (.o k i q) = (L (.o k i q)).map fun p => { p with gen := 0 } := fun k i q => by rw [hL2]; rfl
  have hag : Agree L2 b0 pls := fun j p hj => by rw [L2b _ (Nat.le_add_right _ _), Nat.add_sub_cancel_left]; exact hj
  have hfr : Fresh L L2 := fun k i q p hp0 => by rw [L2o, hp0]; rfl
  have hH : hOf L2 = hOf L := by
    funext k i
    simp only [hOf, L2o]
    cases L (.o k i 0) <;> rfl
  have hR : c.rc (heldBy I L ids) L2 w = c.rc (heldBy I L ids) L w := by
    unfold Ctx.rc rcW
    rw [hH]
  have hrle : RLe (c.rc I L w) (c.rc (heldBy I L ids) L2 w) := by
    rw [hR]
    exact rle_of_heap hi (fun _ _ => rfl) (LLe.refl L)
  have hheld : ∀ k i q p, L (.o k i q) = some p → p.virt = false → ¬ I p.b → ¬ heldBy I L ids p.b := by
    intro k i q p hp0 hv hI hx
    rcases hx with hx | ⟨id, p', hid, hp', hv', hbb⟩
    · exact hI hx
    · have := h.inj _ _ p p' hp0 hp' hv hv' hbb
      subst this
      have := hidL _ hid
      simp [Ref.isL] at this
  have hsrc : ∀ (b : Nat) (q : Pl), pls[b]? = some q → q.virt = false → ∃ id p, src[b]? = some (some id) ∧ id ∉ lids ids ∧ L (.l id) = some p ∧ q.b = p.b ∧ p.virt = false ∧ ¬ I p.b := by
    intro b q hq hv
    have hlt : b < src.length := by rw [← hk.len.1]; exact (List.getElem?_eq_some_iff.1 hq).1
    cases hsb : src[b]? with
    | none => rw [List.getElem?_eq_none_iff] at hsb; omega
    | some o =>
      cases o with
      | none =>
        obtain ⟨q', hq', hv'⟩ := hk.virt b hsb
        rw [hq] at hq'
        injection hq' with hq'
        subst hq'
        rw [hv] at hv'
        cases hv'
      | some id =>
        obtain ⟨h1, _, p, q', h2, h3, h4, h5, h6⟩ := hk.own b id hsb
        rw [hq] at h3
        injection h3 with h3
        subst h3
        have hpv : p.virt = false := by rw [← h5]; exact hv
        exact ⟨id, p, rfl, h1, h2, h4, hpv, h6 hpv⟩
  have hmem : ∀ id, Ref.l id ∈ ids → id ∈ lids ids := by
    intro id
    generalize ids = l
    induction l with
    | nil => intro h0; cases h0
    | cons r l ih =>
      intro h0
      cases r with
      | l id' =>
        simp only [lids, List.mem_cons] at h0 ⊢
        rcases h0 with h0 | h0
        · injection h0 with h0; exact .inl h0
        · exact .inr (ih h0)
      | o k i q =>
        simp only [lids, List.mem_cons] at h0 ⊢
        rcases h0 with h0 | h0
        · cases h0
        · exact ih h0
  -- an object's blocks
  have hobj : ∀ k i q x, rdv (outH c.E tk T b0 hp) (.o k i q) = some x → ∃ p, L (.o k i q) = some p ∧ (p.virt = false → ¬ I p.b) ∧ x.frozen = false ∧ BlkOK (c.rc (heldBy I L ids) L2 w) L2 w { p with gen := 0 } x := by
    intro k i q x hx
    have hkl : k < c.E.kinds.length := by
      apply Classical.byContradiction
      intro hkl
      simp only [rdv] at hx
      split at hx
      · rename_i b hb
        have := hTt k b (by omega) hb
        unfold Blk.isTab at this
        split at hx
        · rename_i hct
          rw [hct] at this
          cases this
        · cases hx
      · cases hx
    by_cases hkk : k ∈ tk
    · obtain ⟨b, cs, l, gs, h1, h2, h4⟩ := hTk k hkk
      simp only [rdv, h4, tabB] at hx
      split at hx
      rotate_left
      · cases hx
      rename_i hil
      cases q with
      | zero =>
        simp only [viewV, Option.some.injEq] at hx
        subst hx
        have hbox : rdv s.heap (.o k i 0) = some { ct := .box (rowO k i (fun q => decide ((q, i) ∈ ([] : List (Nat × Nat)))) gs cs 1 (l.getD i (dfl (rowsTy cs)))), gen := 0, frozen := false } := by
          simp only [rdv, h1, h2, if_pos hil, viewV]
        obtain ⟨p, hp0, hkk', hf⟩ := h.blk _ _ hbox
        refine ⟨p, hp0, hf rfl, rfl, ?_⟩
        obtain ⟨e1, e2, e3, cc, T, e4, e5⟩ := hkk'
        refine ⟨rfl, e2, e3, cc, T, e4, ?_⟩
        refine rowO_le hrle (fun q p hp1 hq => ?_) (Nat.le_refl 1) e5
        obtain ⟨_, _, hg⟩ := slice_gen h h1 h2 hp1
        refine ⟨(hg hq).1, ?_⟩
        rw [L2o, hp1, zeros_getD]
        rfl
      | succ q =>
        simp only [viewV] at hx
        split at hx
        rotate_left
        · cases hx
        rename_i ty y' hsl
        simp only [List.not_mem_nil, if_false, Option.some.injEq, zeros_getD] at hx
        subst hx
        have hsl0 : rdv s.heap (.o k i (q + 1)) = some { ct := .sl ty y', gen := gs.getD (q + 1) 0, frozen := false } := by
          simp only [rdv, h1, h2, if_pos hil, viewV, hsl, List.not_mem_nil, if_false]
        obtain ⟨p, hp0, hkk', hf⟩ := h.blk _ _ hsl0
        refine ⟨p, hp0, hf rfl, rfl, rfl, ?_⟩
        rcases hkk'.2 with ⟨e1, e2, e3⟩ | ⟨e1, e2, cc, T, e3, e4, e5, e6⟩
        · exact .inl ⟨e1, e2, e3⟩
        · refine .inr ⟨e1, e2, cc, T, e3, e4, e5, fun j hj => ?_⟩
          obtain ⟨d, hd, hda⟩ := e6 j hj
          exact ⟨d, hd.mono hrle, hda⟩
    · exfalso
      obtain ⟨cs, h1⟩ := hTn k hkl hkk
      simp only [rdv, h1, tab0, List.length_nil, Nat.not_lt_zero, if_false] at hx
      cases hx
  refine ⟨heldBy I L ids, L2, ?_, h.defers, fun r x hx => ?_, fun r p hp0 => ?_, fun r p hp0 hv => ?_, fun r r' p p' hp0 hp0' hv hv' hbb => ?_, fun b hb => ?_, fun b hb => .inl (h.i0 b hb), fun b hb => ?_, h.same, h.fix, fun k i p hp0 => ?_, h.grow, h.io⟩
  · rw [hR]
    exact hs L2 hag hfr
  · cases r with
    | l id =>
      have hx' := rdv_l.1 hx
      rcases Nat.lt_or_ge id c.E.kinds.length with hkl | hkl
      · refine ⟨_, L2t id hkl, ?_, fun _ hv => by cases hv⟩
        by_cases hkk : id ∈ tk
        · obtain ⟨b, cs, l, gs, h1, h2, h4⟩ := hTk id hkk
          simp only at hx'
          rw [h4] at hx'
          injection hx' with hx'
          injection hx' with hx'
          subst hx'
          exact ⟨rfl, rfl⟩
        · obtain ⟨cs, h4⟩ := hTn id hkl hkk
          simp only at hx'
          rw [h4] at hx'
          injection hx' with hx'
          injection hx' with hx'
          subst hx'
          exact ⟨rfl, rfl⟩
      · rcases Nat.lt_or_ge id b0 with h2 | h2
        · exact (hTm id hkl h2 x hx').elim
        · simp only at hx'
          rw [hTb id h2] at hx'
          obtain ⟨B', p, hx2, hz, _, hp0, hB'⟩ := hk.blk _ _ hx'
          injection hx2 with hx2
          subst hx2
          refine ⟨p, by rw [L2b id h2]; exact hp0, by rw [hR]; exact hB' _ hag, fun _ hv hI => ?_⟩
          obtain ⟨id1, p0, _, hid, hp1, hb1, hv1, hI1⟩ := hsrc _ p hp0 hv
          rcases hI with hI | ⟨r2, p2, hid2, hp2, hv2, hb2⟩
          · rw [hb1] at hI; exact hI1 hI
          · have := h.inj _ _ p0 p2 hp1 hp2 hv1 hv2 (by rw [← hb1]; exact hb2)
            subst this
            exact hid (hmem _ hid2)
    | o k i q =>
      obtain ⟨p, hp0, hI, hz, hkk⟩ := hobj k i q x hx
      exact ⟨_, hfr _ _ _ p hp0, hkk, fun _ hv => hheld k i q p hp0 hv (hI hv)⟩
  · cases r with
    | l id =>
      rcases Nat.lt_or_ge id c.E.kinds.length with hkl | hkl
      · by_cases hkk : id ∈ tk
        · obtain ⟨b, cs, l, gs, h1, h2, h4⟩ := hTk id hkk
          exact ⟨_, rdv_l.2 h4⟩
        · obtain ⟨cs, h4⟩ := hTn id hkl hkk
          exact ⟨_, rdv_l.2 h4⟩
      · rcases Nat.lt_or_ge id b0 with h2 | h2
        · rw [L2m id hkl h2] at hp0; cases hp0
        · rw [L2b id h2] at hp0
          have hlt : id - b0 < hp.length := by rw [← hk.len.2, ← hk.len.1]; exact (List.getElem?_eq_some_iff.1 hp0).1
          have hB := List.getElem?_eq_getElem hlt
          obtain ⟨B, p', hx, _⟩ := hk.blk _ _ hB
          exact ⟨B, rdv_l.2 (by simp only; rw [hTb id h2, hB, hx])⟩
    | o k i q =>
      rw [L2o] at hp0
      obtain ⟨p0, hp1, rfl⟩ := Option.map_eq_some_iff.1 hp0
      obtain ⟨b, cs, l, gs, h1, h2, h4⟩ := hTk k (hno k i q p0 hp1)
      obtain ⟨hil, _, hq⟩ := slice_gen h h1 h2 hp1
      simp only [rdv, h4, tabB, if_pos hil]
      cases q with
      | zero => exact ⟨_, rfl⟩
      | succ q =>
        obtain ⟨_, _, ty, y', hsl, _⟩ := hq (by omega)
        simp only [viewV, hsl]
        exact ⟨_, rfl⟩
  · cases r with
    | l id =>
      rcases Nat.lt_or_ge id c.E.kinds.length with hkl | hkl
      · rw [L2t id hkl] at hp0
        injection hp0 with hp0
        subst hp0
        cases hv
      · rcases Nat.lt_or_ge id b0 with h2 | h2
        · rw [L2m id hkl h2] at hp0; cases hp0
        · rw [L2b id h2] at hp0
          obtain ⟨id1, p0, _, _, hp1, hb1, hv1, _⟩ := hsrc _ p hp0 hv
          rw [hb1]
          exact h.own _ p0 hp1 hv1
    | o k i q =>
      rw [L2o] at hp0
      obtain ⟨p0, hp1, rfl⟩ := Option.map_eq_some_iff.1 hp0
      exact h.own _ p0 hp1 hv
  · -- from where a place is
    have hfrom : ∀ r p, L2 r = some p → p.virt = false → ∃ r0 p0, L r0 = some p0 ∧ p0.virt = false ∧ p.b = p0.b ∧ (r = r0 ∧ r.isL = false ∨ ∃ id id1, r = .l id ∧ r0 = .l id1 ∧ b0 ≤ id ∧ src[id - b0]? = some (some id1)) := by
      intro r p hp0 hv
      cases r with
      | l id =>
        rcases Nat.lt_or_ge id c.E.kinds.length with hkl | hkl
        · rw [L2t id hkl] at hp0
          injection hp0 with hp0
          subst hp0
          cases hv
        · rcases Nat.lt_or_ge id b0 with h2 | h2
          · rw [L2m id hkl h2] at hp0; cases hp0
          · rw [L2b id h2] at hp0
            obtain ⟨id1, p0, hs0, _, hp1, hb1, hv1, _⟩ := hsrc _ p hp0 hv
            exact ⟨.l id1, p0, hp1, hv1, hb1, .inr ⟨id, id1, rfl, rfl, h2, hs0⟩⟩
      | o k i q =>
        rw [L2o] at hp0
        obtain ⟨p0, hp1, rfl⟩ := Option.map_eq_some_iff.1 hp0
        exact ⟨.o k i q, p0, hp1, hv, rfl, .inl ⟨rfl, rfl⟩⟩
    obtain ⟨r0, p0, a1, a2, a3, a4⟩ := hfrom r p hp0 hv
    obtain ⟨r0', p0', b1, b2, b3, b4⟩ := hfrom r' p' hp0' hv'
    have := h.inj _ _ p0 p0' a1 b1 a2 b2 (by rw [← a3, ← b3]; exact hbb)
    subst this
    rcases a4 with ⟨rfl, a5⟩ | ⟨id, id1, rfl, rfl, a5, a6⟩ <;> rcases b4 with ⟨rfl, b5⟩ | ⟨id', id1', rfl, e', b5, b6⟩
    · rfl
    · rw [e'] at a5; cases a5
    · cases b5
    · injection e' with e'
      subst e'
      have := hk.inj _ _ id1 a6 b6
      rw [show id = id' from by omega]
  · rcases hb with hb | ⟨id, p, _, hp0, hv, rfl⟩
    · exact h.imm b hb
    · exact (h.own id p hp0 hv).2
  · rcases hb with hb | ⟨id, p, _, hp0, hv, rfl⟩
    · exact h.iN b hb
    · exact .inr (h.own id p hp0 hv).1
  · have h0 := h.bx k i p hp0
    obtain ⟨b, cs, l, gs, h1, h2, _⟩ := hTk k (hno k i 0 p h0)
    have := (slice_gen h h1 h2 h0).2.1 rfl
    rw [L2o, h0, Option.map_some, ← this]

end

/-- which kinds: each once, and there -/
def KindsOK (E : Env) (tk : List Nat) : Prop := tk.Nodup ∧ ∀ k, k ∈ tk → k < E.kinds.length

theorem decSlots_ref {P : Program} {E : Env} {S : Ini} {tk : List Nat} (hK : KindsOK E tk) {sl : List Slot} {s : St} {x : StV E tk sl} {rs : List Nat} {call : CallF} (e : (decSlots E tk sl s).run call s.rd = some (x, rs)) : May P E S s (encSlots E tk sl x) := by
  intro w0 Rt B Ds I0 I L a w h
  exact dec_sim (c := ⟨P, E, S, w0, I0, Rt, B, Ds⟩) h (Nat.le_refl _) hK.1 hK.2 e

end Go.Eng

/-
  The abstract machine, part 24: functions and loops told as functions of plain data.
-/
namespace Go.Eng
open Go

/-- a function that is known: of objects and arguments, to objects and answers -/
structure CallSpec (E : Env) where
  f : FuncId
  ps : List Ty
  rs : List Slot
  g : Val (tabsTy E.kinds (E.ks f)) × Val (rowTy ps) → Option (StV E (E.ks f) rs)

/-- how a loop may be left, and what is known then -/
def ExTy (E : Env) (tk : List Nat) : List (AX × List Slot) → Type
  | [] => Empty
  | [e] => StV E tk e.2
  | e :: e' :: r => Sum (StV E tk e.2) (ExTy E tk (e' :: r))

def encEx (E : Env) (tk : List Nat) : (ex : List (AX × List Slot)) → ExTy E tk ex → AX × St
  | [], x => nomatch x
  | [e], x => (e.1, encSlots E tk e.2 x)
  | e :: e' :: r, x => Sum.elim (fun y => (e.1, encSlots E tk e.2 y)) (fun y => encEx E tk (e' :: r) y) x

def exK {R : Type} (E : Env) (tk : List Nat) (k : AX → St → Option R) : (ex : List (AX × List Slot)) → ExTy E tk ex → Option R
  | [], _ => none
  | [e], x => k e.1 (encSlots E tk e.2 x)
  | e :: e' :: r, x => Sum.elim (fun y => k e.1 (encSlots E tk e.2 y)) (fun y => exK E tk k (e' :: r) y) x

theorem exK_eq {R : Type} {E : Env} {tk : List Nat} (k : AX → St → Option R) : ∀ (ex : List (AX × List Slot)) (x : ExTy E tk ex), exK E tk k ex x = k (encEx E tk ex x).1 (encEx E tk ex x).2
  | [], x => nomatch x
  | [e], x => rfl
  | e :: e' :: r, x => by
    cases x with
    | inl y => rfl
    | inr y => simp only [exK, encEx, Sum.elim_inr]; exact exK_eq k (e' :: r) y

structure LoopSpec (E : Env) (tk : List Nat) where
  i : Nat
  head : List Slot
  ex : List (AX × List Slot)
  g : StV E tk head → Option (ExTy E tk ex)

/-- a kind's objects, as they are handed over -/
def tabB? (cs : List Cell) (b : Blk) : Option (List (Val (rowsTy cs))) := match b.ct with
  | .tab cs' l st gs => if h : cs' = cs then (match st.isEmpty && decide (gs = List.replicate ((ownQs cs' 1).length + 1) 0) && Nat.beq b.gen 0 && !b.frozen with
    | true => some (castR h l)
    | false => none) else none
  | _ => none

theorem tabB?_eq {cs : List Cell} {b : Blk} {l : List (Val (rowsTy cs))} (e : tabB? cs b = some l) : b = tabB cs l := by
  unfold tabB? at e
  split at e
  · rename_i cs' l' st gs hct
    split at e
    · rename_i hc
      subst hc
      cases hs : (st.isEmpty && decide (gs = List.replicate ((ownQs cs' 1).length + 1) 0) && Nat.beq b.gen 0 && !b.frozen) with
      | false => simp only [hs] at e; cases e
      | true =>
        simp only [hs] at e
        injection e with e
        simp only [Bool.and_eq_true, decide_eq_true_eq, Bool.not_eq_true'] at hs
        obtain ⟨⟨⟨h1, h2⟩, h3⟩, h4⟩ := hs
        have h1 : st = [] := by simpa using h1
        have h3 : b.gen = 0 := Nat.eq_of_beq_eq_true h3
        subst h1; subst h2
        have e : l' = l := e
        subst e
        obtain ⟨ct, gen, fz⟩ := b
        simp only at hct h3 h4
        rw [hct, h3, h4]
        rfl
    · cases e
  · cases e

def tabsB? (kinds : List (List Cell)) : (tk : List Nat) → List Blk → Option (Val (tabsTy kinds tk))
  | [], [] => some ()
  | k :: r, b :: bs => match tabB? (kinds.getD k []) b with
    | some l => match tabsB? kinds r bs with
      | some z => some (l, z)
      | none => none
    | none => none
  | _, _ => none

theorem tabsB?_eq {kinds : List (List Cell)} : ∀ {tk : List Nat} {bs : List Blk} {t : Val (tabsTy kinds tk)}, tabsB? kinds tk bs = some t → bs = encTabs kinds tk t
  | [], [], _, _ => rfl
  | [], _ :: _, _, e => by simp [tabsB?] at e
  | _ :: _, [], _, e => by simp [tabsB?] at e
  | k :: r, b :: bs, t, e => by
    simp only [tabsB?] at e
    split at e
    · rename_i l hl
      split at e
      · rename_i z hz
        injection e with e
        subst e
        simp only [encTabs]
        rw [tabB?_eq hl, tabsB?_eq hz]
      · cases e
    · cases e

def callT (E : Env) : List (CallSpec E) → CallF
  | [], _, _, _, _ => none
  | c :: r, f, as, bs, n => match Nat.beq c.f f with
    | true => match decL E.toNames c.ps as with
      | some x => match tabsB? E.kinds (E.ks c.f) bs with
        | some t => (c.g (t, x)).map fun y => (packA (encEnv c.rs n y.2), encTabs E.kinds (E.ks c.f) y.1, numb n (encHeap c.rs n y.2))
        | none => callT E r f as bs n
      | none => callT E r f as bs n
    | false => callT E r f as bs n

def callKt {R : Type} (E : Env) : List (CallSpec E) → CallK R
  | [], _, _, _, _, _ => none
  | c :: r, f, as, bs, n, k => match Nat.beq c.f f with
    | true => match decL E.toNames c.ps as with
      | some x => match tabsB? E.kinds (E.ks c.f) bs with
        | some t => (c.g (t, x)).bind fun y => k (packA (encEnv c.rs n y.2)) (encTabs E.kinds (E.ks c.f) y.1) (numb n (encHeap c.rs n y.2))
        | none => callKt E r f as bs n k
      | none => callKt E r f as bs n k
    | false => callKt E r f as bs n k

def loopT (E : Env) (tk : List Nat) (call : CallF) : List (LoopSpec E tk) → Nat → St → Option (AX × St)
  | [], _, _ => none
  | l :: r, i, s => match Nat.beq l.i i with
    | true => match (decSlots E tk l.head s).run call s.rd with
      | some (x, _) => (l.g x).map (encEx E tk l.ex)
      | none => none
    | false => loopT E tk call r i s

def loopKt {R : Type} (E : Env) (tk : List Nat) (callK : CallK R) : List (LoopSpec E tk) → Nat → St → (AX → St → Option R) → Option R
  | [], _, _, _ => none
  | l :: r, i, s, k => match Nat.beq l.i i with
    | true => (decSlots E tk l.head s).runK callK s.rd [] fun x _ => (l.g x).bind fun y => exK E tk k l.ex y
    | false => loopKt E tk callK r i s k

theorem callKt_eq {R : Type} (E : Env) : ∀ (cs : List (CallSpec E)) (f : FuncId) (as : List AV) (bs : List Blk) (n : Nat) (k : AV → List Blk → List (Nat × Blk) → Option R), callKt E cs f as bs n k = (callT E cs f as bs n).bind fun p => k p.1 p.2.1 p.2.2
  | [], _, _, _, _, _ => rfl
  | c :: r, f, as, bs, n, k => by
    simp only [callKt, callT]
    split
    · split
      · split
        · rename_i x _ _ t _
          cases c.g (t, x) <;> rfl
        · exact callKt_eq E r f as bs n k
      · exact callKt_eq E r f as bs n k
    · exact callKt_eq E r f as bs n k

theorem loopKt_eq {R : Type} (E : Env) (tk : List Nat) (cs : List (CallSpec E)) : ∀ (ls : List (LoopSpec E tk)) (i : Nat) (s : St) (k : AX → St → Option R),
    loopKt E tk (callKt E cs) ls i s k = (loopT E tk (callT E cs) ls i s).bind fun p => k p.1 p.2
  | [], _, _, _ => rfl
  | l :: r, i, s, k => by
    simp only [loopKt, loopT]
    split
    · rw [HM.runK_eq (callKt_eq E cs)]
      cases (decSlots E tk l.head s).run (callT E cs) s.rd with
      | none => rfl
      | some p =>
        simp only [Option.bind_some]
        cases l.g p.1 with
        | none => rfl
        | some y => simp only [Option.bind_some, Option.map_some]; exact exK_eq k l.ex y
    · exact loopKt_eq E tk cs r i s k

/-- how a body leaves its loop -/
def leaveK {R : Type} (E : Env) (tk : List Nat) (cs : List (CallSpec E)) : (ex : List (AX × List Slot)) → AX → St → (ExTy E tk ex → Option R) → Option R
  | [], _, _, _ => none
  | [e], x, s, k => match decide (e.1 = x) with
    | true => (decSlots E tk e.2 s).runK (callKt E cs) s.rd [] fun y _ => k y
    | false => none
  | e :: e' :: r, x, s, k => match decide (e.1 = x) with
    | true => (decSlots E tk e.2 s).runK (callKt E cs) s.rd [] fun y _ => k (Sum.inl y)
    | false => leaveK E tk cs (e' :: r) x s fun y => k (Sum.inr y)

/-- what a function answers -/
def finA (E : Env) (tk : List Nat) (fi : FnI) (rs : List Slot) (s : St) : HM (StV E tk rs) := (resA E s fi.results).bind fun l => decSlots E tk rs ⟨l, s.heap⟩

/-- a call's beginning -/
def entryT (E : Env) (tk : List Nat) (fi : FnI) (args : List AV) (bs : List Blk) : St := ⟨args ++ List.replicate (fi.ntmps - args.length) .top, entryH E tk bs⟩

/-- WHAT A FUNCTION ANSWERS, as plain data -/
def FCon (P : Program) (E : Env) (S : Ini) (f : FuncId) (ps : List Ty) (rs : List Slot) (x : Val (tabsTy E.kinds (E.ks f)) × Val (rowTy ps)) (y : StV E (E.ks f) rs) : Prop :=
  ∀ b0, Con P E S f (encL ps x.2) (encTabs E.kinds (E.ks f) x.1) b0 (packA (encEnv rs b0 y.2)) (encTabs E.kinds (E.ks f) y.1) (encHeap rs b0 y.2)

theorem encRowH_blk : ∀ {cs : List Cell} {x : Val (rowsTy cs)} {o : Option Blk}, o ∈ encRowH cs x → ∃ b, o = some b ∧ b.isTab = false
  | [], _, _, h => by cases h
  | .d t :: r, x, o, h => by simp only [encRowH] at h; exact encRowH_blk h
  | .sl t :: r, x, o, h => by
    simp only [encRowH, List.mem_cons] at h
    rcases h with rfl | h
    · exact ⟨_, rfl, rfl⟩
    · exact encRowH_blk h

theorem encHeap_blk : ∀ {sl : List Slot} {b0 : Nat} {x : Val (slotsTy sl)} {o : Option Blk}, o ∈ encHeap sl b0 x → ∃ b, o = some b ∧ b.isTab = false
  | [], _, _, _, h => by cases h
  | .dead :: r, b, x, o, h => encHeap_blk (sl := r) (b0 := b) h
  | .data t :: r, b, x, o, h => encHeap_blk (sl := r) (b0 := b) (x := x.2) h
  | .bor t k q :: r, b, x, o, h => encHeap_blk (sl := r) (b0 := b) (x := x.2) h
  | .sl t :: r, b, x, o, h => by
    simp only [encHeap, List.mem_cons] at h
    rcases h with rfl | h
    · exact ⟨_, rfl, rfl⟩
    · exact encHeap_blk h
  | .cut t :: r, b, x, o, h => by
    simp only [encHeap, List.mem_cons] at h
    rcases h with rfl | h
    · exact ⟨_, rfl, rfl⟩
    · exact encHeap_blk h
  | .box cs :: r, b, x, o, h => by
    simp only [encHeap, List.mem_cons, List.mem_append] at h
    rcases h with rfl | h | h
    · exact ⟨_, rfl, rfl⟩
    · exact encRowH_blk h
    · exact encHeap_blk h
  | .ag cs :: r, b, x, o, h => by
    simp only [encHeap, List.mem_append] at h
    rcases h with h | h
    · exact encRowH_blk h
    · exact encHeap_blk h

section
variable {P : Program} {E : Env} {S : Ini} {tk : List Nat}

def CallsOK (P : Program) (E : Env) (S : Ini) (cs : List (CallSpec E)) : Prop := ∀ c, c ∈ cs → ∀ x y, c.g x = some y → FCon P E S c.f c.ps c.rs x y

def LoopsOK (P : Program) (E : Env) (S : Ini) (tk : List Nat) (all : List Code) (ls : List (LoopSpec E tk)) : Prop :=
  ∀ l, l ∈ ls → ∀ c, all[l.i]? = some c → ∀ x y, l.g x = some y → LoopCon P E S c (encSlots E tk l.head x) (encEx E tk l.ex y).1 (encEx E tk l.ex y).2

theorem callT_con : ∀ {cs : List (CallSpec E)}, CallsOK P E S cs → CallOK P E S (callT E cs)
  | [], _, f, as, bs, n, r, ts, wr, e => by cases e
  | c :: cs, h, f, as, bs, n, r, ts, wr, e => by
    have tl := callT_con (cs := cs) (fun d hd => h d (by simp [hd]))
    simp only [callT] at e
    split at e
    · rename_i hb
      have hb := Nat.eq_of_beq_eq_true hb
      subst hb
      split at e
      · rename_i x hx
        split at e
        · rename_i t ht
          have ht := tabsB?_eq ht
          subst ht
          cases hg : c.g (t, x) with
          | none => rw [hg] at e; cases e
          | some y =>
            rw [hg] at e
            simp only [Option.map_some, Option.some.injEq, Prod.mk.injEq] at e
            obtain ⟨rfl, rfl, rfl⟩ := e
            refine ⟨_, fun o ho => ?_, fun b hb => ?_, rfl, (h c (by simp) (t, x) y hg n).args hx⟩
            · obtain ⟨b, rfl, _⟩ := encHeap_blk ho
              rfl
            · obtain ⟨b', e, h'⟩ := encHeap_blk hb
              injection e with e
              rw [e]
              exact h'
        · exact tl _ _ _ _ _ _ _ e
      · exact tl _ _ _ _ _ _ _ e
    · exact tl _ _ _ _ _ _ _ e

theorem loopT_con (hK : KindsOK E tk) {all : List Code} {call : CallF} : ∀ {ls : List (LoopSpec E tk)}, LoopsOK P E S tk all ls → ∀ i c s x t, all[i]? = some c → loopT E tk call ls i s = some (x, t) → CodeCon P E S (.loop c) s x t
  | [], _, i, c, s, x, t, _, e => by cases e
  | l :: ls, h, i, c, s, x, t, hc, e => by
    simp only [loopT] at e
    split at e
    · rename_i hb
      have hb := Nat.eq_of_beq_eq_true hb
      subst hb
      split at e
      · rename_i y rs hx
        cases hg : l.g y with
        | none => rw [hg] at e; cases e
        | some z =>
          rw [hg] at e
          simp only [Option.map_some, Option.some.injEq] at e
          have := h l (by simp) c hc y z hg
          rw [e] at this
          exact this.code.ref (decSlots_ref hK hx)
      · cases e
    · exact loopT_con hK (fun d hd => h d (by simp [hd])) i c s x t hc e

theorem leaveK_con (hK : KindsOK E tk) {R : Type} {cs : List (CallSpec E)} : ∀ {ex : List (AX × List Slot)} {x : AX} {s : St} {k : ExTy E tk ex → Option R} {z : R}, leaveK E tk cs ex x s k = some z → ∃ y, k y = some z ∧ (encEx E tk ex y).1 = x ∧ May P E S s (encEx E tk ex y).2
  | [], x, s, k, z, e => by cases e
  | [e0], x, s, k, z, e => by
    simp only [leaveK] at e
    split at e
    · rename_i hd
      have hd := of_decide_eq_true hd
      rw [HM.runK_eq (callKt_eq E cs)] at e
      cases hr : (decSlots E tk e0.2 s).run (callT E cs) s.rd with
      | none => rw [hr] at e; cases e
      | some p =>
        obtain ⟨y, rs⟩ := p
        rw [hr] at e
        exact ⟨y, e, hd, decSlots_ref hK hr⟩
    · cases e
  | e0 :: e' :: r, x, s, k, z, e => by
    simp only [leaveK] at e
    split at e
    · rename_i hd
      have hd := of_decide_eq_true hd
      rw [HM.runK_eq (callKt_eq E cs)] at e
      cases hr : (decSlots E tk e0.2 s).run (callT E cs) s.rd with
      | none => rw [hr] at e; cases e
      | some p =>
        obtain ⟨y, rs⟩ := p
        rw [hr] at e
        exact ⟨Sum.inl y, e, hd, decSlots_ref hK hr⟩
    · obtain ⟨y, h1, h2, h3⟩ := leaveK_con hK (ex := e' :: r) e
      exact ⟨Sum.inr y, h1, h2, h3⟩

end

/-- where ways join (by the number of the sequence), and what is known there -/
abbrev Joins := List (Nat × List (AX × List Slot))

def joinAt : Joins → Nat → Option (List (AX × List Slot))
  | [], _ => none
  | p :: r, m => match Nat.beq p.1 m with
    | true => some p.2
    | false => joinAt r m

def nseqs : Code → Nat
  | .seq a b => nseqs a + nseqs b + 1
  | .cond _ a b => nseqs a + nseqs b
  | .block _ c => nseqs c
  | .scope c => nseqs c
  | _ => 0

def runJK (E : Env) (tk : List Nat) (cs : List (CallSpec E)) (ls : List (LoopSpec E tk)) (js : Joins) : Code → Nat → Nat → St → (R : Type) → (AX → St → Option R) → Option R
  | .skip, _, _, s, _, k => k .normal s
  | .region _ ops draw, _, _, s, _, k => regionK E (callKt E cs) ops.toList draw s k
  | .seq a b, n, m, s, R, k => match joinAt js m with
    | none => runJK E tk cs ls js a n (m + 1) s R fun e s' => match e with
      | .normal => runJK E tk cs ls js b (n + nloops a) (m + 1 + nseqs a) s' R k
      | e => k e s'
    | some ex => (runJK E tk cs ls js a n (m + 1) s (ExTy E tk ex) fun e s' => leaveK E tk cs ex e s' some).bind fun y => exK E tk (fun e s' => match e with
      | .normal => runJK E tk cs ls js b (n + nloops a) (m + 1 + nseqs a) s' R k
      | e => k e s') ex y
  | .cond c a b, n, m, s, R, k => match aeval s.env c with
    | .v (.bool t) => match c with
      | .tmp d => cond t (runJK E tk cs ls js a n m ⟨setB s.env d true, s.heap⟩ R k) (runJK E tk cs ls js b (n + nloops a) (m + nseqs a) ⟨setB s.env d false, s.heap⟩ R k)
      | _ => cond t (runJK E tk cs ls js a n m s R k) (runJK E tk cs ls js b (n + nloops a) (m + nseqs a) s R k)
    | _ => none
  | .block id c, n, m, s, R, k => runJK E tk cs ls js c n m s R fun e s' => match e with
    | .exit id' => if id' = id then k .normal s' else k (.exit id') s'
    | e => k e s'
  | .scope c, n, m, s, R, k => runJK E tk cs ls js c n m s R k
  | .label _, _, _, s, _, k => k .normal s
  | .loop _, n, _, s, _, k => loopKt E tk (callKt E cs) ls n s k
  | .exit id, _, _, s, _, k => k (.exit id) s
  | .ret, _, _, s, _, k => k .ret s
  | _, _, _, _, _, _ => none

def loopBodyJK (E : Env) (tk : List Nat) (cs : List (CallSpec E)) (ls : List (LoopSpec E tk)) (js : Joins) (i : Nat) (body : Code) (head : List Slot) (ex : List (AX × List Slot)) (k : StV E tk head → Option (ExTy E tk ex)) (x : StV E tk head) : Option (ExTy E tk ex) :=
  runJK E tk cs ls js body (i + 1) 0 (encSlots E tk head x) (ExTy E tk ex) fun e s => match e with
    | .normal => (decSlots E tk head s).runK (callKt E cs) s.rd [] fun y _ => k y
    | e => leaveK E tk cs ex e s some

/-- what comes at a function's end -/
def funEnd (E : Env) (tk : List Nat) (cs : List (CallSpec E)) (fi : FnI) (rs : List Slot) (e : AX) (s : St) : Option (StV E tk rs) := match e with
  | .exit _ => none
  | _ => (finA E tk fi rs s).runK (callKt E cs) s.rd [] fun y _ => some y

def funJKA (E : Env) (tk : List Nat) (cs : List (CallSpec E)) (ls : List (LoopSpec E tk)) (js : Joins) (fi : FnI) (args : List AV) (bs : List Blk) (rs : List Slot) : Option (StV E tk rs) :=
  runJK E tk cs ls js fi.body 0 0 (entryT E tk fi args bs) (StV E tk rs) (funEnd E tk cs fi rs)

def funJK (E : Env) (tk : List Nat) (cs : List (CallSpec E)) (ls : List (LoopSpec E tk)) (js : Joins) (fi : FnI) (ps : List Ty) (rs : List Slot) (x : Val (tabsTy E.kinds tk) × Val (rowTy ps)) : Option (StV E tk rs) := funJKA E tk cs ls js fi (encL ps x.2) (encTabs E.kinds tk x.1) rs

section
variable {P : Program} {E : Env} {S : Ini} {tk : List Nat}

theorem nloops_length : ∀ c : Code, (loopsOf c).length = nloops c := by
  intro c
  induction c with
  | seq a b iha ihb => simp [loopsOf, nloops, iha, ihb]
  | cond _ a b iha ihb => simp [loopsOf, nloops, iha, ihb]
  | block _ c ih => simpa [loopsOf, nloops] using ih
  | loop c ih => simp [loopsOf, nloops, ih]
  | scope c ih => simpa [loopsOf, nloops] using ih
  | _ => rfl

theorem CodeCon.seq {a b : Code} {s t u : St} {x : AX} (h : CodeCon P E S a s .normal t) (h' : CodeCon P E S b t x u) : CodeCon P E S (.seq a b) s x u := by
  intro w0 Rt B Ds I0 I L q w hW hs Q hQ
  refine wp_seq (h w0 Rt B Ds I0 I L q w hW hs _ fun I' L' a' w' hs' => ?_)
  exact h' w0 Rt B Ds I0 I' L' a' w' hW hs' Q hQ

theorem CodeCon.seq_out {a b : Code} {s t : St} {x : AX} (hx : x ≠ .normal) (h : CodeCon P E S a s x t) : CodeCon P E S (.seq a b) s x t := by
  intro w0 Rt B Ds I0 I L q w hW hs Q hQ
  refine wp_seq (h w0 Rt B Ds I0 I L q w hW hs _ fun I' L' a' w' hs' => ?_)
  have := hQ I' L' a' w' hs'
  cases x with
  | normal => exact absurd rfl hx
  | exit id => exact this
  | ret => exact this

/-- CODE, with joins -/
theorem runJK_sound (hE : EnvOK P E) (hm : P.follows .mixedOrders = true) (hK : KindsOK E tk) {cs : List (CallSpec E)} (hcs : CallsOK P E S cs) {all : List Code} {ls : List (LoopSpec E tk)} (hls : LoopsOK P E S tk all ls) {js : Joins} :
    ∀ (c : Code) (n m : Nat) (s : St) (R : Type) (k : AX → St → Option R) (z : R), codeOK c = true → (∀ i d, (loopsOf c)[i]? = some d → all[n + i]? = some d) → runJK E tk cs ls js c n m s R k = some z → ∃ x t, CodeCon P E S c s x t ∧ k x t = some z := by
  intro c
  induction c with
  | skip =>
    intro n m s R k z _ _ e
    exact ⟨.normal, s, fun w0 Rt B Ds I0 I L a w hW hs Q hQ => wp_skip (hQ I L a w hs), e⟩
  | region id ops draw =>
    intro n m s R k z hok _ e
    simp only [runJK] at e
    rw [regionK_eq (callKt_eq E cs)] at e
    cases hr : regionA E (callT E cs) ops.toList draw s with
    | none => rw [hr] at e; cases e
    | some p =>
      obtain ⟨x, t⟩ := p
      rw [hr] at e
      exact ⟨x, t, region_sound hE hm (callT_con hcs) hok hr, e⟩
  | seq c d ihc ihd =>
    intro n m s R k z hok hall e
    simp only [codeOK, Bool.and_eq_true] at hok
    have hc : ∀ i d', (loopsOf c)[i]? = some d' → all[n + i]? = some d' := fun i d' h => hall i d' (by
      simp only [loopsOf]
      rw [List.getElem?_append_left (List.getElem?_eq_some_iff.1 h).1]
      exact h)
    have hd : ∀ i d', (loopsOf d)[i]? = some d' → all[n + nloops c + i]? = some d' := fun i d' h => by
      have := hall (nloops c + i) d' (by
        simp only [loopsOf]
        rw [List.getElem?_append_right (by rw [nloops_length]; omega), nloops_length, Nat.add_sub_cancel_left]
        exact h)
      rw [Nat.add_assoc]
      exact this
    have fin : ∀ x t, CodeCon P E S c s x t → (match x with
        | .normal => runJK E tk cs ls js d (n + nloops c) (m + 1 + nseqs c) t R k
        | e => k e t) = some z → ∃ x t, CodeCon P E S (.seq c d) s x t ∧ k x t = some z := by
      intro x t h h'
      cases x with
      | normal =>
        obtain ⟨x', t', h1, h2⟩ := ihd _ _ t R k z hok.2 hd h'
        exact ⟨x', t', h.seq h1, h2⟩
      | exit id => exact ⟨.exit id, t, h.seq_out (by simp), h'⟩
      | ret => exact ⟨.ret, t, h.seq_out (by simp), h'⟩
    simp only [runJK] at e
    cases hj : joinAt js m with
    | none =>
      rw [hj] at e
      simp only at e
      obtain ⟨x, t, h, h'⟩ := ihc _ _ s R _ z hok.1 hc e
      exact fin x t h h'
    | some ex =>
      rw [hj] at e
      simp only at e
      cases hr : runJK E tk cs ls js c n (m + 1) s (ExTy E tk ex) (fun e s' => leaveK E tk cs ex e s' some) with
      | none => rw [hr] at e; cases e
      | some y =>
        rw [hr] at e
        simp only [Option.bind_some] at e
        obtain ⟨x, t, h, h'⟩ := ihc _ _ s _ _ y hok.1 hc hr
        obtain ⟨y', g0, g1, g2⟩ := leaveK_con hK (P := P) (S := S) h'
        injection g0 with g0
        subst g0
        rw [exK_eq] at e
        refine fin _ _ ?_ e
        rw [g1]
        exact h.post g2
  | cond q c d ihc ihd =>
    intro n m s R k z hok hall e
    simp only [codeOK, Bool.and_eq_true] at hok
    simp only [runJK] at e
    have hc : ∀ i d', (loopsOf c)[i]? = some d' → all[n + i]? = some d' := fun i d' h => hall i d' (by
      simp only [loopsOf]
      rw [List.getElem?_append_left (List.getElem?_eq_some_iff.1 h).1]
      exact h)
    have hd : ∀ i d', (loopsOf d)[i]? = some d' → all[n + nloops c + i]? = some d' := fun i d' h => by
      have := hall (nloops c + i) d' (by
        simp only [loopsOf]
        rw [List.getElem?_append_right (by rw [nloops_length]; omega), nloops_length, Nat.add_sub_cancel_left]
        exact h)
      rw [Nat.add_assoc]
      exact this
    split at e
    · rename_i tb hav
      have fin : cond tb (runJK E tk cs ls js c n m s R k) (runJK E tk cs ls js d (n + nloops c) (m + nseqs c) s R k) = some z → ∃ x t, CodeCon P E S (.cond q c d) s x t ∧ k x t = some z := by
        intro e
        cases tb with
        | true =>
          simp only [cond_true] at e
          obtain ⟨x, t, h, h'⟩ := ihc _ _ s R k z hok.1 hc e
          refine ⟨x, t, fun w0 Rt B Ds I0 I L a w hW hs Q hQ => ?_, h'⟩
          have hq := hs.eval q
          rw [hav] at hq
          simp only [Rep] at hq
          exact wp_cond_true hq (h w0 Rt B Ds I0 I L a w hW hs Q hQ)
        | false =>
          simp only [cond_false] at e
          obtain ⟨x, t, h, h'⟩ := ihd _ _ s R k z hok.2 hd e
          refine ⟨x, t, fun w0 Rt B Ds I0 I L a w hW hs Q hQ => ?_, h'⟩
          have hq := hs.eval q
          rw [hav] at hq
          simp only [Rep] at hq
          exact wp_cond_false hq (h w0 Rt B Ds I0 I L a w hW hs Q hQ)
      split at e
      · rename_i d
        have hq' : s.env.getD d .top = .v (.bool tb) := hav
        refine fin ?_
        cases tb
        · simp only [cond_false] at e ⊢; rw [setB_self hq'] at e; exact e
        · simp only [cond_true] at e ⊢; rw [setB_self hq'] at e; exact e
      · exact fin e
    · cases e
  | block id c ih =>
    intro n m s R k z hok hall e
    simp only [codeOK] at hok
    simp only [runJK] at e
    obtain ⟨x, t, h, h'⟩ := ih _ _ s R _ z hok hall e
    cases x with
    | normal =>
      refine ⟨.normal, t, fun w0 Rt B Ds I0 I L a w hW hs Q hQ => ?_, h'⟩
      exact wp_block (h w0 Rt B Ds I0 I L a w hW hs _ fun I' L' a' w' hs' => hQ I' L' a' w' hs')
    | exit id' =>
      simp only at h'
      by_cases hi : id' = id
      · rw [if_pos hi] at h'
        refine ⟨.normal, t, fun w0 Rt B Ds I0 I L a w hW hs Q hQ => ?_, h'⟩
        refine wp_block (h w0 Rt B Ds I0 I L a w hW hs _ fun I' L' a' w' hs' => ?_)
        simp only [AX.toExit, Exit.inBlock]
        rw [if_pos hi]
        exact hQ I' L' a' w' hs'
      · rw [if_neg hi] at h'
        refine ⟨.exit id', t, fun w0 Rt B Ds I0 I L a w hW hs Q hQ => ?_, h'⟩
        refine wp_block (h w0 Rt B Ds I0 I L a w hW hs _ fun I' L' a' w' hs' => ?_)
        simp only [AX.toExit, Exit.inBlock]
        rw [if_neg hi]
        exact hQ I' L' a' w' hs'
    | ret =>
      refine ⟨.ret, t, fun w0 Rt B Ds I0 I L a w hW hs Q hQ => ?_, h'⟩
      exact wp_block (h w0 Rt B Ds I0 I L a w hW hs _ fun I' L' a' w' hs' => hQ I' L' a' w' hs')
  | scope c ih =>
    intro n m s R k z hok hall e
    simp only [codeOK] at hok
    simp only [runJK] at e
    obtain ⟨x, t, h, h'⟩ := ih _ _ s R k z hok hall e
    refine ⟨x, t, fun w0 Rt B Ds I0 I L a w hW hs Q hQ => ?_, h'⟩
    refine wp_scope_straight (h w0 Rt B Ds I0 I L a w hW hs _ fun I' L' a' w' hs' => ?_)
    have := hQ I' L' a' w' hs'
    cases x <;> exact this
  | label l =>
    intro n m s R k z _ _ e
    exact ⟨.normal, s, fun w0 Rt B Ds I0 I L a w hW hs Q hQ => wp_label (hQ I L a w hs), e⟩
  | loop c _ =>
    intro n m s R k z _ hall e
    simp only [runJK] at e
    rw [loopKt_eq E tk cs] at e
    cases hr : loopT E tk (callT E cs) ls n s with
    | none => rw [hr] at e; cases e
    | some p =>
      obtain ⟨x, t⟩ := p
      rw [hr] at e
      exact ⟨x, t, loopT_con hK (call := callT E cs) hls n c s x t (by have := hall 0 c rfl; simpa using this) hr, e⟩
  | exit id =>
    intro n m s R k z _ _ e
    exact ⟨.exit id, s, fun w0 Rt B Ds I0 I L a w hW hs Q hQ => wp_exit (hQ I L a w hs), e⟩
  | ret =>
    intro n m s R k z _ _ e
    exact ⟨.ret, s, fun w0 Rt B Ds I0 I L a w hW hs Q hQ => wp_ret (hQ I L a w hs), e⟩
  | _ => intro n m s R k z _ _ e; simp only [runJK] at e; cases e

/-- A LOOP -/
theorem loop_specJ (hE : EnvOK P E) (hm : P.follows .mixedOrders = true) (hK : KindsOK E tk) {cs : List (CallSpec E)} (hcs : CallsOK P E S cs) {all : List Code} {ls : List (LoopSpec E tk)} (hls : LoopsOK P E S tk all ls) {js : Joins} {i : Nat} {body : Code} {head : List Slot} {ex : List (AX × List Slot)}
    (hok : codeOK body = true) (hin : ∀ j d, (loopsOf body)[j]? = some d → all[i + 1 + j]? = some d) (g : Nat → StV E tk head → Option (ExTy E tk ex)) (h0 : ∀ x, g 0 x = none) (hs : ∀ n x, g (n + 1) x = loopBodyJK E tk cs ls js i body head ex (g n) x) :
    ∀ n x y, g n x = some y → LoopCon P E S body (encSlots E tk head x) (encEx E tk ex y).1 (encEx E tk ex y).2 := by
  intro n
  induction n with
  | zero => intro x y e; rw [h0] at e; cases e
  | succ n ih =>
    intro x y e
    rw [hs] at e
    unfold loopBodyJK at e
    obtain ⟨z, s, hcode, e⟩ := runJK_sound hE hm hK hcs hls body (i + 1) 0 _ _ _ y hok hin e
    have hleave : ∀ z', z' ≠ AX.normal → z = z' → leaveK E tk cs ex z' s some = some y → LoopCon P E S body (encSlots E tk head x) (encEx E tk ex y).1 (encEx E tk ex y).2 := by
      intro z' hne hz hl
      obtain ⟨y', h0, h1, h2⟩ := leaveK_con hK (P := P) (S := S) hl
      injection h0 with h0
      subst h0
      rw [h1, ← hz]
      exact .leave (hcode.post h2) (by rw [hz]; exact hne)
    cases z with
    | normal =>
      simp only at e
      rw [HM.runK_eq (callKt_eq E cs)] at e
      cases hd : (decSlots E tk head s).run (callT E cs) s.rd with
      | none => rw [hd] at e; cases e
      | some q =>
        obtain ⟨x', rs⟩ := q
        rw [hd] at e
        simp only [Option.bind_some] at e
        exact .again (hcode.post (decSlots_ref hK hd)) (ih x' y e)
    | exit id => exact hleave (.exit id) (by simp) rfl e
    | ret => exact hleave .ret (by simp) rfl e

/-- A FUNCTION, by what its code comes to -/
theorem fn_soundC (hE : EnvOK P E) {call : CallF} {f : FuncId} {fi : FnI} (hf : E.fn f = some fi)
    {args : List AV} {bs : List Blk} {x : AX} {t : St} (hx : ∀ id, x ≠ .exit id)
    (hcode : CodeCon P E S fi.body (entryT E (E.ks f) fi args bs) x t) {rs : List Slot} {y : StV E (E.ks f) rs} {us : List Nat} (e' : (finA E (E.ks f) fi rs t).run call t.rd = some (y, us)) :
    ∀ b0, Con P E S f args bs b0 (packA (encEnv rs b0 y.2)) (encTabs E.kinds (E.ks f) y.1) (encHeap rs b0 y.2) := by
  intro b0 w I L Rt B vs hW hb0 hs
  obtain ⟨fn, hfn, hbody, hnt, hres, _⟩ := hE.fn f fi hf
  have hlen : args.length = vs.size := by
    have := hs.env.length
    simpa using this.symm
  have hs0 : Sim ⟨P, E, S, w, I, Rt, B, []⟩ I L (entryT E (E.ks f) fi args bs) { tmps := vs ++ Array.replicate (fn.ntmps - vs.size) undef, defers := [] } w := by
    refine ⟨?_, rfl, hs.blk, hs.dom, hs.own, hs.inj, hs.imm, hs.i0, hs.iN, hs.same, hs.fix, hs.bx, hs.grow, hs.io⟩
    simp only [entryT, Array.toList_append, Array.toList_replicate]
    refine hs.env.append ?_
    rw [hlen, hnt]
    generalize fi.ntmps - vs.size = n
    induction n with
    | zero => simp [RepL]
    | succ n ih => simp only [List.replicate_succ, RepL]; exact ⟨_, _, rfl, by simp [Rep], ih⟩
  refine calls_of_wp hfn hbody (hcode w Rt B [] I I L _ w hW hs0 _ fun I' L' a' w' h' => ?_)
  unfold finA at e'
  obtain ⟨l, q1, q2, hl, eq, rfl⟩ := HM.run_bind e'
  obtain ⟨us, hrun, hrep⟩ := resA_sound h' hE hW hl
  have h2 : Sim ⟨P, E, S, w, I, Rt, B, []⟩ I' L' ⟨l, t.heap⟩ { tmps := us.toArray, defers := [] } w' :=
    ⟨hrep, rfl, h'.blk, h'.dom, h'.own, h'.inj, h'.imm, h'.i0, h'.iN, h'.same, h'.fix, h'.bx, h'.grow, h'.io⟩
  obtain ⟨hnd, hlt⟩ := hE.ks f
  obtain ⟨I2, L2, h3⟩ := dec_sim h2 hb0 hnd hlt eq
  have hmap : (fn.results.mapM (resOne a'.tmps)).run P w' = .ok us.toArray w' := by
    have h0 := hrun
    rw [← hres] at h0
    rw [Array.mapM_eq_mapM_toList, Sem.run_map, h0]
    rfl
  have hpost : a'.defers = [] ∧ ∃ v, (results fn a'.tmps).run P w' = .ok v w' ∧ ∃ I' L', Sim ⟨P, E, S, w, I, Rt, B, []⟩ I' L' ⟨[packA (encEnv rs b0 y.2)], outH E (E.ks f) (encTabs E.kinds (E.ks f) y.1) b0 (encHeap rs b0 y.2)⟩ { tmps := #[v], defers := [] } w' := by
    refine ⟨h'.defers, if h : us.toArray.size = 1 then us.toArray[0] else .tuple us.toArray, ?_, I2, L2, ?_, rfl, h3.blk, h3.dom, h3.own, h3.inj, h3.imm, h3.i0, h3.iN, h3.same, h3.fix, h3.bx, h3.grow, h3.io⟩
    · rw [results_eq]
      simp only [Sem.run_bind, hmap, Result.andThen_ok, Sem.run_pure]
    · have hrep3 := h3.env
      simp only [encAt] at hrep3
      generalize encEnv rs b0 y.2 = l' at hrep3
      simp only [RepL]
      refine ⟨_, [], rfl, ?_, rfl⟩
      cases l' with
      | nil =>
        simp only [RepL] at hrep3
        have hrep3 : us = [] := hrep3
        subst hrep3
        simp [packA, Rep, RepL]
      | cons y tl =>
        cases tl with
        | nil =>
          simp only [RepL] at hrep3
          obtain ⟨u, t0, hu0, hu, rfl⟩ := hrep3
          have hu0 : us = [u] := hu0
          subst hu0
          exact hu
        | cons z tl =>
          have hl2 := hrep3.length
          have : us.toArray.size ≠ 1 := by simp at hl2 ⊢; omega
          simp only [packA, Rep, dif_neg this]
          exact ⟨us.toArray, rfl, hrep3⟩
  cases x with
  | normal => exact hpost
  | ret => exact hpost
  | exit id => exact absurd rfl (hx id)

/-- A FUNCTION -/
theorem fun_specA (hE : EnvOK P E) (hm : P.follows .mixedOrders = true) {cs : List (CallSpec E)} (hcs : CallsOK P E S cs) {f : FuncId} {fi : FnI} (hf : E.fn f = some fi) {ls : List (LoopSpec E (E.ks f))} (hls : LoopsOK P E S (E.ks f) (loopsOf fi.body) ls) {js : Joins}
    (hok : codeOK fi.body = true) {args : List AV} {bs : List Blk} {rs : List Slot} {y : StV E (E.ks f) rs} (e : funJKA E (E.ks f) cs ls js fi args bs rs = some y) :
    ∀ b0, Con P E S f args bs b0 (packA (encEnv rs b0 y.2)) (encTabs E.kinds (E.ks f) y.1) (encHeap rs b0 y.2) := by
  unfold funJKA at e
  obtain ⟨z, s, hcode, e⟩ := runJK_sound hE hm (hE.ks f) hcs hls fi.body 0 0 _ _ _ y hok (fun i d h => by simpa using h) e
  have fin : (∀ id, z ≠ .exit id) → (finA E (E.ks f) fi rs s).runK (callKt E cs) s.rd [] (fun y _ => some y) = some y → ∀ b0, Con P E S f args bs b0 (packA (encEnv rs b0 y.2)) (encTabs E.kinds (E.ks f) y.1) (encHeap rs b0 y.2) := by
    intro hz e
    rw [HM.runK_eq (callKt_eq E cs)] at e
    cases hd : (finA E (E.ks f) fi rs s).run (callT E cs) s.rd with
    | none => rw [hd] at e; cases e
    | some q =>
      obtain ⟨r, l⟩ := q
      rw [hd] at e
      simp only [Option.bind_some, Option.some.injEq] at e
      subst e
      exact fn_soundC hE hf hz hcode hd
  cases z with
  | normal => exact fin (by simp) e
  | ret => exact fin (by simp) e
  | exit id => cases e

theorem fun_specJ (hE : EnvOK P E) (hm : P.follows .mixedOrders = true) {cs : List (CallSpec E)} (hcs : CallsOK P E S cs) {f : FuncId} {fi : FnI} (hf : E.fn f = some fi) {ls : List (LoopSpec E (E.ks f))} (hls : LoopsOK P E S (E.ks f) (loopsOf fi.body) ls) {js : Joins}
    (hok : codeOK fi.body = true) {ps : List Ty} {rs : List Slot} {x : Val (tabsTy E.kinds (E.ks f)) × Val (rowTy ps)} {y : StV E (E.ks f) rs} (e : funJK E (E.ks f) cs ls js fi ps rs x = some y) : FCon P E S f ps rs x y :=
  fun_specA hE hm hcs hf hls hok e

end
end Go.Eng

/-
  The abstract machine, part 25: the world at a call's beginning; what a row asks at its end.
-/
namespace Go.Eng

/-- an error as errors.New makes it -/
def errD (nm : String) (text : List UInt8) : DataW Unit := .iface nm (.ptr (.agg [.lit (.string text)]))

def laidOf (nm : String) (ns : List (String × List UInt8 × Nat)) : List (String × DataW Unit) := ns.map fun x => (x.1, errD nm x.2.1)

/-- where the error lies that a variable holds -/
def errAt (w : World) (g : Nat) : Addr := match w.heap[g]? with
  | some (.cells cs _ _) => match cs.toList with
    | [.iface _ (.pointer (some a))] => a
    | _ => ⟨0, 0, none⟩
  | _ => ⟨0, 0, none⟩

/-- what a program is to have for its errors -/
structure ErrsOK (P : Program) (nm : String) (ti tp te ts : TypeId) : Prop where
  hi : ∃ ms, P.underlying ti = some (.interface ms)
  hrow : ∀ u, P.typeName? 3 u = some nm → u = tp
  hp : P.underlying tp = some (.pointer te)
  he : ∃ f : Field, P.underlying te = some (.struct #[f]) ∧ f.type = ts ∧ f.offset = 0
  hs : P.underlying ts = some .string
  hc : P.cellsOf te = 1
  hcs : P.cellsOf ts = 1
  info : ∃ i j, P.info? tp = some i ∧ i.comparable = true ∧ P.info? te = some j ∧ j.size ≠ 0

section
variable {P : Program} {nm : String} {ti tp te ts : TypeId}

theorem laid_errs (hO : ErrsOK P nm ti tp te ts) {W : World} : ∀ {ns : List (String × List UInt8 × Nat)} {ps : List MemPlace}, DataW.LaidVars P W (laidOf nm ns) ps →
    (∀ x, x ∈ ns → P.globalNamed x.1 = some x.2.2 ∧ (P.globals[x.2.2]?).map (·.type) = some ti) →
    (∀ b off, MemPlace.cell b off ∈ ps → (∃ c t, W.heap[b]? = some (.cells c t (0, 0))) ∧ ∀ u v, W.cell? ⟨b, off, none⟩ = some (.iface u v) → Value.okWide P W .any 0 u v) → ps.Nodup →
    (∀ x, x ∈ ns → (∃ T fz, W.heap[x.2.2]? = some (.cells #[.iface tp (.pointer (some (errAt W x.2.2)))] T fz)) ∧ MemPlace.cell (errAt W x.2.2).block (errAt W x.2.2).off ∈ ps) ∧
    (∀ x y, x ∈ ns → y ∈ ns → x.2.2 ≠ y.2.2 → errAt W x.2.2 ≠ errAt W y.2.2)
  | [], ps, _, _, _, _ => ⟨fun x hx => by simp at hx, fun x y hx => by simp at hx⟩
  | z :: ns, ps, h, hg, hrows, hnd => by
    obtain ⟨g0, t0, cs0, f0, p0, q0, hg0, ht0, hv0, hd0, hrest, e0⟩ := h
    obtain ⟨hz, hzt⟩ := hg z (by simp)
    have hg0 : P.globalNamed z.1 = some g0 := hg0
    obtain rfl := Option.some.inj (hz.symm.trans hg0)
    obtain rfl := Option.some.inj (hzt.symm.trans ht0)
    subst e0
    obtain ⟨l0⟩ := cs0
    have ok0 : ∀ u v, l0 = [.iface u v] → Value.okWide P W .any 0 u v := fun u v e => by
      subst e
      exact (hrows z.2.2 0 (by simp [MemPlace.row])).2 u v (by simpa using World.var?_cell hz hv0 0)
    obtain ⟨ms, hi⟩ := hO.hi
    obtain ⟨f, he, hft, hfo⟩ := hO.he
    obtain ⟨a0, s0, rfl, hc0, hs0, hz0, rfl⟩ := errorString_of_trod hi hO.hrow hO.hp he hft hfo hO.hs hO.hc hO.hcs hd0 ok0
    have hnd' := List.nodup_append.1 hnd
    obtain ⟨h1, h2⟩ := laid_errs hO (ns := ns) hrest (fun x hx => hg x (by simp [hx])) (fun b off hb => hrows b off (List.mem_append_right _ hb)) hnd'.2.1
    obtain ⟨T0, fz0, hh0⟩ : ∃ T fz, W.heap[z.2.2]? = some (.cells #[.iface tp (.pointer (some a0))] T fz) := by
      unfold World.var? at hv0
      rw [hz] at hv0
      simp only [Option.bind_some] at hv0
      split at hv0
      · rename_i cs T fz hh
        injection hv0 with hv0
        subst hv0
        exact ⟨T, fz, hh⟩
      · cases hv0
    have ha : errAt W z.2.2 = a0 := by simp [errAt, hh0]
    have hmem : MemPlace.cell a0.block a0.off ∈ MemPlace.row ⟨z.2.2, 0, none⟩ (#[Value.iface tp (.pointer (some a0))]).size ++ MemPlace.row a0 1 := List.mem_append_right _ (by simp [MemPlace.row])
    have hne : ∀ y, y ∈ ns → errAt W z.2.2 ≠ errAt W y.2.2 := by
      intro y hy e
      obtain ⟨_, hm⟩ := h1 y hy
      rw [← e, ha] at hm
      exact hnd'.2.2 _ hmem _ hm rfl
    refine ⟨fun x hx => ?_, fun x y hx hy hxy => ?_⟩
    · rcases List.mem_cons.1 hx with rfl | hx
      · rw [ha]
        exact ⟨⟨T0, fz0, hh0⟩, List.mem_append_left _ hmem⟩
      · obtain ⟨g1, g2⟩ := h1 x hx
        exact ⟨g1, List.mem_append_right _ g2⟩
    · rcases List.mem_cons.1 hx with hx | hx <;> rcases List.mem_cons.1 hy with hy | hy
      · rw [hx, hy] at hxy; exact absurd rfl hxy
      · rw [hx]; exact hne y hy
      · rw [hy]; exact fun e => hne x hx e.symm
      · exact h2 x y hx hy hxy

/-- what is so from the beginning -/
def iniOf (W : World) : Ini := ⟨errAt W, fun b => b < W.heap.size⟩

/-- THE WORLD AT A CALL's BEGINNING is as the machine takes it to be. -/
theorem laid_wok (hO : ErrsOK P nm ti tp te ts) {E : Env} {ns : List (String × List UInt8 × Nat)} (hg : ∀ x, x ∈ ns → P.globalNamed x.1 = some x.2.2 ∧ (P.globals[x.2.2]?).map (·.type) = some ti)
    (hglob : ∀ g row, E.glob g = some row → row = [.er (.s g)] ∧ ∃ x, x ∈ ns ∧ x.2.2 = g) (ht : E.errT = tp) (hne : E.atT ≠ E.errT) {W : World} (h : laidMet P (laidOf nm ns) W) : WOK P E (iniOf W) W := by
  obtain ⟨ps, hl, hnd, hrows⟩ := h
  obtain ⟨h1, h2⟩ := laid_errs hO hl hg hrows hnd
  refine ⟨fun g row hr => ?_, fun w' hw t ms hms g g' hg1 hg2 => ?_, hne⟩
  · obtain ⟨rfl, x, hx, rfl⟩ := hglob g row hr
    obtain ⟨⟨T, fz, hh⟩, _⟩ := h1 x hx
    refine ⟨lt_of_heap hh, _, T, fz, hh, ?_⟩
    simp only [RepL, Rep, RepE]
    exact ⟨_, [], rfl, ⟨hr, by show _ = Value.iface E.errT _; rw [ht]; rfl⟩, rfl⟩
  · obtain ⟨_, x, hx, rfl⟩ := hglob g _ hg1
    obtain ⟨_, y, hy, rfl⟩ := hglob g' _ hg2
    obtain ⟨i, j, hinfo, hcomp, hte, hsz⟩ := hO.info
    rw [ht]
    by_cases e : x.2.2 = y.2.2
    · rw [e, decide_eq_true rfl]
      exact run_equalIn_iface_ptr_same w' 9998 _ hms hO.hp hinfo hcomp hte
    · rw [decide_eq_false e]
      obtain ⟨c1, T1, hc1⟩ := (hrows _ _ (h1 x hx).2).1
      obtain ⟨c2, T2, hc2⟩ := (hrows _ _ (h1 y hy).2).1
      refine run_equalIn_iface_ptr_other (ca := c1) (cb := c2) (ta := T1) (tb := T2) w' 9998 hms hO.hp hinfo hcomp hte hsz (h2 x y hx hy e) ?_ ?_
      · exact (hw _ (lt_of_heap hc1)).trans hc1
      · exact (hw _ (lt_of_heap hc2)).trans hc2

end

/-- tables of nothing -/
def noT (ks : List (List Cell)) : (tk : List Nat) → Val (tabsTy ks tk)
  | [] => ()
  | k :: r => (([] : List (Val (rowsTy (ks.getD k [])))), noT ks r)

theorem entryH_none {E : Env} {tk : List Nat} {k : Nat} {b : Blk} (h : (entryH E tk (encTabs E.kinds tk (noT E.kinds tk)))[k]? = some (some b)) : ∃ cs, b = tab0 cs := by
  have key : ∀ (tk : List Nat) (h0 : List (Option Blk)), (∀ (k : Nat) (b : Blk), h0[k]? = some (some b) → ∃ cs, b = tab0 cs) → ∀ (k : Nat) (b : Blk), (putK h0 tk (encTabs E.kinds tk (noT E.kinds tk)))[k]? = some (some b) → ∃ cs, b = tab0 cs := by
    intro tk
    induction tk with
    | nil => intro h0 hh k b hb; exact hh k b (by simpa only [encTabs, putK] using hb)
    | cons k0 r ih =>
      intro h0 hh k b hb
      simp only [encTabs, noT, putK] at hb
      refine ih _ (fun k b hb => ?_) k b hb
      rw [List.getElem?_set] at hb
      split at hb
      · split at hb
        · simp only [Option.some.injEq] at hb
          exact ⟨_, hb.symm⟩
        · cases hb
      · exact hh k b hb
  refine key tk _ (fun k b hb => ?_) k b h
  rw [List.getElem?_map] at hb
  obtain ⟨cs, _, e⟩ := Option.map_eq_some_iff.1 hb
  injection e with e
  exact ⟨cs, e.symm⟩

/-- A LAW's CALL -/
theorem law_call {P : Program} {E : Env} {W : World} {f : FuncId} {as : List AV} {vs : Array Value} (hW : WOK P E (iniOf W) W) (hargs : RepL (rcW (statOf E (iniOf W)) (fun b => b < W.heap.size) noL W) noL as vs.toList)
    {b : Bool} {ts : List Blk} (hC : Con P E (iniOf W) f as (encTabs E.kinds (E.ks f) (noT E.kinds (E.ks f))) E.kinds.length (.v (.bool b)) ts []) : Calls P f vs W fun e W' => e = .returned (.bool b) ∧ RowKit.Below W.heap.size W W' := by
  obtain ⟨L, hL⟩ : ∃ L : Ref → Option Pl, L = fun | .l id => if id < E.kinds.length then some ⟨0, 0, 0, 0, 0, true⟩ else none | .o _ _ _ => none := ⟨_, rfl⟩
  have hLl : ∀ id, id < E.kinds.length → L (.l id) = some ⟨0, 0, 0, 0, 0, true⟩ := fun id h => by rw [hL]; exact if_pos h
  have hLn : ∀ id p, L (.l id) = some p → id < E.kinds.length ∧ p.virt = true := fun id p h => by
    rw [hL] at h
    simp only at h
    split at h
    · rename_i hlt
      injection h with h
      subst h
      exact ⟨hlt, rfl⟩
    · cases h
  have hLo : ∀ k i q, L (.o k i q) = none := fun k i q => by rw [hL]
  have hlen : ∀ id b, (entryH E (E.ks f) (encTabs E.kinds (E.ks f) (noT E.kinds (E.ks f))))[id]? = some (some b) → id < E.kinds.length := fun id b h => by
    have := (List.getElem?_eq_some_iff.1 h).1
    rw [entryH_length] at this
    exact this
  have hs : Sim ⟨P, E, iniOf W, W, (fun b => b < W.heap.size), (fun _ => False), fun _ _ => none, []⟩ (fun b => b < W.heap.size) L ⟨as, entryH E (E.ks f) (encTabs E.kinds (E.ks f) (noT E.kinds (E.ks f)))⟩ { tmps := vs, defers := [] } W := by
    refine ⟨?_, rfl, fun r x hx => ?_, fun r p hp => ?_, fun r p hp hv => ?_, fun r r' p p' hp hp' hv hv' hb => ?_, fun b hb => hb, fun b hb => hb, fun b hb => .inl hb, fun b _ _ => rfl, fun b hb => ⟨hb, fun h => h⟩, (fun k i p hp => by cases hp), Nat.le_refl _, IO.refl W⟩
    · have hr : RLe (rcW (statOf E (iniOf W)) (fun b => b < W.heap.size) noL W) (rcW (statOf E (iniOf W)) (fun b => b < W.heap.size) L W) := ⟨fun _ h => h, fun _ _ _ => rfl, rfl, (fun k i b hb => by simp [rcW, hOf] at hb)⟩
      show RepL (rcW (statOf E (iniOf W)) (fun b => b < W.heap.size) L W) L as vs.toList
      exact hargs.mono hr (fun _ _ e => by cases e)
    · cases r with
      | l id =>
        have hx' := rdv_l.1 hx
        obtain ⟨cs, rfl⟩ := entryH_none hx'
        exact ⟨_, hLl id (hlen id _ hx'), ⟨rfl, rfl⟩, fun _ hv => by cases hv⟩
      | o k i q =>
        exfalso
        simp only [rdv] at hx
        split at hx
        · rename_i b hb
          obtain ⟨cs, rfl⟩ := entryH_none hb
          simp [tab0] at hx
        · cases hx
    · cases r with
      | l id =>
        obtain ⟨hlt, _⟩ := hLn id p hp
        have hl2 : id < (entryH E (E.ks f) (encTabs E.kinds (E.ks f) (noT E.kinds (E.ks f)))).length := by rw [entryH_length]; exact hlt
        have key : ∀ (tk : List Nat) (bs : List Blk) (h0 : List (Option Blk)), (∀ o, o ∈ h0 → o.isSome = true) → ∀ o, o ∈ putK h0 tk bs → o.isSome = true := by
          intro tk
          induction tk with
          | nil => intro bs h0 hh o ho; exact hh o (by simpa only [putK] using ho)
          | cons k0 r ih =>
            intro bs h0 hh o ho
            cases bs with
            | nil => exact hh o (by simpa only [putK] using ho)
            | cons b0 bs =>
              simp only [putK] at ho
              refine ih bs _ (fun o ho => ?_) o ho
              rcases List.mem_or_eq_of_mem_set ho with ho | rfl
              · exact hh o ho
              · rfl
        have := key (E.ks f) (encTabs E.kinds (E.ks f) (noT E.kinds (E.ks f))) (E.kinds.map fun cs => some (tab0 cs)) (fun o ho => by
          obtain ⟨cs, _, rfl⟩ := List.mem_map.1 ho
          rfl) _ (List.getElem_mem hl2)
        obtain ⟨b, hb⟩ := Option.isSome_iff_exists.1 this
        exact ⟨b, rdv_l.2 (by rw [List.getElem?_eq_getElem hl2]; exact congrArg some hb)⟩
      | o k i q => rw [hLo] at hp; cases hp
    · cases r with
      | l id => rw [(hLn id p hp).2] at hv; cases hv
      | o k i q => rw [hLo] at hp; cases hp
    · cases r with
      | l id => rw [(hLn id p hp).2] at hv; cases hv
      | o k i q => rw [hLo] at hp; cases hp
  refine (hC W _ L _ _ vs hW (Nat.le_refl _) hs).mono fun e W' he => ?_
  cases e with
  | returned v =>
    obtain ⟨I', L', h'⟩ := he
    have hr := h'.env
    simp only [RepL, Rep] at hr
    obtain ⟨y, t, e1, rfl, rfl⟩ := hr
    have e1 : v = .bool b := by simpa using e1
    subst e1
    exact ⟨rfl, h'.io.1, h'.io.2.1, h'.io.2.2, h'.grow, fun b hb => h'.same b hb fun h => h⟩
  | panicked ch => exact he.elim
  | outgrown => exact he.elim

/-- all arguments read as they did -/
theorem trodAll_below {H : Type} {enc : TypeId × Value → H} {P : Program} (hl : laidOutB P = true) {W W' : World} (hb : RowKit.Below W.heap.size W W') : ∀ {ts : List TypeId} {vs : List Value} {ds : List (DataW H)} {ps : List MemPlace},
    (∀ t, t ∈ ts → P.readableRec t = true ∧ t < P.types.size) → (∀ x, x ∈ ps → x.block < W.heap.size) → DataW.TrodAll enc P W 0 (fun _ => true) true ts vs ds ps → DataW.TrodAll enc P W' 0 (fun b => decide (b < W.heap.size)) true ts vs ds ps
  | [], vs, ds, ps, _, _, h => by
    obtain ⟨rfl, rfl, rfl⟩ := ChangeShapes.trodAll_nil h
    rfl
  | t :: ts, vs, ds, ps, ht, hp, h => by
    obtain ⟨v, vs', d, ds', p, q, rfl, rfl, rfl, h1, h2⟩ := ChangeShapes.trodAll_cons h
    exact ⟨p, q, RowKit.Below.trod hl (ht t (by simp)).1 (ht t (by simp)).2 h1 hb (fun x hx => hp x (List.mem_append_left _ hx)), trodAll_below hl hb (fun t h => ht t (by simp [h])) (fun x hx => hp x (List.mem_append_right _ hx)) h2, rfl⟩

end Go.Eng

/-
  The abstract machine, part 26: the tables of a program.
-/
namespace Go.Eng

/-- is it a type's zero? what is left -/
def isZero (N : Names) : Ty → List AV → Option (List AV)
  | .int k, l => match l with
    | .v (.int k' n) :: r => match sameK k k', decide (n = 0) with
      | true, true => some r
      | _, _ => none
    | _ => none
  | .bool, l => match l with
    | .v (.bool false) :: r => some r
    | _ => none
  | .str, l => match l with
    | .v (.string s) :: r => match decide (s = ByteArray.empty) with
      | true => some r
      | false => none
    | _ => none
  | .flt, l => match l with
    | .v (.float .f64 n) :: r => match decide (n = 0) with
      | true => some r
      | false => none
    | _ => none
  | .err, l => match l with
    | .v .nilIface :: r => some r
    | _ => none
  | .unit, l => some l
  | .pair a b, l => match isZero N a l with
    | some r => isZero N b r
    | none => none
  | .st a, l => isZero N a l
  | .sl _, l => match l with
    | .v (.slice none 0 0) :: r => some r
    | _ => none
  | .hd _, l => match l with
    | .v (.pointer none) :: r => some r
    | _ => none
  | _, _ => none

theorem isZero_sound (N : Names) : ∀ (u : Ty) {l r : List AV}, isZero N u l = some r → decT N u l = some (dfl u, r)
  | .int k, l, r, h => by
    simp only [isZero] at h
    split at h
    · split at h
      · rename_i k' n r' hk hn
        injection h with h
        subst h
        simp only [decT, decI, hk]
        rw [of_decide_eq_true hn]
        rfl
      · cases h
    · cases h
  | .bool, l, r, h => by
    simp only [isZero] at h
    split at h
    · injection h with h
      subst h
      rfl
    · cases h
  | .str, l, r, h => by
    simp only [isZero] at h
    split at h
    · split at h
      · rename_i s r' hs
        injection h with h
        subst h
        rw [of_decide_eq_true hs]
        rfl
      · cases h
    · cases h
  | .flt, l, r, h => by
    simp only [isZero] at h
    split at h
    · split at h
      · rename_i n r' hs
        injection h with h
        subst h
        rw [of_decide_eq_true hs]
        rfl
      · cases h
    · cases h
  | .err, l, r, h => by
    simp only [isZero] at h
    split at h
    · injection h with h
      subst h
      rfl
    · cases h
  | .unit, l, r, h => by
    simp only [isZero, Option.some.injEq] at h
    subst h
    rfl
  | .pair a b, l, r, h => by
    simp only [isZero] at h
    split at h
    · rename_i r' ha
      simp only [decT, isZero_sound N a ha, isZero_sound N b h]
      rfl
    · cases h
  | .st a, l, r, h => by
    simp only [isZero] at h
    simp only [decT]
    exact isZero_sound N a h
  | .sl a, l, r, h => by
    simp only [isZero] at h
    split at h
    · injection h with h
      subst h
      rfl
    · cases h
  | .hd a, l, r, h => by
    simp only [isZero] at h
    split at h
    · injection h with h
      subst h
      rfl
    · cases h
  | .nat, l, r, h => by simp [isZero] at h
  | .ref a, l, r, h => by simp [isZero] at h
  | .clo f a, l, r, h => by simp [isZero] at h

def tyFits (P : Program) (N : Names) (u : Option Ty) (d : TypeDesc) (i : TypeInfo) (z : Value) : Bool :=
  (match d with
    | .struct fs => fs.toList.all fun f => (P.info? f.type).isSome
    | _ => true) &&
  (match (descOf P d).isAgg, z with
    | true, .agg _ => true
    | true, _ => false
    | false, z => z.oneCell') &&
  decide (z.cells.size = i.size) && (z.cells.toList.map AV.v).all AV.isCell &&
  (match u with
    | some u => decide (u.size = i.size) && (match isZero N u (z.cells.toList.map AV.v) with
      | some [] => true
      | _ => false)
    | none => true)

/-- a type's row, off the program -/
def mkTy (P : Program) (N : Names) (t : TypeId) (u c : Option Ty) : Option TyI :=
  match P.underlying t, P.info? t with
  | some d, some i => match i.zero with
    | some z => match tyFits P N u d i z && (match c with | some v => decide (v.size = i.size) | none => true) with
      | true => some { desc := descOf P d, size := i.size, bytes := i.bytes, zero := z.cells.toList.map .v, ty := u, cty := c }
      | false => none
    | none => none
  | _, _ => none

theorem mkTy_ok {P : Program} {N : Names} {t : TypeId} {u cc : Option Ty} {ti : TyI} (h : mkTy P N t u cc = some ti) : ∃ d i z, TyOK P N t ti d i z := by
  unfold mkTy at h
  split at h
  · rename_i d i hd hi
    split at h
    · rename_i z hz
      split at h
      · rename_i hf
        injection h with h
        subst h
        simp only [tyFits, Bool.and_eq_true, decide_eq_true_eq] at hf
        obtain ⟨⟨⟨⟨⟨h1, h2⟩, h3⟩, h4⟩, h5⟩, h7⟩ := hf
        refine ⟨d, i, z, hd, rfl, ?_, hi, rfl, rfl, hz, rfl, ?_, ?_, ?_, h4, ?_, ?_⟩
        · intro fs hfs f hfm
          subst hfs
          simp only [List.all_eq_true] at h1
          exact h1 f hfm
        · intro ha
          simp only at ha
          rw [ha] at h2
          split at h2
          all_goals first | contradiction | exact ⟨_, rfl⟩ | (exact absurd h2 (by simp))
        · intro ha
          simp only at ha
          rw [ha] at h2
          split at h2
          all_goals first | contradiction | exact h2
        · simp [h3]
        · intro v hv
          simp only at hv
          subst hv
          simp only [Bool.and_eq_true, decide_eq_true_eq] at h5
          refine ⟨h5.1, ?_⟩
          have h6 := h5.2
          split at h6
          · rename_i hz
            exact isZero_sound N v hz
          · cases h6
        · intro v hv
          simp only at hv
          subst hv
          simpa using h7
      · cases h
    · cases h
  · cases h

def lookT (l : List (TypeId × TyI)) (t : TypeId) : Option TyI :=
  match l with
  | [] => none
  | x :: r => match Nat.beq x.1 t with
    | true => some x.2
    | false => lookT r t

theorem lookT_mem : ∀ {l : List (TypeId × TyI)} {t : TypeId} {ti : TyI}, lookT l t = some ti → (t, ti) ∈ l
  | [], _, _, h => by cases h
  | x :: r, t, ti, h => by
    simp only [lookT] at h
    split at h
    · rename_i hb
      injection h with h
      subst h
      rw [← Nat.eq_of_beq_eq_true hb]
      simp
    · exact List.mem_cons_of_mem _ (lookT_mem h)

/-- a function's row, off the program -/
def mkFn (P : Program) (fs : List FuncId) (f : FuncId) : Option FnI :=
  match fs.any (Nat.beq f) with
  | true => match P.funcs[f]? with
    | some fn => match fn.body with
      | some b => some { body := b, ntmps := fn.ntmps, results := fn.results.toList }
      | none => none
    | none => none
  | false => none

def lookG (l : List Nat) (g : Nat) : Option (List AV) := match l.any (Nat.beq g) with
  | true => some [.er (.s g)]
  | false => none

/-- the tables of a program -/
def mkEnv (P : Program) (N : Names) (tys : List (TypeId × TyI)) (fs : List FuncId) (gs : List Nat) : Env :=
  { toNames := N, ty := lookT tys, fn := mkFn P fs, glob := lookG gs }

theorem mkEnv_ok {P : Program} {N : Names} {tys : List (TypeId × TyI)} {fs : List FuncId} {gs : List Nat} (ht : ∀ x, x ∈ tys → mkTy P N x.1 x.2.ty x.2.cty = some x.2)
    (hf : ∀ f, f ∈ fs → ∀ fn, P.funcs[f]? = some fn → (fn.name == "runtime.NumGoroutine") = false) : EnvOK P (mkEnv P N tys fs gs) := by
  refine ⟨fun t ti h => ?_, fun f fi h => ?_, (fun f k h => by cases h), (fun f k h => by cases h), fun f => ⟨List.nodup_nil, fun k hk => (by cases hk)⟩⟩
  · exact mkTy_ok (ht _ (lookT_mem h))
  · simp only [mkEnv, mkFn] at h
    split at h
    · rename_i hm
      split at h
      · rename_i fn hfn
        split at h
        · rename_i b hb
          injection h with h
          subst h
          simp only [List.any_eq_true] at hm
          obtain ⟨g, hg, hb2⟩ := hm
          have := Nat.eq_of_beq_eq_true hb2
          subst this
          exact ⟨fn, hfn, hb, rfl, rfl, hf _ hg fn hfn⟩
        · cases h
      · cases h
    · cases h

/-- … with functions of the library without a body -/
def lookX : List (FuncId × ExtK) → FuncId → Option ExtK
  | [], _ => none
  | x :: r, f => match Nat.beq x.1 f with
    | true => some x.2
    | false => lookX r f
def mkEnvX (P : Program) (N : Names) (tys : List (TypeId × TyI)) (fs : List FuncId) (gs : List Nat) (xs : List (FuncId × ExtK)) : Env :=
  { mkEnv P N tys fs gs with ext := lookX xs }
inductive ExtsOK (P : Program) : List (FuncId × ExtK) → Prop
  | nil : ExtsOK P []
  | cons {x : FuncId × ExtK} {r : List (FuncId × ExtK)} : ExtOK P x.1 x.2 → ExtsOK P r → ExtsOK P (x :: r)
theorem lookX_ok {P : Program} : ∀ {xs : List (FuncId × ExtK)}, ExtsOK P xs → ∀ {f k}, lookX xs f = some k → ExtOK P f k
  | _, .nil, _, _, h => by cases h
  | _, .cons (x := x) hx hr, f, k, h => by
    simp only [lookX] at h
    split at h
    · rename_i hb
      have := Nat.eq_of_beq_eq_true hb
      subst this
      injection h with h
      subst h
      exact hx
    · exact lookX_ok hr h
theorem mkEnvX_ok {P : Program} {N : Names} {tys : List (TypeId × TyI)} {fs : List FuncId} {gs : List Nat} {xs : List (FuncId × ExtK)} (h : EnvOK P (mkEnv P N tys fs gs)) (hx : ExtsOK P xs) : EnvOK P (mkEnvX P N tys fs gs xs) :=
  ⟨h.ty, h.fn, fun _ _ e => lookX_ok hx e, h.lst, h.ks⟩

/-- … with objects: the kinds' rows; which types' variables are objects; whose objects functions see -/
def lookK : List (TypeId × Nat) → TypeId → Option Nat
  | [], _ => none
  | x :: r, t => match Nat.beq x.1 t with
    | true => some x.2
    | false => lookK r t
def lookS : List (FuncId × List Nat) → FuncId → List Nat
  | [], _ => []
  | x :: r, f => match Nat.beq x.1 f with
    | true => x.2
    | false => lookS r f
def kindOf (ks : List (List Cell)) (kts : List (TypeId × Nat)) (t : TypeId) : Option (Nat × List Cell) := match lookK kts t with
  | some k => some (k, ks.getD k [])
  | none => none
def lookL : List (FuncId × LstK) → FuncId → Option LstK
  | [], _ => none
  | x :: r, f => match Nat.beq x.1 f with
    | true => some x.2
    | false => lookL r f
inductive LstsOK (P : Program) : List (FuncId × LstK) → Prop
  | nil : LstsOK P []
  | cons {x : FuncId × LstK} {r : List (FuncId × LstK)} : (∃ fn, P.funcs[x.1]? = some fn ∧ fn.body.isNone = false ∧ (fn.name == "runtime.NumGoroutine") = false) → LstOK P x.1 x.2 → LstsOK P r → LstsOK P (x :: r)
theorem lookL_ok {P : Program} : ∀ {xs : List (FuncId × LstK)}, LstsOK P xs → ∀ {f k}, lookL xs f = some k → (∃ fn, P.funcs[f]? = some fn ∧ fn.body.isNone = false ∧ (fn.name == "runtime.NumGoroutine") = false) ∧ LstOK P f k
  | _, .nil, _, _, h => by cases h
  | _, .cons (x := x) hf hx hr, f, k, h => by
    simp only [lookL] at h
    split at h
    · rename_i hb
      have := Nat.eq_of_beq_eq_true hb
      subst this
      injection h with h
      subst h
      exact ⟨hf, hx⟩
    · exact lookL_ok hr h
def mkEnvK (P : Program) (N : Names) (tys : List (TypeId × TyI)) (fs : List FuncId) (gs : List Nat) (xs : List (FuncId × ExtK)) (kinds : List (List Cell)) (kts : List (TypeId × Nat)) (kss : List (FuncId × List Nat)) (ls : List (FuncId × LstK)) : Env :=
  { mkEnvX P N tys fs gs xs with kind := kindOf kinds kts, kinds := kinds, ks := lookS kss, lst := lookL ls }
def kssOK (n : Nat) : List (FuncId × List Nat) → Bool
  | [] => true
  | x :: r => nodupN x.2 && x.2.all (fun k => Nat.blt k n) && kssOK n r
theorem nodupN_iff : ∀ {l : List Nat}, nodupN l = true → l.Nodup
  | [], _ => List.nodup_nil
  | x :: r, h => by
    simp only [nodupN, Bool.and_eq_true, Bool.not_eq_true'] at h
    rw [List.nodup_cons]
    refine ⟨fun hm => ?_, nodupN_iff h.2⟩
    rw [any_beq.2 hm] at h
    cases h.1
theorem lookS_ok {n : Nat} : ∀ {kss : List (FuncId × List Nat)}, kssOK n kss = true → ∀ f, (lookS kss f).Nodup ∧ ∀ k, k ∈ lookS kss f → k < n
  | [], _, f => ⟨List.nodup_nil, fun k hk => by cases hk⟩
  | x :: r, h, f => by
    simp only [kssOK, Bool.and_eq_true, List.all_eq_true] at h
    obtain ⟨⟨h1, h2⟩, h3⟩ := h
    simp only [lookS]
    split
    · exact ⟨nodupN_iff h1, fun k hk => Nat.le_of_ble_eq_true (h2 k hk)⟩
    · exact lookS_ok h3 f
theorem mkEnvK_ok {P : Program} {N : Names} {tys : List (TypeId × TyI)} {fs : List FuncId} {gs : List Nat} {xs : List (FuncId × ExtK)} {kinds : List (List Cell)} {kts : List (TypeId × Nat)} {kss : List (FuncId × List Nat)} {ls : List (FuncId × LstK)}
    (h : EnvOK P (mkEnvX P N tys fs gs xs)) (hk : kssOK kinds.length kss = true) (hl : LstsOK P ls) : EnvOK P (mkEnvK P N tys fs gs xs kinds kts kss ls) :=
  ⟨h.ty, h.fn, h.ext, fun _ _ e => lookL_ok hl e, lookS_ok hk⟩

theorem mkEnv_glob {P : Program} {N : Names} {tys : List (TypeId × TyI)} {fs : List FuncId} {gs : List Nat} {g : Nat} {row : List AV} (h : (mkEnv P N tys fs gs).glob g = some row) : row = [.er (.s g)] ∧ g ∈ gs := by
  simp only [mkEnv, lookG] at h
  split at h
  · rename_i hm
    injection h with h
    simp only [List.any_eq_true] at hm
    obtain ⟨g', hg, hb⟩ := hm
    rw [Nat.eq_of_beq_eq_true hb]
    exact ⟨by rw [← h, Nat.eq_of_beq_eq_true hb], hg⟩
  · cases h

theorem mkEnvK_glob {P : Program} {N : Names} {tys : List (TypeId × TyI)} {fs : List FuncId} {gs : List Nat} {xs : List (FuncId × ExtK)} {kinds : List (List Cell)} {kts : List (TypeId × Nat)} {kss : List (FuncId × List Nat)} {ls : List (FuncId × LstK)} {g : Nat} {row : List AV} (h : (mkEnvK P N tys fs gs xs kinds kts kss ls).glob g = some row) : row = [.er (.s g)] ∧ g ∈ gs := mkEnv_glob (P := P) (N := N) (tys := tys) (fs := fs) h

theorem mkEnvX_glob {P : Program} {N : Names} {tys : List (TypeId × TyI)} {fs : List FuncId} {gs : List Nat} {xs : List (FuncId × ExtK)} {g : Nat} {row : List AV} (h : (mkEnvX P N tys fs gs xs).glob g = some row) : row = [.er (.s g)] ∧ g ∈ gs := mkEnv_glob (P := P) (N := N) (tys := tys) (fs := fs) h

end Go.Eng

/-
  The abstract machine, part 27: tables of what is known, put together.
-/
namespace Go.Eng

/-! numbers cut to their kinds -/
abbrev wi8 (n : Int) : Int := IntKind.wrap .i8 n
abbrev wi16 (n : Int) : Int := IntKind.wrap .i16 n
abbrev wi32 (n : Int) : Int := IntKind.wrap .i32 n
abbrev wi64 (n : Int) : Int := IntKind.wrap .i64 n
abbrev wu8 (n : Int) : Int := IntKind.wrap .u8 n
abbrev wu16 (n : Int) : Int := IntKind.wrap .u16 n
abbrev wu32 (n : Int) : Int := IntKind.wrap .u32 n
abbrev wu64 (n : Int) : Int := IntKind.wrap .u64 n

section
variable {P : Program} {E : Env} {S : Ini}

theorem CallsOK.nil : CallsOK P E S [] := fun c h => by cases h
theorem CallsOK.cons {c : CallSpec E} {cs : List (CallSpec E)} (h : ∀ x y, c.g x = some y → FCon P E S c.f c.ps c.rs x y) (hs : CallsOK P E S cs) : CallsOK P E S (c :: cs) := by
  intro d hd
  rcases List.mem_cons.1 hd with rfl | hd
  · exact h
  · exact hs d hd

theorem LoopsOK.nil {tk : List Nat} {all : List Code} : LoopsOK P E S tk all [] := fun c h => by cases h
theorem LoopsOK.cons {tk : List Nat} {all : List Code} {l : LoopSpec E tk} {ls : List (LoopSpec E tk)} {body : Code} (hb : all[l.i]? = some body) (h : ∀ x y, l.g x = some y → LoopCon P E S body (encSlots E tk l.head x) (encEx E tk l.ex y).1 (encEx E tk l.ex y).2) (hs : LoopsOK P E S tk all ls) : LoopsOK P E S tk all (l :: ls) := by
  intro d hd
  rcases List.mem_cons.1 hd with rfl | hd
  · intro c hc
    rw [hb] at hc
    injection hc with hc
    subst hc
    exact h
  · exact hs d hd

/-- A FUNCTION OF ONE SLICE that asks whether that is nil -/
theorem nil_spec (hE : EnvOK P E) (hm : P.follows .mixedOrders = true) {f : FuncId} {fi : FnI} (hf : E.fn f = some fi) (hok : codeOK fi.body = true) {t : Ty} {l : List (Val t)} {T : Val (tabsTy E.kinds (E.ks f))} {rs : List Slot} {y : StV E (E.ks f) rs}
    (h1 : funJKA E (E.ks f) [] [] [] fi [.nsl t l] (encTabs E.kinds (E.ks f) T) rs = some y) (h2 : l = [] → funJKA E (E.ks f) [] [] [] fi [.v (.slice none 0 0)] (encTabs E.kinds (E.ks f) T) rs = some y) : FCon P E S f [.sl t] rs (T, (l, ())) y := by
  have hcs : CallsOK P E S [] := CallsOK.nil
  have hls : LoopsOK P E S (E.ks f) (loopsOf fi.body) [] := LoopsOK.nil
  intro b0 w I L Rt B vs hW hb0 hs
  have hargs := hs.env
  simp only [encL, RepL] at hargs
  obtain ⟨v, tl, hvs, hv, rfl⟩ := hargs
  have hv' : RepT (rcW (statOf E S) I L w) (.sl t) l [v] := hv
  obtain ⟨ad, cap, hsl, hcap, hrow, hz⟩ := hv'
  simp only [List.cons.injEq, and_true] at hsl
  cases ad with
  | none =>
    have hc := hz rfl
    have hl : l = [] := by
      refine List.length_eq_zero_iff.1 ?_
      omega
    refine fun_specA hE hm hcs hf hls hok (h2 hl) b0 w I L Rt B vs hW hb0 (hs.args ?_)
    simp only [Ctx.rc]
    rw [hvs]
    simp only [RepL, Rep]
    exact ⟨v, [], rfl, by rw [hsl, hc, hl]; rfl, rfl⟩
  | some a =>
    refine fun_specA hE hm hcs hf hls hok h1 b0 w I L Rt B vs hW hb0 (hs.args ?_)
    simp only [Ctx.rc]
    rw [hvs]
    simp only [RepL, Rep]
    exact ⟨v, [], rfl, ⟨hv, a, _, cap, hsl⟩, rfl⟩

def TysOK (P : Program) (N : Names) : List (TypeId × TyI) → Prop
  | [] => True
  | x :: r => mkTy P N x.1 x.2.ty x.2.cty = some x.2 ∧ TysOK P N r

theorem TysOK.mem {P : Program} {N : Names} : ∀ {l : List (TypeId × TyI)}, TysOK P N l → ∀ x, x ∈ l → mkTy P N x.1 x.2.ty x.2.cty = some x.2
  | [], _, _, h => by cases h
  | y :: r, h, x, hx => by
    rcases List.mem_cons.1 hx with rfl | hx
    · exact h.1
    · exact TysOK.mem h.2 x hx

def fnsOK (P : Program) (l : List Nat) : Bool := l.all fun f => match P.funcs[f]? with
  | some fn => !(fn.name == "runtime.NumGoroutine")
  | none => true

theorem fnsOK.mem {P : Program} {l : List Nat} (h : fnsOK P l = true) : ∀ f, f ∈ l → ∀ fn, P.funcs[f]? = some fn → (fn.name == "runtime.NumGoroutine") = false := by
  intro f hf fn hfn
  simp only [fnsOK, List.all_eq_true] at h
  have := h f hf
  rw [hfn] at this
  simpa using this

theorem inner_of {all : List Code} {body : Code} {i : Nat} (h : (all.drop (i + 1)).take (loopsOf body).length = loopsOf body) : ∀ j d, (loopsOf body)[j]? = some d → all[i + 1 + j]? = some d := by
  intro j d hd
  have hlt : j < (loopsOf body).length := (List.getElem?_eq_some_iff.1 hd).1
  rw [← h, List.getElem?_take_of_lt hlt, List.getElem?_drop] at hd
  exact hd

end
end Go.Eng

/-
  The abstract machine, part 28: a call's arguments, read off their places.
-/
namespace Go.Eng

/-- numbers within their kinds, lists that may be -/
def FitsT : (t : Ty) → Val t → Prop
  | .int k, n => (Lit.int k n).wf = true
  | .str, s => s.size ≤ maxLen
  | .pair a b, p => FitsT a p.1 ∧ FitsT b p.2
  | .st a, x => FitsT a x
  | .sl a, l => l.length ≤ maxLen ∧ ∀ i, i < l.length → FitsT a (l.getD i (dfl a))
  | _, _ => True

/-- a struct's fields, one after the other -/
def fldsIs (P : Program) (is : TypeId → Ty → Bool) : List Field → Nat → Ty → Bool
  | [], _, .unit => true
  | [f], off, a => is f.type a && Nat.beq f.offset off && Nat.beq (P.cellsOf f.type) a.size
  | f :: g :: r, off, .pair a b => is f.type a && Nat.beq f.offset off && Nat.beq (P.cellsOf f.type) a.size && fldsIs P is (g :: r) (off + a.size) b
  | _, _, _ => false

/-- is it a type of plain data? -/
def tyIs (P : Program) : Nat → TypeId → Ty → Bool
  | 0, _, _ => false
  | n + 1, t, u => match P.underlying t, u with
    | some .bool, .bool => true
    | some (.int k), .int k' => sameK k k'
    | some (.float .f64), .flt => true
    | some .string, .str => true
    | some (.slice e), .sl a => tyIs P n e a && Nat.beq (P.cellsOf e) a.size && Nat.blt 0 a.size
    | some (.struct fs), .st a => fldsIs P (tyIs P n) fs.toList 0 a && Nat.beq (P.cellsOf t) a.size
    | _, _ => false

section
variable {H : Type} {enc : TypeId × Value → H} {P : Program} {W : World} {sp : Nat → Bool} {held : Bool} {T : Stat}

theorem trod_flt {t : TypeId} {fuel : Nat} {cs : List Value} {x : DataW H × List MemPlace} (ht : P.underlying t = some (.float .f64)) (h : DataW.trod enc P W 0 sp held fuel t cs = some x) : ∃ b, cs = [.float .f64 b] := by
  cases fuel with
  | zero => simp [DataW.trod] at h
  | succ n =>
    unfold DataW.trod at h
    rw [ht] at h
    split at h <;> simp_all

theorem list_of {α : Type} (d : α) {p : Nat → α → Prop} : ∀ n : Nat, (∀ i, i < n → ∃ x, p i x) → ∃ l : List α, l.length = n ∧ ∀ i, i < n → p i (l.getD i d)
  | 0, _ => ⟨[], rfl, fun i hi => by omega⟩
  | n + 1, h => by
    obtain ⟨l, hl, hp⟩ := list_of d n fun i hi => h i (by omega)
    obtain ⟨x, hx⟩ := h n (by omega)
    refine ⟨l ++ [x], by simp [hl], fun i hi => ?_⟩
    rw [List.getD_eq_getElem?_getD]
    by_cases hin : i < n
    · rw [List.getElem?_append_left (by omega), ← List.getD_eq_getElem?_getD]
      exact hp i hin
    · have : i = n := by omega
      subst this
      rw [List.getElem?_append_right (by omega), hl, Nat.sub_self]
      exact hx

theorem flds_rep {is : TypeId → Ty → Bool} {fuel : Nat} {cs : List Value} (his : ∀ t u cs' x, is t u = true → DataW.trod enc P W 0 sp held fuel t cs' = some x → ∃ y : Val u, RepT (rcW T (fun b => b < W.heap.size) noL W) u y cs' ∧ FitsT u y) :
    ∀ (fs : List Field) (off : Nat) (a : Ty), fldsIs P is fs off a = true → (∀ f, f ∈ fs → ∃ x, DataW.trod enc P W 0 sp held fuel f.type ((cs.drop f.offset).take (P.cellsOf f.type)) = some x) →
      ∃ y : Val a, RepT (rcW T (fun b => b < W.heap.size) noL W) a y ((cs.drop off).take a.size) ∧ FitsT a y
  | [], off, a, h, hx => by
    cases a <;> simp [fldsIs] at h
    exact ⟨(), by simp [RepT, Ty.size], trivial⟩
  | [f], off, a, h, hx => by
    simp only [fldsIs, Bool.and_eq_true] at h
    obtain ⟨⟨h1, h2⟩, h3⟩ := h
    obtain ⟨x, hx⟩ := hx f (by simp)
    rw [Nat.eq_of_beq_eq_true h2, Nat.eq_of_beq_eq_true h3] at hx
    exact his _ _ _ _ h1 hx
  | f :: g :: r, off, a, h, hx => by
    cases a <;> simp only [fldsIs, Bool.false_eq_true] at h
    rename_i a b
    simp only [Bool.and_eq_true] at h
    obtain ⟨⟨⟨h1, h2⟩, h3⟩, h4⟩ := h
    obtain ⟨x, hx1⟩ := hx f (by simp)
    rw [Nat.eq_of_beq_eq_true h2, Nat.eq_of_beq_eq_true h3] at hx1
    obtain ⟨y, hy, hfy⟩ := his _ _ _ _ h1 hx1
    obtain ⟨z, hz, hfz⟩ := flds_rep his (g :: r) (off + a.size) b h4 fun k hk => hx k (List.mem_cons_of_mem _ hk)
    refine ⟨(y, z), ⟨_, _, ?_, hy, hz⟩, hfy, hfz⟩
    rw [Ty.size, List.take_add, List.drop_drop]

theorem trod_rep : ∀ (n : Nat) (t : TypeId) (u : Ty) (fuel : Nat) (cs : List Value) (x : DataW H × List MemPlace), tyIs P n t u = true → DataW.trod enc P W 0 sp held fuel t cs = some x →
    ∃ y : Val u, RepT (rcW T (fun b => b < W.heap.size) noL W) u y cs ∧ FitsT u y
  | 0, t, u, fuel, cs, x, h, hx => by cases h
  | n + 1, t, u, fuel, cs, x, h, hx => by
    simp only [tyIs] at h
    split at h
    · rename_i ht
      obtain ⟨b, rfl, _⟩ := DataW.trod_bool ht hx
      exact ⟨b, rfl, trivial⟩
    · rename_i k k' ht
      obtain rfl := sameK_eq h
      obtain ⟨m, rfl, _, hw⟩ := DataW.trod_int ht hx
      exact ⟨m, rfl, hw⟩
    · rename_i ht
      obtain ⟨b, rfl⟩ := trod_flt ht hx
      exact ⟨b, rfl, trivial⟩
    · rename_i ht
      obtain ⟨s, rfl, _, hs⟩ := DataW.trod_string ht hx
      exact ⟨s, rfl, hs⟩
    · rename_i e a ht
      simp only [Bool.and_eq_true] at h
      obtain ⟨⟨h1, h2⟩, h3⟩ := h
      have h2 := Nat.eq_of_beq_eq_true h2
      have h3 : 0 < a.size := Nat.le_of_ble_eq_true h3
      rcases DataW.trod_slice ht hx with ⟨rfl, _⟩ | ⟨ad, len, cap, elems, rest, m, _, rfl, _, hb, hl, hm, hlen, hel, _, _⟩
      · exact ⟨([] : List (Val a)), ⟨none, 0, rfl, Nat.le_refl _, fun hn => absurd rfl hn, fun _ => rfl⟩, Nat.zero_le _, fun i hi => absurd hi (Nat.not_lt_zero _)⟩
      · have key : ∀ i, i < len → ∃ y : Val a, (∃ c, RepT (rcW T (fun b => b < W.heap.size) noL W) a y c ∧ c.length = a.size ∧ ∀ j, j < a.size → W.cell? ((ad.add (i * a.size)).add j) = c[j]?) ∧ FitsT a y := by
          intro i hi
          have h0 := hel i hi
          rw [List.getElem?_eq_getElem (by omega), h2] at h0
          obtain ⟨c, hc, hc2⟩ := Option.bind_eq_some_iff.1 h0
          obtain ⟨y, hy, hf⟩ := trod_rep n e a m c _ h1 hc2
          obtain ⟨_, hcl, hcc⟩ := World.cells?_some hc
          exact ⟨y, ⟨c, hy, hcl, hcc⟩, hf⟩
        obtain ⟨l, hll, hp⟩ := list_of (dfl a) len key
        refine ⟨l, ⟨some ad, cap, by rw [hll], by rw [hll]; exact hl, fun hn => ?_, fun h => by cases h⟩, by rw [hll]; omega, fun i hi => (hp i (by omega)).2⟩
        rw [hll] at hn
        obtain ⟨⟨c0, _, hc0l, hc0⟩, _⟩ := hp 0 (by omega)
        have hc00 := hc0 0 h3
        simp only [Nat.zero_mul, Addr.add, if_true] at hc00
        rw [List.getElem?_eq_getElem (by omega)] at hc00
        have hspot : ad.spot = none ∧ ad.block < W.heap.size := by
          unfold World.cell? at hc00
          split at hc00
          · rename_i hh
            split at hc00
            · cases hc00
            · rename_i hs
              refine ⟨by simpa using hs, ?_⟩
              exact (Array.getElem?_eq_some_iff.1 hh).1
          · cases hc00
        obtain ⟨b, o, s⟩ := ad
        obtain ⟨hs, hlt⟩ := hspot
        simp only at hs hlt
        subst hs
        refine ⟨b, o, rfl, hlt, fun i hi => ?_⟩
        obtain ⟨⟨c, hc, hcl, hcc⟩, _⟩ := hp i (by omega)
        refine ⟨c, hc, fun j v hj => ?_⟩
        have hjl : j < a.size := by rw [← hcl]; exact (List.getElem?_eq_some_iff.1 hj).1
        have := hcc j hjl
        rw [hj] at this
        have hadd : ((⟨b, o, none⟩ : Addr).add (i * a.size)).add j = ⟨b, o + i * a.size + j, none⟩ := by
          unfold Addr.add
          by_cases h0 : i * a.size = 0
          · rw [if_pos h0, h0]
            by_cases h1 : j = 0
            · rw [if_pos h1, h1]; rfl
            · rw [if_neg h1]; rfl
          · rw [if_neg h0]
            by_cases h1 : j = 0
            · rw [if_pos h1, h1]; rfl
            · rw [if_neg h1]
        rw [hadd] at this
        exact this
    · rename_i fs a ht
      simp only [Bool.and_eq_true] at h
      obtain ⟨xs, m, _, _, hcl, hxl, hxs⟩ := DataW.trod_struct ht hx
      obtain ⟨y, hy, hf⟩ := flds_rep (cs := cs) (fuel := m) (fun t u cs' x h h' => trod_rep n t u m cs' x h h') fs.toList 0 a h.1 fun f hf => by
        obtain ⟨i, hi, he⟩ := List.getElem_of_mem hf
        have : fs[i]? = some f := by rw [← Array.getElem?_toList, List.getElem?_eq_getElem hi, he]
        have := hxs i f this
        rw [List.getElem?_eq_getElem (by rw [hxl]; simpa using hi)] at this
        exact ⟨_, this⟩
      refine ⟨y, ?_, hf⟩
      rw [List.drop_zero, List.take_of_length_le (by rw [hcl, Nat.eq_of_beq_eq_true h.2]; exact Nat.le_refl _)] at hy
      exact hy
    · cases h

/-- one argument -/
theorem arg_rep {n : Nat} {t : TypeId} {u : Ty} {v : Value} {d : DataW H} {ps : List MemPlace} {r : Reach} {b0 : Nat} (h : tyIs P n t u = true) (hval : Value.okWide P W r b0 t v) (hd : DataW.Trod enc P W 0 sp held t v d ps) :
    ∃ y : Val u, Rep (rcW T (fun b => b < W.heap.size) noL W) noL (encA u y) v ∧ FitsT u y := by
  obtain ⟨fuel, hf⟩ := hd
  obtain ⟨y, hy, hfit⟩ := trod_rep (T := T) n t u fuel _ _ h hf
  refine ⟨y, ?_, hfit⟩
  cases n with
  | zero => cases h
  | succ n =>
    have hr := RepL.ofT (L := noL) u hy
    have single : u.one = true → (∀ cs, v ≠ .agg cs) → Rep (rcW T (fun b => b < W.heap.size) noL W) noL (encA u y) v := by
      intro h1 hv
      obtain ⟨z, hz, hz2⟩ := cellsT_one u y h1
      have hc : v.cells = #[v] := by
        cases v <;> first | rfl | exact absurd rfl (hv _)
      rw [hz, hc] at hr
      simp only [RepL] at hr
      obtain ⟨w, tl, he, hw, _⟩ := hr
      simp only [List.cons.injEq] at he
      rw [hz2, he.1]
      exact hw
    simp only [tyIs] at h
    split at h
    · rename_i ht
      obtain ⟨b, rfl⟩ := WideShapes.okWide_bool ht hval
      exact single rfl (by simp)
    · rename_i k k' ht
      obtain ⟨b, rfl⟩ := WideShapes.okWide_int ht hval
      exact single rfl (by simp)
    · rename_i ht
      refine single rfl fun cs e => ?_
      subst e
      simp only [Value.okWide, ht, _root_.Go.Cell.okWide, _root_.Go.Cell.ok] at hval
    · rename_i ht
      obtain ⟨b, rfl⟩ := WideShapes.okWide_string ht hval
      exact single rfl (by simp)
    · rename_i e a ht
      obtain ⟨b, l, c, rfl⟩ := WideShapes.okWide_slice ht hval
      exact single rfl (by simp)
    · rename_i fs a ht
      obtain ⟨cs, rfl, _⟩ := WideShapes.okWide_struct ht hval
      unfold encA
      simp only [Ty.isAgg, Rep]
      exact ⟨cs, rfl, hr⟩
    · cases h

def tysIs (P : Program) : List TypeId → List Ty → Bool
  | [], [] => true
  | t :: ts, u :: us => tyIs P 12 t u && tysIs P ts us
  | _, _ => false

def FitsL : (us : List Ty) → Val (rowTy us) → Prop
  | [], _ => True
  | u :: us, x => FitsT u x.1 ∧ FitsL us x.2

/-- all arguments -/
theorem args_rep {r : Reach} {b0 : Nat} : ∀ {ts : List TypeId} {us : List Ty} {vs : List Value} {ds : List (DataW H)} {ps : List MemPlace}, tysIs P ts us = true → (∀ (j : Nat) t v, ts[j]? = some t → vs[j]? = some v → Value.okWide P W r b0 t v) →
    DataW.TrodAll enc P W 0 sp held ts vs ds ps → ∃ x : Val (rowTy us), RepL (rcW T (fun b => b < W.heap.size) noL W) noL (encL us x) vs ∧ FitsL us x
  | [], [], vs, ds, ps, _, _, h => by
    obtain ⟨rfl, rfl, rfl⟩ := ChangeShapes.trodAll_nil h
    exact ⟨(), by simp [encL, RepL], trivial⟩
  | [], _ :: _, _, _, _, h, _, _ => by cases h
  | _ :: _, [], _, _, _, h, _, _ => by cases h
  | t :: ts, u :: us, vs, ds, ps, h, hval, hd => by
    simp only [tysIs, Bool.and_eq_true] at h
    obtain ⟨v, vs', d, ds', p, q, rfl, rfl, rfl, h1, h2⟩ := ChangeShapes.trodAll_cons hd
    obtain ⟨y, hy, hfy⟩ := arg_rep (T := T) h.1 (hval 0 t v rfl rfl) h1
    obtain ⟨z, hz, hfz⟩ := args_rep h.2 (fun j t v h h' => hval (j + 1) t v (by simpa using h) (by simpa using h')) h2
    refine ⟨(y, z), ?_, hfy, hfz⟩
    simp only [encL, RepL]
    exact ⟨v, vs', rfl, hy, hz⟩

end
end Go.Eng

/-
  The abstract machine, part 29: a function in two pieces: what stands ahead of a range over a function; and what follows.
-/
namespace Go.Eng

/-- the first n of a sequence; the rest -/
def spineC : Nat → Code → Code × Code
  | n + 1, .seq a b => (.seq a (spineC n b).1, (spineC n b).2)
  | _, c => (.skip, c)

/-- the second of two -/
def second : Code → Code
  | .seq _ b => b
  | c => c

/-- a function's pieces as if they were loops (for the printer) -/
def pieces (n : Nat) (c : Code) : Code := .seq (.block 99 (.loop (.seq (spineC n c).1 (.exit 99)))) (.loop (second (spineC n c).2))

section
variable {P : Program} {E : Env} {S : Ini} {tk : List Nat}

def Spin (P : Program) (E : Env) (S : Ini) (T c : Code) (s : St) (x : AX) (t : St) : Prop := match x with
  | .normal => ∀ (w0 : World) (Rt : Nat → Prop) (B : Nat → Nat → Option Pl) (Ds : List Deferred) (I0 I : Nat → Prop) (L : Ref → Option Pl) (a : Act) (w : World), WOK P E S w0 → Sim ⟨P, E, S, w0, I0, Rt, B, Ds⟩ I L s a w →
    ∀ Q : Exit → Act → World → Prop, (∀ I' L' a' w', Sim ⟨P, E, S, w0, I0, Rt, B, Ds⟩ I' L' t a' w' → T.wp P Q a' w') → c.wp P Q a w
  | x => CodeCon P E S c s x t

/-- the first piece -/
theorem spineC_sound (hE : EnvOK P E) (hm : P.follows .mixedOrders = true) (hK : KindsOK E tk) {cs : List (CallSpec E)} (hcs : CallsOK P E S cs) {all : List Code} {ls : List (LoopSpec E tk)} (hls : LoopsOK P E S tk all ls) {js : Joins} :
    ∀ (j : Nat) (c : Code) (n m : Nat) (s : St) (R : Type) (k : AX → St → Option R) (z : R), codeOK (spineC j c).1 = true → (∀ i d, (loopsOf (spineC j c).1)[i]? = some d → all[n + i]? = some d) → runJK E tk cs ls js (spineC j c).1 n m s R k = some z → ∃ x t, Spin P E S (spineC j c).2 c s x t ∧ k x t = some z := by
  have base : ∀ (c : Code) (n m : Nat) (s : St) (R : Type) (k : AX → St → Option R) (z : R), runJK E tk cs ls js .skip n m s R k = some z → ∃ x t, Spin P E S c c s x t ∧ k x t = some z := fun c n m s R k z e =>
    ⟨.normal, s, fun w0 Rt B Ds I0 I L a w hW hs Q hQ => hQ I L a w hs, e⟩
  intro j
  induction j with
  | zero =>
    intro c n m s R k z _ _ e
    exact base c n m s R k z (by simpa only [spineC] using e)
  | succ j ih =>
    intro c
    cases c with
    | seq a b =>
      intro n m s R k z hok hall e
      simp only [spineC] at hok hall e ⊢
      simp only [codeOK, Bool.and_eq_true] at hok
      have hc : ∀ i d', (loopsOf a)[i]? = some d' → all[n + i]? = some d' := fun i d' h => hall i d' (by
        simp only [loopsOf]
        rw [List.getElem?_append_left (List.getElem?_eq_some_iff.1 h).1]
        exact h)
      have hd : ∀ i d', (loopsOf (spineC j b).1)[i]? = some d' → all[n + nloops a + i]? = some d' := fun i d' h => by
        have := hall (nloops a + i) d' (by
          simp only [loopsOf]
          rw [List.getElem?_append_right (by rw [nloops_length]; omega), nloops_length, Nat.add_sub_cancel_left]
          exact h)
        rw [Nat.add_assoc]
        exact this
      have fin : ∀ x t, CodeCon P E S a s x t → (match x with
          | .normal => runJK E tk cs ls js (spineC j b).1 (n + nloops a) (m + 1 + nseqs a) t R k
          | e => k e t) = some z → ∃ x t, Spin P E S (spineC j b).2 (.seq a b) s x t ∧ k x t = some z := by
        intro x t h h'
        cases x with
        | normal =>
          obtain ⟨x', t', h1, h2⟩ := ih b _ _ t R k z hok.2 hd h'
          refine ⟨x', t', ?_, h2⟩
          cases x' with
          | normal =>
            intro w0 Rt B Ds I0 I L q w hW hs Q hQ
            refine wp_seq (h w0 Rt B Ds I0 I L q w hW hs _ fun I' L' a' w' hs' => ?_)
            exact h1 w0 Rt B Ds I0 I' L' a' w' hW hs' Q hQ
          | exit id => exact h.seq h1
          | ret => exact h.seq h1
        | exit id => exact ⟨.exit id, t, h.seq_out (by simp), h'⟩
        | ret => exact ⟨.ret, t, h.seq_out (by simp), h'⟩
      simp only [runJK] at e
      cases hj : joinAt js m with
      | none =>
        rw [hj] at e
        simp only at e
        obtain ⟨x, t, h, h'⟩ := runJK_sound hE hm hK hcs hls a _ _ s R _ z hok.1 hc e
        exact fin x t h h'
      | some ex =>
        rw [hj] at e
        simp only at e
        cases hr : runJK E tk cs ls js a n (m + 1) s (ExTy E tk ex) (fun e s' => leaveK E tk cs ex e s' some) with
        | none => rw [hr] at e; cases e
        | some y =>
          rw [hr] at e
          simp only [Option.bind_some] at e
          obtain ⟨x, t, h, h'⟩ := runJK_sound hE hm hK hcs hls a _ _ s _ _ y hok.1 hc hr
          obtain ⟨y', g0, g1, g2⟩ := leaveK_con hK (P := P) (S := S) h'
          injection g0 with g0
          subst g0
          rw [exK_eq] at e
          refine fin _ _ ?_ e
          rw [g1]
          exact h.post g2
    | _ =>
      intro n m s R k z _ _ e
      exact base _ n m s R k z (by simpa only [spineC] using e)

theorem Spin.post {T c : Code} {s t u : St} {x : AX} (h : Spin P E S T c s x t) (hr : May P E S t u) : Spin P E S T c s x u := by
  cases x with
  | normal =>
    intro w0 Rt B Ds I0 I L a w hW hs Q hQ
    refine h w0 Rt B Ds I0 I L a w hW hs Q fun I' L' a' w' h' => ?_
    obtain ⟨I2, L2, h2⟩ := hr w0 Rt B Ds I0 I' L' a' w' h'
    exact hQ I2 L2 a' w' h2
  | exit id => exact CodeCon.post h hr
  | ret => exact CodeCon.post h hr

/-- how the first piece is left -/
def headK (E : Env) (tk : List Nat) (cs : List (CallSpec E)) (ex : List (AX × List Slot)) : AX → St → Option (ExTy E tk ex)
  | .normal, s => leaveK E tk cs ex (.exit 99) s some
  | .exit _, _ => none
  | .ret, s => leaveK E tk cs ex .ret s some

/-- the first piece, as the printer gives it -/
theorem piece1 (hE : EnvOK P E) (hm : P.follows .mixedOrders = true) (hK : KindsOK E tk) {cs : List (CallSpec E)} (hcs : CallsOK P E S cs) {all : List Code} {ls : List (LoopSpec E tk)} (hls : LoopsOK P E S tk all ls) {js : Joins} {j i m : Nat} {c : Code} {head : List Slot} {ex : List (AX × List Slot)}
    (hok : codeOK (spineC j c).1 = true) (hin : ∀ q d, (loopsOf (spineC j c).1)[q]? = some d → all[i + q]? = some d) {x : StV E tk head} {y : ExTy E tk ex} (e : runJK E tk cs ls js (spineC j c).1 i m (encSlots E tk head x) (ExTy E tk ex) (headK E tk cs ex) = some y) :
    ((encEx E tk ex y).1 = .exit 99 ∧ Spin P E S (spineC j c).2 c (encSlots E tk head x) .normal (encEx E tk ex y).2) ∨ ((encEx E tk ex y).1 = .ret ∧ CodeCon P E S c (encSlots E tk head x) .ret (encEx E tk ex y).2) := by
  obtain ⟨z, s, hcode, e⟩ := spineC_sound hE hm hK hcs hls j c i m _ _ _ y hok hin e
  have out : ∀ z' : AX, leaveK E tk cs ex z' s some = some y → z' = (encEx E tk ex y).1 ∧ May P E S s (encEx E tk ex y).2 := by
    intro z' hl
    obtain ⟨y', h0, h1, h2⟩ := leaveK_con hK (P := P) (S := S) hl
    injection h0 with h0
    subst h0
    exact ⟨h1.symm, h2⟩
  cases z with
  | normal =>
    obtain ⟨h1, h2⟩ := out (.exit 99) e
    exact .inl ⟨h1.symm, hcode.post h2⟩
  | exit id => cases e
  | ret =>
    obtain ⟨h1, h2⟩ := out .ret e
    exact .inr ⟨h1.symm, CodeCon.post hcode h2⟩

/-- the last piece -/
theorem piece2 (hE : EnvOK P E) (hm : P.follows .mixedOrders = true) (hK : KindsOK E tk) {cs : List (CallSpec E)} (hcs : CallsOK P E S cs) {all : List Code} {ls : List (LoopSpec E tk)} (hls : LoopsOK P E S tk all ls) {js : Joins} {i : Nat} {c : Code} {head : List Slot} {ex : List (AX × List Slot)}
    (hok : codeOK c = true) (hin : ∀ q d, (loopsOf c)[q]? = some d → all[i + 1 + q]? = some d) {x : StV E tk head} {y : ExTy E tk ex} (e : loopBodyJK E tk cs ls js i c head ex (fun _ => none) x = some y) : CodeCon P E S c (encSlots E tk head x) (encEx E tk ex y).1 (encEx E tk ex y).2 := by
  unfold loopBodyJK at e
  obtain ⟨z, s, hcode, e⟩ := runJK_sound hE hm hK hcs hls c (i + 1) 0 _ _ _ y hok hin e
  have out : ∀ z' : AX, leaveK E tk cs ex z' s some = some y → z' = (encEx E tk ex y).1 ∧ May P E S s (encEx E tk ex y).2 := by
    intro z' hl
    obtain ⟨y', h0, h1, h2⟩ := leaveK_con hK (P := P) (S := S) hl
    injection h0 with h0
    subst h0
    exact ⟨h1.symm, h2⟩
  cases z with
  | normal =>
    simp only at e
    rw [HM.runK_eq (callKt_eq E cs)] at e
    cases hd : (decSlots E tk head s).run (callT E cs) s.rd with
    | none => rw [hd] at e; cases e
    | some q => rw [hd] at e; cases e
  | exit id =>
    obtain ⟨h1, h2⟩ := out (.exit id) e
    rw [← h1]
    exact hcode.post h2
  | ret =>
    obtain ⟨h1, h2⟩ := out .ret e
    rw [← h1]
    exact hcode.post h2

end
end Go.Eng

/-
  What slices.Insert and slices.Delete do: cells laid into a row (no program here).
-/
namespace Go.Eng
open Go

theorem heap_setCells {b : Nat} {T : TypeId} : ∀ (vs : List Value) (o : Nat) (w : World) (cs : Array Value), w.heap[b]? = some (.cells cs T (0, 0)) →
    (w.setCells b o vs).heap[b]? = some (.cells (wrAt cs o vs) T (0, 0)) ∧ (w.setCells b o vs).heap.size = w.heap.size ∧ (∀ k, k ≠ b → (w.setCells b o vs).heap[k]? = w.heap[k]?) ∧ IO w (w.setCells b o vs)
  | [], o, w, cs, h => ⟨h, rfl, fun _ _ => rfl, IO.refl w⟩
  | v :: r, o, w, cs, h => by
    obtain ⟨h1, h2, h3, h4⟩ := heap_setCells r (o + 1) (w.setCell ⟨b, o, none⟩ v) (cs.setIfInBounds o v) (heap_setCell_same w b o cs T v h)
    rw [World.setCells]
    refine ⟨h1, ?_, fun k hk => ?_, h4⟩
    · rw [h2]; simp [World.setCell]
    · rw [h3 k hk]
      exact heap_setCell_other w _ k v hk

theorem cell_isSome {w : World} {b o : Nat} {cs : Array Value} {T : TypeId} (h : w.heap[b]? = some (.cells cs T (0, 0))) (ho : o < cs.size) : (w.cell? ⟨b, o, none⟩).isSome = true := by
  rw [cell?_cells h, Array.getElem?_eq_getElem ho]; rfl

theorem frozen_no {w : World} {b o : Nat} {cs : Array Value} {T : TypeId} (h : w.heap[b]? = some (.cells cs T (0, 0))) : w.frozen? ⟨b, o, none⟩ = false := by simp [World.frozen?, h]

/-- elements made nothings, of however many cells -/
theorem run_clear_row {P : Program} (w : World) (t e ty : TypeId) (z : Value) (ht : P.underlying t = some (.slice e)) (hv : ∀ w, (zeroValue e).run P w = .ok z w) {b o n c : Nat} {cs : Array Value} {T : TypeId} (hh : w.heap[b]? = some (.cells cs T (0, 0)))
    (hs : o + n * z.cells.size ≤ cs.size) (h1 : ∀ v, v ∈ z.cells.toList → v.oneCell' = true) :
    (Builtin.clear_ #[t] ty #[.slice (some ⟨b, o, none⟩) n c]).run P w = .ok (.tuple #[]) (w.setCells b o (Builtin.zeroCells z.cells n).toList) := by
  have hl : (Builtin.zeroCells z.cells n).toList.length = n * z.cells.size := by simp [size_zeroCells]
  have hmem : ∀ v, v ∈ (Builtin.zeroCells z.cells n).toList → v.oneCell' = true := by
    intro v hv
    simp only [Builtin.zeroCells, Array.toList_map, List.mem_map] at hv
    obtain ⟨i, hi, rfl⟩ := hv
    have hi := Array.mem_range.1 (by simpa using hi)
    have hpos : 0 < z.cells.size := by
      apply Nat.pos_of_ne_zero
      intro h0
      rw [h0, Nat.mul_zero] at hi
      omega
    have hlt := Nat.mod_lt i hpos
    rw [getElem!_pos z.cells _ hlt]
    exact h1 _ (by simp)
  have hst := run_storeCells_cells (P := P) b o (Builtin.zeroCells z.cells n).toList 0 w (fun j hj => by
      rw [Nat.add_zero]
      exact cell_isSome hh (by rw [hl] at hj; omega)) (fun j hj => frozen_no hh) hmem
  simp only [Nat.add_zero] at hst
  cases n with
  | zero =>
    have : (Builtin.zeroCells z.cells 0).toList = [] := by simp [Builtin.zeroCells]
    rw [this]
    simp [Builtin.clear_, run_underlying ht, World.setCells]
  | succ n => simp [Builtin.clear_, run_underlying ht, hv, hst]

/-- elements copied, of however many cells -/
theorem run_copy_row {P : Program} (w : World) {t e ty : TypeId} {i : TypeInfo} {sz : Nat} (ht : P.underlying t = some (.slice e)) (hi : P.info? e = some i) (hsz : i.size = sz) {b o dLen dCap sLen sCap : Nat} {a : Addr} {G : List Value} {cs : Array Value} {T : TypeId} (hn : G.length = min sLen dLen * sz)
    (hsrc : ∀ (j : Nat) v, G[j]? = some v → w.cell? (a.add j) = some v) (hh : w.heap[b]? = some (.cells cs T (0, 0))) (hs : o + G.length ≤ cs.size) (h1 : ∀ v, v ∈ G → v.oneCell' = true) :
    (Builtin.copy_ #[t, t] ty #[.slice (some ⟨b, o, none⟩) dLen dCap, .slice (some a) sLen sCap]).run P w = .ok (goInt (min sLen dLen : Nat)) (w.setCells b o G) := by
  have hl := run_loadCells_list (P := P) w a G hsrc
  have hst := run_storeCells_cells (P := P) b o G 0 w (fun j hj => by rw [Nat.add_zero]; exact cell_isSome hh (by omega)) (fun j hj => frozen_no hh) h1
  simp only [Nat.add_zero] at hst
  rw [hn] at hl
  subst hsz
  simp [Builtin.copy_, run_underlying ht, sizeOf, typeInfo, hi, Builtin.lenOf, Builtin.firstCells, hl, hst, goInt]

end Go.Eng
