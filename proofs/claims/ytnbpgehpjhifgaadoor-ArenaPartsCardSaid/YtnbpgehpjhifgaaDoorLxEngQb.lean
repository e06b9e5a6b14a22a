/-
  The abstract machine, part 16b: a store into an object's variable; an object more.
-/
import Derived.Test.YtnbpgehpjhifgaaDoorLxEngQa
namespace Go.Eng

theorem nodup_fst {α β : Type} : ∀ {u : List (α × β)}, (u.map (·.1)).Nodup → ∀ {a : α} {b b' : β}, (a, b) ∈ u → (a, b') ∈ u → b = b'
  | [], _, _, _, _, h, _ => by cases h
  | p :: r, hn, a, b, b', h, h' => by
    simp only [List.map_cons, List.nodup_cons] at hn
    rcases List.mem_cons.1 h with e | h <;> rcases List.mem_cons.1 h' with e' | h'
    · rw [← e'] at e; injection e
    · exact absurd (List.mem_map.2 ⟨_, h', by rw [← e]⟩) hn.1
    · exact absurd (List.mem_map.2 ⟨_, h, by rw [← e']⟩) hn.1
    · exact nodup_fst hn.2 h h'

theorem nodupN_cons {x : Nat} {r : List Nat} (h : nodupN (x :: r) = true) : x ∉ r ∧ nodupN r = true := by
  simp only [nodupN, Bool.and_eq_true, Bool.not_eq_true', List.any_eq_false] at h
  exact ⟨fun hm => h.1 x hm (Nat.beq_refl x), h.2⟩

theorem srcIds_mem : ∀ {u : List (Nat × Src)} {id : Nat}, id ∈ srcIds u → ∃ q i0 t g, (q, Src.loc id i0 t g) ∈ u
  | [], _, h => by cases h
  | (q, src) :: r, id, h => by
    cases src with
    | loc id' i0 t g =>
      simp only [srcIds, List.mem_cons] at h
      rcases h with rfl | h
      · exact ⟨q, i0, t, g, by simp⟩
      · obtain ⟨q', i0', t', g', hm⟩ := srcIds_mem h
        exact ⟨q', i0', t', g', by simp [hm]⟩
    | nil =>
      simp only [srcIds] at h
      obtain ⟨q', i0', t', g', hm⟩ := srcIds_mem h
      exact ⟨q', i0', t', g', by simp [hm]⟩
    | own i0 =>
      simp only [srcIds] at h
      obtain ⟨q', i0', t', g', hm⟩ := srcIds_mem h
      exact ⟨q', i0', t', g', by simp [hm]⟩

theorem mem_srcIds : ∀ {u : List (Nat × Src)} {q id i0 : Nat} {t : Ty} {g : Nat}, (q, Src.loc id i0 t g) ∈ u → id ∈ srcIds u
  | [], _, _, _, _, _, h => by cases h
  | (q', src) :: r, q, id, i0, t, g, h => by
    rcases List.mem_cons.1 h with e | h
    · injection e with e1 e2
      subst e2
      simp [srcIds]
    · have := mem_srcIds h
      cases src <;> simp [srcIds, this]

theorem srcIds_inj : ∀ {u : List (Nat × Src)}, nodupN (srcIds u) = true → ∀ {q q' id i0 i0' : Nat} {t t' : Ty} {g g' : Nat}, (q, Src.loc id i0 t g) ∈ u → (q', Src.loc id i0' t' g') ∈ u → q = q'
  | [], _, _, _, _, _, _, _, _, _, _, h, _ => by cases h
  | (q0, src) :: r, hn, q, q', id, i0, i0', t, t', g, g', h, h' => by
    have tl : nodupN (srcIds r) = true := by
      cases src with
      | loc id' _ _ _ => exact (nodupN_cons hn).2
      | nil => exact hn
      | own _ => exact hn
    rcases List.mem_cons.1 h with e | h1 <;> rcases List.mem_cons.1 h' with e' | h1'
    · injection e with e _; injection e' with e' _; rw [e, e']
    · injection e with e1 e2
      subst e2
      exact absurd (mem_srcIds h1') (nodupN_cons hn).1
    · injection e' with e1 e2
      subst e2
      exact absurd (mem_srcIds h1) (nodupN_cons hn).1
    · exact srcIds_inj tl h1 h1'

/-- blocks that went over, laid into the heap -/
theorem goneA_sound : ∀ {u : List (Nat × Src)} {h : List (Option Blk)}, nodupN (srcIds u) = true → (∀ id, id ∈ srcIds u → id < h.length) → (∀ id b, id ∈ srcIds u → h[id]? = some (some b) → b.isTab = false) →
    (putAll h (goneA u)).length = h.length ∧ (∀ r, (∀ id, id ∈ srcIds u → r ≠ .l id) → rdv (putAll h (goneA u)) r = rdv h r) ∧ (∀ k, k ∉ srcIds u → (putAll h (goneA u))[k]? = h[k]?) ∧
      ∀ q id i0 t g, (q, Src.loc id i0 t g) ∈ u → rdv (putAll h (goneA u)) (.l id) = some { ct := .sl t [], gen := g + 1, frozen := false }
  | [], h, _, _, _ => ⟨rfl, fun _ _ => rfl, fun _ _ => rfl, fun _ _ _ _ _ hm => by cases hm⟩
  | (q0, src) :: r, h, hn, hl, ht => by
    cases src with
    | nil =>
      obtain ⟨h1, h2, h3, h4⟩ := goneA_sound (u := r) (h := h) hn hl ht
      refine ⟨h1, h2, h3, fun q id i0 t g hm => ?_⟩
      rcases List.mem_cons.1 hm with e | hm
      · injection e with _ e; cases e
      · exact h4 q id i0 t g hm
    | own _ =>
      obtain ⟨h1, h2, h3, h4⟩ := goneA_sound (u := r) (h := h) hn hl ht
      refine ⟨h1, h2, h3, fun q id i0 t g hm => ?_⟩
      rcases List.mem_cons.1 hm with e | hm
      · injection e with _ e; cases e
      · exact h4 q id i0 t g hm
    | loc id0 i1 t0 g0 =>
      obtain ⟨hni, hn'⟩ := nodupN_cons hn
      simp only [srcIds, List.mem_cons, forall_eq_or_imp] at hl ht
      have hdt : ({ ct := .sl t0 [], gen := g0 + 1, frozen := false } : Blk).isTab = false := rfl
      obtain ⟨h1, h2, h3, h4⟩ := goneA_sound (u := r) (h := h.set id0 (some { ct := .sl t0 [], gen := g0 + 1, frozen := false })) hn' (fun id hid => by simpa using hl.2 id hid) (fun id b hid hb => by
        have : id0 ≠ id := fun e => hni (by rw [e]; exact hid)
        rw [List.getElem?_set_ne this] at hb
        exact ht id b (.inr hid) hb)
      simp only [goneA, putAll, putH]
      refine ⟨by simpa using h1, fun r' hr' => ?_, fun k hk => ?_, fun q id i0 t g hm => ?_⟩
      · simp only [srcIds, List.mem_cons, forall_eq_or_imp] at hr'
        rw [h2 r' hr'.2]
        exact rdv_set (fun b hb => ht id0 b (.inl rfl) hb) (fun b hb => by injection hb with hb; subst hb; exact hdt) hr'.1
      · simp only [srcIds, List.mem_cons, not_or] at hk
        rw [h3 k hk.2, List.getElem?_set_ne (fun e => hk.1 e.symm)]
      · rcases List.mem_cons.1 hm with e | hm
        · injection e with _ e
          injection e with e1 e2 e3 e4
          subst e1; subst e3; subst e4
          rw [h2 (.l id) (fun id' hid' e => hni (by injection e with e; rw [e]; exact hid')), rdv_set_self hl.1]
        · exact h4 q id i0 t g hm

theorem backA_sound {call : CallF} {h : Ref → Option Blk} {i : Nat} {u : List Nat} : ∀ {st st' : List (Nat × Nat)} {rs : List Nat}, (backA i u st).run call h = some (st', rs) → (∀ p, p ∈ st → p.1 ∈ u → p.2 = i) ∧ (∀ p, p ∈ st' ↔ p ∈ st ∧ p.1 ∉ u)
  | [], st', rs, e => by
    obtain ⟨rfl, rfl⟩ := HM.run_ret e
    exact ⟨(fun p hp => by cases hp), fun p => by simp⟩
  | p :: r, st', rs, e => by
    simp only [backA] at e
    split at e
    · rename_i hm
      obtain ⟨hi, e⟩ := HM.run_chk e
      have hi := of_decide_eq_true hi
      obtain ⟨h1, h2⟩ := backA_sound e
      obtain ⟨x, hx, hb⟩ := List.any_eq_true.1 hm
      have hpu : p.1 ∈ u := by rw [Nat.eq_of_beq_eq_true hb]; exact hx
      refine ⟨fun y hy hyu => ?_, fun y => ?_⟩
      · rcases List.mem_cons.1 hy with rfl | hy
        · exact hi
        · exact h1 y hy hyu
      · rw [h2, List.mem_cons]
        constructor
        · rintro ⟨a, b⟩; exact ⟨.inr a, b⟩
        · rintro ⟨rfl | a, b⟩
          · exact absurd hpu b
          · exact ⟨a, b⟩
    · rename_i hm
      obtain ⟨l, l1, l2, e1, e2, rfl⟩ := HM.run_bind e
      obtain ⟨rfl, rfl⟩ := HM.run_ret e2
      obtain ⟨h1, h2⟩ := backA_sound e1
      have hpu : p.1 ∉ u := fun hx => by
        have : u.any (Nat.beq p.1) = true := List.any_eq_true.2 ⟨_, hx, Nat.beq_refl _⟩
        rw [this] at hm
        cases hm
      refine ⟨fun y hy hyu => ?_, fun y => ?_⟩
      · rcases List.mem_cons.1 hy with rfl | hy
        · exact absurd hyu hpu
        · exact h1 y hy hyu
      · rw [List.mem_cons, h2, List.mem_cons]
        constructor
        · rintro (rfl | ⟨a, b⟩)
          · exact ⟨.inl rfl, hpu⟩
          · exact ⟨.inr a, b⟩
        · rintro ⟨rfl | a, b⟩
          · exact .inl rfl
          · exact .inr ⟨a, b⟩

theorem turnG_get : ∀ {u gs : List Nat} {q : Nat}, u.Nodup → (∀ x, x ∈ u → x < gs.length) → (turnG u gs).getD q 0 = if q ∈ u then gs.getD q 0 + 2 else gs.getD q 0
  | [], gs, q, _, _ => by simp [turnG]
  | x :: r, gs, q, hn, hl => by
    simp only [List.nodup_cons] at hn
    simp only [turnG]
    rw [turnG_get hn.2 (fun y hy => by simpa using hl y (by simp [hy]))]
    have hx := hl x (by simp)
    by_cases e : q = x
    · subst e
      rw [if_neg hn.1, if_pos (by simp), List.getD_eq_getElem?_getD, List.getElem?_set_self hx]
      rfl
    · have h1 : (gs.set x (gs.getD x 0 + 2)).getD q 0 = gs.getD q 0 := getD_setn (fun h => e h.symm)
      rw [h1]
      by_cases hq : q ∈ r
      · rw [if_pos hq, if_pos (by simp [hq])]
      · rw [if_neg hq, if_neg (by simp [e, hq])]

section
variable {c : Ctx} {I : Nat → Prop} {L : Ref → Option Pl} {s : St} {a : Act} {w : World} {call : CallF}

/-- a slice that went over lies at its new place -/
theorem newPl_ok (h : Sim c I L s a w) {s0 : St} {k i q G : Nat} {t : Ty} {l' : List (Val t)} {src : Src} {v : Value} (ht : Taken L s0 k i q t l' src v) (hrd : ∀ r, src.ref k i q = some r → s.rd r = s0.rd r) :
    (newPl L k i q t G src).w = t.size ∧ (newPl L k i q t G src).gen = G ∧ BlkOK (c.rc I L w) L w (newPl L k i q t G src) { ct := .sl t l', gen := G, frozen := false } ∧
    (∀ R' L' , L' (.o k i q) = some (newPl L k i q t G src) → Rep R' L' (.lsl t (.o k i q) 0 l'.length G) v) ∧
    ((newPl L k i q t G src).virt = false → ∃ r p, src.ref k i q = some r ∧ L r = some p ∧ p.virt = false ∧ (newPl L k i q t G src).b = p.b ∧ ¬ I p.b) := by
  obtain ⟨ad, cap, hv, hcap, hsome, ht⟩ := ht
  unfold newPl
  cases hr : src.ref k i q with
  | none =>
    rw [hr] at ht
    simp only at ht
    have hl0 : l' = [] := List.length_eq_zero_iff.1 (by omega)
    refine ⟨rfl, rfl, ⟨rfl, .inl ⟨rfl, hl0, rfl⟩⟩, fun R' L' hL => ?_, fun hv => by cases hv⟩
    simp only [Rep]
    exact ⟨_, hL, rfl, Nat.le_refl _, ad, cap, hv, hcap, hsome, fun _ => .inl ht⟩
  | some r =>
    rw [hr] at ht
    simp only at ht
    obtain ⟨p, b, l0, hp, hb, hz, hbg, hct, _, hle, hl', hor⟩ := ht
    have hb' : s.rd r = some b := by rw [hrd r hr]; exact hb
    obtain ⟨⟨hpg, hk⟩, hf⟩ := h.get hp hb'
    rw [hct] at hk
    simp only [hp]
    have hpw : p.w = t.size := by
      rcases hk with ⟨_, _, h1⟩ | ⟨_, h1, _⟩
      · exact h1
      · exact h1
    refine ⟨hpw, trivial, ⟨rfl, ?_⟩, fun R' L' hL => ?_, fun hpv => ⟨r, p, rfl, hp, hpv, rfl, hf hz hpv⟩⟩
    · rcases hk with ⟨hpv, rfl, _⟩ | ⟨hpv, _, cs, T, hh, hs, hsz, hrow⟩
      · exact .inl ⟨hpv, by rw [hl']; simp, hpw⟩
      · refine .inr ⟨hpv, hpw, cs, T, hh, hs, ?_, fun j hj => ?_⟩
        · have : (src.at + l'.length) * p.w ≤ l0.length * p.w := Nat.mul_le_mul_right _ hle
          rw [Nat.add_mul] at this
          simp only
          omega
        · have hget : l'.getD j (dfl t) = l0.getD (src.at + j) (dfl t) := by
            rw [hl']
            exact getD_cut l0 src.at l'.length j _ hj
          rw [hget]
          obtain ⟨d, hd, hat⟩ := hrow (src.at + j) (by omega)
          refine ⟨d, hd, ?_⟩
          simp only
          rw [Nat.add_assoc, ← Nat.add_mul]
          exact hat
    · simp only [Rep]
      refine ⟨_, hL, hpw, Nat.le_refl _, ad, cap, hv, hcap, hsome, fun _ => ?_⟩
      rcases hor with h0 | ⟨h1, h2, h3⟩
      · exact .inl h0
      · refine .inr ⟨h1, by simpa using h2, ?_⟩
        simp only [Nat.zero_add]
        rw [Nat.add_mul] at h3
        omega

/-- the row of another object, whose slices were turned -/
theorem rowO_regen {R R' : RC} {L L' : Ref → Option Pl} {k i : Nat} {st st' : Nat → Bool} {gs gs' : List Nat} (hr : RLe R R') (hl : LLe L L')
    (hs : ∀ q, st q = true → st' q = true) (hq : ∀ q, gs'.getD q 0 = gs.getD q 0 ∨ ∀ p, L (.o k i q) = some p → p.gen = gs.getD q 0 → L' (.o k i q) = some { p with gen := gs'.getD q 0 }) (hlt : ∀ q p, L (.o k i q) = some p → st q = false → 1 ≤ q → p.gen = gs.getD q 0) : ∀ {cs : List Cell} {q : Nat} {x : Val (rowsTy cs)} {ys : List Value}, 1 ≤ q →
    RepL R L (rowO k i st gs cs q x) ys → RepL R' L' (rowO k i st' gs' cs q x) ys
  | [], _, _, _, _, h => h
  | .d t :: r, q, x, ys, h1, h => by
    simp only [rowO] at h ⊢
    obtain ⟨c, d, rfl, hc, hd⟩ := h.split
    exact (hc.mono hr hl).append (rowO_regen hr hl hs hq hlt h1 hd)
  | .sl t :: r, q, x, ys, h1, h => by
    simp only [rowO, RepL] at h ⊢
    obtain ⟨y, tl, rfl, hy, ht⟩ := h
    refine ⟨y, tl, rfl, ?_, rowO_regen hr hl hs hq hlt (by omega) ht⟩
    cases h2 : st' q with
    | true => simp [Rep]
    | false =>
      have h3 : st q = false := by
        cases h3 : st q with
        | true => rw [hs q h3] at h2; cases h2
        | false => rfl
      rw [h3] at hy
      rcases hq q with e | e
      · rw [e]
        exact hy.mono hr hl
      · simp only [Rep] at hy ⊢
        obtain ⟨p, hp, hw, hge, ad, cap, hv, hcap, hsome, hcur⟩ := hy
        have hg := hlt q p hp h3 h1
        exact ⟨_, e p hp hg, hw, Nat.le_refl _, ad, cap, hv, hcap, hsome, fun _ => hcur hg⟩

end
end Go.Eng
