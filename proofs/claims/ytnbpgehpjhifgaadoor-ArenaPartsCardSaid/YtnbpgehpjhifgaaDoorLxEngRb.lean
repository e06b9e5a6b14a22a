/-
  The abstract machine, part 17b: a call's beginning.
-/
import Derived.Test.YtnbpgehpjhifgaaDoorLxEngRa
namespace Go.Eng

/-- the places that a call knows of -/
def calleeL (E : Env) (ks : List Nat) (L : Ref → Option Pl) : Ref → Option Pl
  | .l id => if id < E.kinds.length then some ⟨0, 0, 0, 0, 0, true⟩ else none
  | .o k i q => if k ∈ ks then (L (.o k i q)).map fun p => { p with gen := 0 } else none

/-- the blocks that it may change -/
def calleeRt (ks : List Nat) (L : Ref → Option Pl) : Nat → Prop := fun b => ∃ k i q p, k ∈ ks ∧ L (.o k i q) = some p ∧ p.virt = false ∧ p.b = b

def calleeC (c : Ctx) (I : Nat → Prop) (L : Ref → Option Pl) (w : World) (ks : List Nat) : Ctx := ⟨c.P, c.E, c.S, w, I, calleeRt ks L, fun k i => calleeL c.E ks L (.o k i 0)⟩

section
variable {c : Ctx} {I : Nat → Prop} {L : Ref → Option Pl} {s : St} {a : Act} {w : World} {call : CallF}

theorem rdAll_sound {s : St} : ∀ {ks : List Nat} {bs : List Blk} {rs : List Nat}, (rdAll ks).run call s.rd = some (bs, rs) → bs.length = ks.length ∧ (∀ (j k : Nat) (b : Blk), ks[j]? = some k → bs[j]? = some b → s.heap[k]? = some (some b)) ∧ rs = ks
  | [], bs, rs, e => by
    obtain ⟨rfl, rfl⟩ := HM.run_ret e
    exact ⟨rfl, (fun j k b h _ => by simp at h), rfl⟩
  | k :: r, bs, rs, e => by
    simp only [rdAll] at e
    obtain ⟨b, l', hb, e1, rfl⟩ := HM.run_rd e
    obtain ⟨l, l1, l2, e2, e3, rfl⟩ := HM.run_bind e1
    obtain ⟨rfl, rfl⟩ := HM.run_ret e3
    obtain ⟨h1, h2, h3⟩ := rdAll_sound e2
    refine ⟨by simp [h1], fun j k' b' hj hb' => ?_, by rw [h3]; simp [Ref.ix]⟩
    cases j with
    | zero =>
      simp only [List.getElem?_cons_zero, Option.some.injEq] at hj hb'
      subst hj; subst hb'
      exact rdv_l.1 (show rdv s.heap (.l k) = some b from hb)
    | succ j => exact h2 j k' b' (by simpa using hj) (by simpa using hb')

theorem cleanB_inv {ks : List Nat} {b : Blk} (h : cleanB ks b = true) : ∃ cs l gs, b.ct = .tab cs l [] gs ∧ cs.all (Cell.ok ks false) = true := by
  unfold cleanB at h
  split at h
  · rename_i cs l st gs hct
    simp only [Bool.and_eq_true] at h
    have hst : st = [] := by simpa using h.1
    subst hst
    exact ⟨cs, l, gs, hct, h.2⟩
  · cases h

/-- a kind that goes in -/
theorem kind_in {ks : List Nat} {bs : List Blk} (hlen : bs.length = ks.length) (hb : ∀ (j k : Nat) (b : Blk), ks[j]? = some k → bs[j]? = some b → s.heap[k]? = some (some b)) (hclean : bs.all (cleanB ks) = true) {k : Nat} (hk : k ∈ ks) :
    ∃ (j : Nat) (b : Blk) (cs : List Cell) (l : List (Val (rowsTy cs))) (gs : List Nat), ks[j]? = some k ∧ bs[j]? = some b ∧ s.heap[k]? = some (some b) ∧ b.ct = .tab cs l [] gs ∧ cs.all (Cell.ok ks false) = true := by
  obtain ⟨j, hj, e⟩ := List.getElem_of_mem hk
  have hj' : j < bs.length := by rw [hlen]; exact hj
  have h1 : ks[j]? = some k := by rw [List.getElem?_eq_getElem hj, e]
  have h2 : bs[j]? = some bs[j] := List.getElem?_eq_getElem hj'
  rw [List.all_eq_true] at hclean
  obtain ⟨cs, l, gs, hct, hcs⟩ := cleanB_inv (hclean bs[j] (List.getElem_mem hj'))
  exact ⟨j, bs[j], cs, l, gs, h1, h2, hb j k _ h1 h2, hct, hcs⟩

theorem zeros_getD {n : Nat} (q : Nat) : (List.replicate n 0).getD q 0 = 0 := by
  rw [List.getD_eq_getElem?_getD, List.getElem?_replicate]
  split <;> rfl

theorem slice_gen (h : Sim c I L s a w) {k i q : Nat} {b : Blk} {cs : List Cell} {l : List (Val (rowsTy cs))} {gs : List Nat} (hb : s.heap[k]? = some (some b)) (hct : b.ct = .tab cs l [] gs) {p : Pl} (hp : L (.o k i q) = some p) :
    i < l.length ∧ (q = 0 → p.gen = 0) ∧ (1 ≤ q → p.gen = gs.getD q 0 ∧ q ∈ ownQs cs 1 ∧ ∃ t y, slO q cs 1 (l.getD i (dfl (rowsTy cs))) = some ⟨t, y⟩ ∧ p.w = t.size) := by
  obtain ⟨x, hx⟩ := h.dom _ p hp
  obtain ⟨p2, hp2, hk, _⟩ := h.blk _ x hx
  rw [hp] at hp2
  injection hp2 with hp2
  subst hp2
  simp only [rdv, hb, hct] at hx
  split at hx
  · rename_i hlt
    refine ⟨hlt, fun h0 => ?_, fun h1 => ?_⟩
    · subst h0
      simp only [viewV, Option.some.injEq] at hx
      subst hx
      exact hk.1
    · obtain ⟨q, rfl⟩ := Nat.exists_eq_add_of_le' h1
      simp only [viewV] at hx
      split at hx
      · rename_i t y hsl
        simp only [List.not_mem_nil, if_false, Option.some.injEq] at hx
        subst hx
        refine ⟨hk.1, slO_own hsl, t, y, hsl, ?_⟩
        rcases hk.2 with ⟨_, _, h1⟩ | ⟨_, h1, _⟩
        · exact h1
        · exact h1
      · cases hx
  · cases hx

theorem Sim.callee (h : Sim c I L s a w) {ks : List Nat} {bs : List Blk} {ids : List Ref} {as : List AV} {vs : Array Value} (hnd : ks.Nodup) (hlt : ∀ k, k ∈ ks → k < c.E.kinds.length) (hlen : bs.length = ks.length)
    (hb : ∀ (j k : Nat) (b : Blk), ks[j]? = some k → bs[j]? = some b → s.heap[k]? = some (some b)) (hclean : bs.all (cleanB ks) = true) (told : Told L s ids) (hap : apartR ks ids = true) (hargs : RepL (c.rc (heldBy I L ids) L w) noL as vs.toList) (hok : as.all (AV.ok ks false 0 8) = true) :
    Sim (calleeC c (heldBy I L ids) L w ks) (heldBy I L ids) (calleeL c.E ks L) ⟨as, entryH c.E ks (bs.map handB)⟩ { tmps := vs, defers := [] } w := by
  have hko : ∀ k i q, k ∈ ks → calleeL c.E ks L (.o k i q) = (L (.o k i q)).map fun p => { p with gen := 0 } := fun k i q hk => if_pos hk
  have hkn : ∀ k i q, k ∉ ks → calleeL c.E ks L (.o k i q) = none := fun k i q hk => if_neg hk
  have hrt : RTo (c.rc (heldBy I L ids) L w) (rcW (statOf c.E c.S) (heldBy I L ids) (calleeL c.E ks L) w) ks false := by
    refine ⟨rfl, rfl, fun _ _ hb => hb, fun k i b hk hb => ?_⟩
    simp only [Ctx.rc, rcW, hOf] at hb ⊢
    rw [hko k i 0 hk]
    cases hL : L (.o k i 0) with
    | none => rw [hL] at hb; cases hb
    | some p => rw [hL] at hb; exact hb
  have hrt0 : RTo (c.rc I L w) (rcW (statOf c.E c.S) (heldBy I L ids) (calleeL c.E ks L) w) ks false :=
    ⟨rfl, rfl, fun _ b hb => .inl hb, hrt.h⟩
  have hat : ∀ k, k ∈ ks → ∃ b cs l gs, s.heap[k]? = some (some b) ∧ b.ct = .tab cs l [] gs ∧ cs.all (Cell.ok ks false) = true ∧ (entryH c.E ks (bs.map handB))[k]? = some (some { ct := .tab cs l [] (List.replicate ((ownQs cs 1).length + 1) 0), gen := 0, frozen := false }) := by
    intro k hk
    obtain ⟨j, b, cs, l, gs, h1, h2, h3, h4, h5⟩ := kind_in hlen hb hclean hk
    refine ⟨b, cs, l, gs, h3, h4, h5, ?_⟩
    refine putK_at _ ks _ j k _ hnd (fun k hk => by simpa using hlt k hk) h1 ?_
    rw [List.getElem?_map, h2]
    simp only [Option.map_some, handB, h4]
  have hnot : ∀ k, k ∉ ks → ∀ x, (entryH c.E ks (bs.map handB))[k]? = some (some x) → ∃ cs, x = tab0 cs := by
    intro k hk x hx
    unfold entryH at hx
    rw [putK_other _ ks _ k hk, List.getElem?_map] at hx
    obtain ⟨cs, _, e⟩ := Option.map_eq_some_iff.1 hx
    injection e with e
    exact ⟨cs, e.symm⟩
  have hheld : ∀ k i q p, k ∈ ks → L (.o k i q) = some p → p.virt = false → ¬ I p.b → ¬ heldBy I L ids p.b := by
    intro k i q p hk hp hv hI hh
    rcases hh with hh | ⟨id, p', hid, hp', hv', hbb⟩
    · exact hI hh
    · have := h.inj _ _ p p' hp hp' hv hv' hbb
      subst this
      simp only [apartR, List.all_eq_true] at hap
      have := hap _ hid
      simp only [Bool.not_eq_true'] at this
      rw [any_beq.2 hk] at this
      cases this
  have hview : ∀ k i q x, k ∈ ks → rdv (entryH c.E ks (bs.map handB)) (.o k i q) = some x → ∃ y p, rdv s.heap (.o k i q) = some y ∧ L (.o k i q) = some p ∧ BlkOK (c.rc I L w) L w p y ∧ (p.virt = false → ¬ I p.b) ∧ x.frozen = false ∧
      BlkOK (rcW (statOf c.E c.S) (heldBy I L ids) (calleeL c.E ks L) w) (calleeL c.E ks L) w { p with gen := 0 } x := by
    intro k i q x hk hx
    obtain ⟨b, cs, l, gs, h1, h2, h3, h4⟩ := hat k hk
    simp only [rdv, h4] at hx
    split at hx
    rotate_left
    · cases hx
    rename_i hil
    cases q with
    | zero =>
      simp only [viewV, Option.some.injEq] at hx
      subst hx
      have hbox : rdv s.heap (.o k i 0) = some { ct := .box (rowO k i (fun q => decide ((q, i) ∈ ([] : List (Nat × Nat)))) gs cs 1 (l.getD i (dfl (rowsTy cs)))), gen := 0, frozen := false } := by
        simp only [rdv, h1, h2, if_pos hil, viewV]
      obtain ⟨p, hp, hkk, hf⟩ := h.blk _ _ hbox
      refine ⟨_, p, hbox, hp, hkk, hf rfl, rfl, ?_⟩
      obtain ⟨e1, e2, e3, cc, T, e4, e5⟩ := hkk
      refine ⟨rfl, e2, e3, cc, T, e4, ?_⟩
      refine rowO_to hrt0 (fun q p hp hq => ?_) h3 (Nat.le_refl 1) e5
      obtain ⟨_, _, hg⟩ := slice_gen h h1 h2 hp
      refine ⟨(hg hq).1, ?_⟩
      rw [hko k i q hk, hp, zeros_getD]
      rfl
    | succ q =>
      simp only [viewV] at hx
      split at hx
      rotate_left
      · cases hx
      rename_i t y hsl
      simp only [List.not_mem_nil, if_false, Option.some.injEq, zeros_getD] at hx
      subst hx
      have hsl0 : rdv s.heap (.o k i (q + 1)) = some { ct := .sl t y, gen := gs.getD (q + 1) 0, frozen := false } := by
        simp only [rdv, h1, h2, if_pos hil, viewV, hsl, List.not_mem_nil, if_false]
      obtain ⟨p, hp, hkk, hf⟩ := h.blk _ _ hsl0
      refine ⟨_, p, hsl0, hp, hkk, hf rfl, rfl, rfl, ?_⟩
      have htk := slO_ty h3 hsl
      rcases hkk.2 with ⟨e1, e2, e3⟩ | ⟨e1, e2, cc, T, e3, e4, e5, e6⟩
      · exact .inl ⟨e1, e2, e3⟩
      · refine .inr ⟨e1, e2, cc, T, e3, e4, e5, fun j hj => ?_⟩
        obtain ⟨d, hd, hda⟩ := e6 j hj
        exact ⟨d, RepT.to hrt0 t htk hd, hrt0.at hda⟩
  have hviewL : ∀ k i q p, k ∈ ks → L (.o k i q) = some p → ∃ x, rdv (entryH c.E ks (bs.map handB)) (.o k i q) = some x := by
    intro k i q p hk hp
    obtain ⟨b, cs, l, gs, h1, h2, h3, h4⟩ := hat k hk
    obtain ⟨hil, _, hq⟩ := slice_gen h h1 h2 hp
    simp only [rdv, h4, if_pos hil]
    cases q with
    | zero => exact ⟨_, rfl⟩
    | succ q =>
      obtain ⟨_, _, t, y, hsl, _⟩ := hq (by omega)
      simp only [viewV, hsl]
      exact ⟨_, rfl⟩
  have hLo : ∀ r p, calleeL c.E ks L r = some p → p.virt = false → ∃ k i q p0, r = .o k i q ∧ k ∈ ks ∧ L (.o k i q) = some p0 ∧ p = { p0 with gen := 0 } := by
    intro r p hp hv
    cases r with
    | l id =>
      simp only [calleeL] at hp
      split at hp
      · injection hp with hp
        subst hp
        cases hv
      · cases hp
    | o k i q =>
      by_cases hk : k ∈ ks
      · rw [hko k i q hk] at hp
        obtain ⟨p0, hp0, rfl⟩ := Option.map_eq_some_iff.1 hp
        exact ⟨k, i, q, p0, rfl, hk, hp0, rfl⟩
      · rw [hkn k i q hk] at hp
        cases hp
  refine ⟨?_, rfl, fun r x hx => ?_, fun r p hp => ?_, fun r p hp hv => ?_, fun r r' p p' hp hp' hv hv' hbb => ?_, fun b hb => ?_, fun b hb => hb, fun b hb => .inl hb, fun b _ _ => rfl, fun b hb => ?_, fun k i p hp => hp, Nat.le_refl _, IO.refl w⟩
  · exact RepL.to_all hok (fun x v _ hx hr => (Rep.to (L := noL) (L' := noL) hrt (fun _ _ _ e => e) 8 hx hr).noL) hargs
  · cases r with
    | l id =>
      have hx' := rdv_l.1 hx
      have hid : id < c.E.kinds.length := by
        have := (List.getElem?_eq_some_iff.1 hx').1
        rw [entryH_length] at this
        exact this
      refine ⟨⟨0, 0, 0, 0, 0, true⟩, by simp only [calleeL, if_pos hid], ?_, fun _ hv => by cases hv⟩
      by_cases hk : id ∈ ks
      · obtain ⟨b, cs, l, gs, h1, h2, h3, h4⟩ := hat id hk
        rw [h4] at hx'
        injection hx' with hx'
        injection hx' with hx'
        subst hx'
        exact ⟨rfl, rfl⟩
      · obtain ⟨cs, rfl⟩ := hnot id hk x hx'
        exact ⟨rfl, rfl⟩
    | o k i q =>
      by_cases hk : k ∈ ks
      · obtain ⟨y, p, _, hp, _, hI, hz, hkk⟩ := hview k i q x hk hx
        exact ⟨{ p with gen := 0 }, by rw [hko k i q hk, hp]; rfl, hkk, fun _ hv => hheld k i q p hk hp hv (hI hv)⟩
      · exfalso
        simp only [rdv] at hx
        split at hx
        · rename_i x0 hx0
          obtain ⟨cs, rfl⟩ := hnot k hk x0 hx0
          simp [tab0] at hx
        · cases hx
  · cases r with
    | l id =>
      simp only [calleeL] at hp
      split at hp
      · rename_i hid
        by_cases hk : id ∈ ks
        · obtain ⟨b, cs, l, gs, h1, h2, h3, h4⟩ := hat id hk
          exact ⟨_, rdv_l.2 h4⟩
        · refine ⟨tab0 (c.E.kinds[id]), rdv_l.2 ?_⟩
          unfold entryH
          rw [putK_other _ ks _ id hk, List.getElem?_map, List.getElem?_eq_getElem hid]
          rfl
      · cases hp
    | o k i q =>
      by_cases hk : k ∈ ks
      · rw [hko k i q hk] at hp
        obtain ⟨p0, hp0, rfl⟩ := Option.map_eq_some_iff.1 hp
        exact hviewL k i q p0 hk hp0
      · rw [hkn k i q hk] at hp
        cases hp
  · obtain ⟨k, i, q, p0, rfl, hk, hp0, rfl⟩ := hLo r p hp hv
    exact ⟨.inr ⟨k, i, q, p0, hk, hp0, hv, rfl⟩, (h.own _ p0 hp0 hv).2⟩
  · obtain ⟨k, i, q, p0, rfl, hk, hp0, rfl⟩ := hLo r p hp hv
    obtain ⟨k', i', q', p0', rfl, hk', hp0', rfl⟩ := hLo r' p' hp' hv'
    exact h.inj _ _ p0 p0' hp0 hp0' hv hv' hbb
  · rcases hb with hb | ⟨id, p, _, hp, hv, rfl⟩
    · exact h.imm b hb
    · exact (h.own id p hp hv).2
  · obtain ⟨h1, h2⟩ := h.fix b hb
    refine ⟨Nat.lt_of_lt_of_le h1 h.grow, ?_⟩
    rintro ⟨k, i, q, p, _, hp, hv, rfl⟩
    rcases (h.own _ p hp hv).1 with h3 | h3
    · omega
    · exact h2 h3

end
end Go.Eng
