/-
  Texts of the proof, one behind the other.
-/
import Derived.Test.YtpekhdbkekiblaaGreatDoorLxPc
import Derived.Laws.StructEq

/-
  The abstract machine, part 17b: a call's beginning.
-/
namespace Go.Eng

/-- the places that a call knows of -/
def calleeL (E : Env) (ks : List Nat) (L : Ref → Option Pl) : Ref → Option Pl
  | .l id => if id < E.kinds.length then some ⟨0, 0, 0, 0, 0, true⟩ else none
  | .o k i q => if k ∈ ks then (L (.o k i q)).map fun p => { p with gen := 0 } else none

/-- the blocks that it may change -/
def calleeRt (ks : List Nat) (L : Ref → Option Pl) : Nat → Prop := fun b => ∃ k i q p, k ∈ ks ∧ L (.o k i q) = some p ∧ p.virt = false ∧ p.b = b

def calleeC (c : Ctx) (I : Nat → Prop) (L : Ref → Option Pl) (w : World) (ks : List Nat) : Ctx := ⟨c.P, c.E, c.S, w, I, calleeRt ks L, fun k i => calleeL c.E ks L (.o k i 0), []⟩

section
variable {c : Ctx} {I : Nat → Prop} {L : Ref → Option Pl} {s : St} {a : Act} {w : World} {call : CallF}

theorem rdAll_sound {s : St} : ∀ {ks : List Nat} {bs : List Blk} {rs : List Nat}, (rdAll ks).run call s.rd = some (bs, rs) → bs.length = ks.length ∧ (∀ (j k : Nat) (b : Blk), ks[j]? = some k → bs[j]? = some b → s.heap[k]? = some (some b)) ∧ rs = ks
  | [], bs, rs, e => by
    obtain ⟨rfl, rfl⟩ := HM.run_ret e
    exact ⟨rfl, (fun j k b h _ => by simp at h), rfl⟩
  | k :: r, bs, rs, e => by
    simp only [rdAll] at e
    obtain ⟨b, l', hb, e1, rfl⟩ := HM.run_rd e
    obtain ⟨l, l1, l2, e2, e3, rfl⟩ := HM.run_bind e1
    obtain ⟨rfl, rfl⟩ := HM.run_ret e3
    obtain ⟨h1, h2, h3⟩ := rdAll_sound e2
    refine ⟨by simp [h1], fun j k' b' hj hb' => ?_, by rw [h3]; simp [Ref.ix]⟩
    cases j with
    | zero =>
      simp only [List.getElem?_cons_zero, Option.some.injEq] at hj hb'
      subst hj; subst hb'
      exact rdv_l.1 (show rdv s.heap (.l k) = some b from hb)
    | succ j => exact h2 j k' b' (by simpa using hj) (by simpa using hb')

theorem cleanB_inv {ks : List Nat} {b : Blk} (h : cleanB ks b = true) : ∃ cs l gs, b.ct = .tab cs l [] gs ∧ cs.all (Cell.ok ks false) = true := by
  unfold cleanB at h
  split at h
  · rename_i cs l st gs hct
    simp only [Bool.and_eq_true] at h
    have hst : st = [] := by simpa using h.1
    subst hst
    exact ⟨cs, l, gs, hct, h.2⟩
  · cases h

/-- a kind that goes in -/
theorem kind_in {ks : List Nat} {bs : List Blk} (hlen : bs.length = ks.length) (hb : ∀ (j k : Nat) (b : Blk), ks[j]? = some k → bs[j]? = some b → s.heap[k]? = some (some b)) (hclean : bs.all (cleanB ks) = true) {k : Nat} (hk : k ∈ ks) :
    ∃ (j : Nat) (b : Blk) (cs : List Cell) (l : List (Val (rowsTy cs))) (gs : List Nat), ks[j]? = some k ∧ bs[j]? = some b ∧ s.heap[k]? = some (some b) ∧ b.ct = .tab cs l [] gs ∧ cs.all (Cell.ok ks false) = true := by
  obtain ⟨j, hj, e⟩ := List.getElem_of_mem hk
  have hj' : j < bs.length := by rw [hlen]; exact hj
  have h1 : ks[j]? = some k := by rw [List.getElem?_eq_getElem hj, e]
  have h2 : bs[j]? = some bs[j] := List.getElem?_eq_getElem hj'
  rw [List.all_eq_true] at hclean
  obtain ⟨cs, l, gs, hct, hcs⟩ := cleanB_inv (hclean bs[j] (List.getElem_mem hj'))
  exact ⟨j, bs[j], cs, l, gs, h1, h2, hb j k _ h1 h2, hct, hcs⟩

theorem zeros_getD {n : Nat} (q : Nat) : (List.replicate n 0).getD q 0 = 0 := by
  rw [List.getD_eq_getElem?_getD, List.getElem?_replicate]
  split <;> rfl

theorem slice_gen (h : Sim c I L s a w) {k i q : Nat} {b : Blk} {cs : List Cell} {l : List (Val (rowsTy cs))} {gs : List Nat} (hb : s.heap[k]? = some (some b)) (hct : b.ct = .tab cs l [] gs) {p : Pl} (hp : L (.o k i q) = some p) :
    i < l.length ∧ (q = 0 → p.gen = 0) ∧ (1 ≤ q → p.gen = gs.getD q 0 ∧ q ∈ ownQs cs 1 ∧ ∃ t y, slO q cs 1 (l.getD i (dfl (rowsTy cs))) = some ⟨t, y⟩ ∧ p.w = t.size) := by
  obtain ⟨x, hx⟩ := h.dom _ p hp
  obtain ⟨p2, hp2, hk, _⟩ := h.blk _ x hx
  rw [hp] at hp2
  injection hp2 with hp2
  subst hp2
  simp only [rdv, hb, hct] at hx
  split at hx
  · rename_i hlt
    refine ⟨hlt, fun h0 => ?_, fun h1 => ?_⟩
    · subst h0
      simp only [viewV, Option.some.injEq] at hx
      subst hx
      exact hk.1
    · obtain ⟨q, rfl⟩ := Nat.exists_eq_add_of_le' h1
      simp only [viewV] at hx
      split at hx
      · rename_i t y hsl
        simp only [List.not_mem_nil, if_false, Option.some.injEq] at hx
        subst hx
        refine ⟨hk.1, slO_own hsl, t, y, hsl, ?_⟩
        rcases hk.2 with ⟨_, _, h1⟩ | ⟨_, h1, _⟩
        · exact h1
        · exact h1
      · cases hx
  · cases hx

theorem Sim.callee (h : Sim c I L s a w) {ks : List Nat} {bs : List Blk} {ids : List Ref} {as : List AV} {vs : Array Value} (hnd : ks.Nodup) (hlt : ∀ k, k ∈ ks → k < c.E.kinds.length) (hlen : bs.length = ks.length)
    (hb : ∀ (j k : Nat) (b : Blk), ks[j]? = some k → bs[j]? = some b → s.heap[k]? = some (some b)) (hclean : bs.all (cleanB ks) = true) (told : Told L s ids) (hap : apartR ks ids = true) (hargs : RepL (c.rc (heldBy I L ids) L w) noL as vs.toList) (hok : as.all (AV.ok ks false 0 8) = true) :
    Sim (calleeC c (heldBy I L ids) L w ks) (heldBy I L ids) (calleeL c.E ks L) ⟨as, entryH c.E ks (bs.map handB)⟩ { tmps := vs, defers := [] } w := by
  have hko : ∀ k i q, k ∈ ks → calleeL c.E ks L (.o k i q) = (L (.o k i q)).map fun p => { p with gen := 0 } := fun k i q hk => if_pos hk
  have hkn : ∀ k i q, k ∉ ks → calleeL c.E ks L (.o k i q) = none := fun k i q hk => if_neg hk
  have hrt : RTo (c.rc (heldBy I L ids) L w) (rcW (statOf c.E c.S) (heldBy I L ids) (calleeL c.E ks L) w) ks false := by
    refine ⟨rfl, rfl, fun _ _ hb => hb, fun k i b hk hb => ?_⟩
    simp only [Ctx.rc, rcW, hOf] at hb ⊢
    rw [hko k i 0 hk]
    cases hL : L (.o k i 0) with
    | none => rw [hL] at hb; cases hb
    | some p => rw [hL] at hb; exact hb
  have hrt0 : RTo (c.rc I L w) (rcW (statOf c.E c.S) (heldBy I L ids) (calleeL c.E ks L) w) ks false :=
    ⟨rfl, rfl, fun _ b hb => .inl hb, hrt.h⟩
  have hat : ∀ k, k ∈ ks → ∃ b cs l gs, s.heap[k]? = some (some b) ∧ b.ct = .tab cs l [] gs ∧ cs.all (Cell.ok ks false) = true ∧ (entryH c.E ks (bs.map handB))[k]? = some (some { ct := .tab cs l [] (List.replicate ((ownQs cs 1).length + 1) 0), gen := 0, frozen := false }) := by
    intro k hk
    obtain ⟨j, b, cs, l, gs, h1, h2, h3, h4, h5⟩ := kind_in hlen hb hclean hk
    refine ⟨b, cs, l, gs, h3, h4, h5, ?_⟩
    refine putK_at _ ks _ j k _ hnd (fun k hk => by simpa using hlt k hk) h1 ?_
    rw [List.getElem?_map, h2]
    simp only [Option.map_some, handB, h4]
  have hnot : ∀ k, k ∉ ks → ∀ x, (entryH c.E ks (bs.map handB))[k]? = some (some x) → ∃ cs, x = tab0 cs := by
    intro k hk x hx
    unfold entryH at hx
    rw [putK_other _ ks _ k hk, List.getElem?_map] at hx
    obtain ⟨cs, _, e⟩ := Option.map_eq_some_iff.1 hx
    injection e with e
    exact ⟨cs, e.symm⟩
  have hheld : ∀ k i q p, k ∈ ks → L (.o k i q) = some p → p.virt = false → ¬ I p.b → ¬ heldBy I L ids p.b := by
    intro k i q p hk hp hv hI hh
    rcases hh with hh | ⟨id, p', hid, hp', hv', hbb⟩
    · exact hI hh
    · have := h.inj _ _ p p' hp hp' hv hv' hbb
      subst this
      simp only [apartR, List.all_eq_true] at hap
      have := hap _ hid
      simp only [Bool.not_eq_true'] at this
      rw [any_beq.2 hk] at this
      cases this
  have hview : ∀ k i q x, k ∈ ks → rdv (entryH c.E ks (bs.map handB)) (.o k i q) = some x → ∃ y p, rdv s.heap (.o k i q) = some y ∧ L (.o k i q) = some p ∧ BlkOK (c.rc I L w) L w p y ∧ (p.virt = false → ¬ I p.b) ∧ x.frozen = false ∧
      BlkOK (rcW (statOf c.E c.S) (heldBy I L ids) (calleeL c.E ks L) w) (calleeL c.E ks L) w { p with gen := 0 } x := by
    intro k i q x hk hx
    obtain ⟨b, cs, l, gs, h1, h2, h3, h4⟩ := hat k hk
    simp only [rdv, h4] at hx
    split at hx
    rotate_left
    · cases hx
    rename_i hil
    cases q with
    | zero =>
      simp only [viewV, Option.some.injEq] at hx
      subst hx
      have hbox : rdv s.heap (.o k i 0) = some { ct := objCt k i (fun q => decide ((q, i) ∈ ([] : List (Nat × Nat)))) gs cs (l.getD i (dfl (rowsTy cs))), gen := 0, frozen := false } := by
        simp only [rdv, h1, h2, if_pos hil, viewV]
      obtain ⟨p, hp, hkk, hf⟩ := h.blk _ _ hbox
      refine ⟨_, p, hbox, hp, hkk, hf rfl, rfl, ?_⟩
      obtain ⟨e1, hkk⟩ := hkk
      refine ⟨rfl, ?_⟩
      cases hm : mapL cs (l.getD i (dfl (rowsTy cs))) with
      | none =>
        simp only [objCt, hm] at hkk ⊢
        obtain ⟨e2, e3, cc, T, e4, e5⟩ := hkk
        refine ⟨e2, e3, cc, T, e4, ?_⟩
        refine rowO_to hrt0 (fun q p hp hq => ?_) h3 (Nat.le_refl 1) e5
        obtain ⟨_, _, hg⟩ := slice_gen h h1 h2 hp
        refine ⟨(hg hq).1, ?_⟩
        rw [hko k i q hk, hp, zeros_getD]
        rfl
      | some m =>
        obtain ⟨ka, kb, kl, kc, rfl⟩ := mapL_some hm
        simp only [objCt, hm] at hkk ⊢
        obtain ⟨e2, e3, es, e4, e5⟩ := hkk
        obtain ⟨o1, o2⟩ := mapL_ok hm h3
        exact ⟨e2, e3, es, e4, e5.to hrt0 o1 o2⟩
    | succ q =>
      simp only [viewV] at hx
      split at hx
      rotate_left
      · cases hx
      rename_i t y hsl
      simp only [List.not_mem_nil, if_false, Option.some.injEq, zeros_getD] at hx
      subst hx
      have hsl0 : rdv s.heap (.o k i (q + 1)) = some { ct := .sl t y, gen := gs.getD (q + 1) 0, frozen := false } := by
        simp only [rdv, h1, h2, if_pos hil, viewV, hsl, List.not_mem_nil, if_false]
      obtain ⟨p, hp, hkk, hf⟩ := h.blk _ _ hsl0
      refine ⟨_, p, hsl0, hp, hkk, hf rfl, rfl, rfl, ?_⟩
      have htk := slO_ty h3 hsl
      rcases hkk.2 with ⟨e1, e2, e3⟩ | ⟨e1, e2, cc, T, e3, e4, e5, e6⟩
      · exact .inl ⟨e1, e2, e3⟩
      · refine .inr ⟨e1, e2, cc, T, e3, e4, e5, fun j hj => ?_⟩
        obtain ⟨d, hd, hda⟩ := e6 j hj
        exact ⟨d, RepT.to hrt0 t htk hd, hrt0.at hda⟩
  have hviewL : ∀ k i q p, k ∈ ks → L (.o k i q) = some p → ∃ x, rdv (entryH c.E ks (bs.map handB)) (.o k i q) = some x := by
    intro k i q p hk hp
    obtain ⟨b, cs, l, gs, h1, h2, h3, h4⟩ := hat k hk
    obtain ⟨hil, _, hq⟩ := slice_gen h h1 h2 hp
    simp only [rdv, h4, if_pos hil]
    cases q with
    | zero => exact ⟨_, rfl⟩
    | succ q =>
      obtain ⟨_, _, t, y, hsl, _⟩ := hq (by omega)
      simp only [viewV, hsl]
      exact ⟨_, rfl⟩
  have hLo : ∀ r p, calleeL c.E ks L r = some p → p.virt = false → ∃ k i q p0, r = .o k i q ∧ k ∈ ks ∧ L (.o k i q) = some p0 ∧ p = { p0 with gen := 0 } := by
    intro r p hp hv
    cases r with
    | l id =>
      simp only [calleeL] at hp
      split at hp
      · injection hp with hp
        subst hp
        cases hv
      · cases hp
    | o k i q =>
      by_cases hk : k ∈ ks
      · rw [hko k i q hk] at hp
        obtain ⟨p0, hp0, rfl⟩ := Option.map_eq_some_iff.1 hp
        exact ⟨k, i, q, p0, rfl, hk, hp0, rfl⟩
      · rw [hkn k i q hk] at hp
        cases hp
  refine ⟨?_, rfl, fun r x hx => ?_, fun r p hp => ?_, fun r p hp hv => ?_, fun r r' p p' hp hp' hv hv' hbb => ?_, fun b hb => ?_, fun b hb => hb, fun b hb => .inl hb, fun b _ _ => rfl, fun b hb => ?_, fun k i p hp => hp, Nat.le_refl _, IO.refl w⟩
  · exact RepL.to_all hok (fun x v _ hx hr => (Rep.to (L := noL) (L' := noL) hrt (fun _ _ _ e => e) 8 hx hr).noL) hargs
  · cases r with
    | l id =>
      have hx' := rdv_l.1 hx
      have hid : id < c.E.kinds.length := by
        have := (List.getElem?_eq_some_iff.1 hx').1
        rw [entryH_length] at this
        exact this
      refine ⟨⟨0, 0, 0, 0, 0, true⟩, by simp only [calleeL, if_pos hid], ?_, fun _ hv => by cases hv⟩
      by_cases hk : id ∈ ks
      · obtain ⟨b, cs, l, gs, h1, h2, h3, h4⟩ := hat id hk
        rw [h4] at hx'
        injection hx' with hx'
        injection hx' with hx'
        subst hx'
        exact ⟨rfl, rfl⟩
      · obtain ⟨cs, rfl⟩ := hnot id hk x hx'
        exact ⟨rfl, rfl⟩
    | o k i q =>
      by_cases hk : k ∈ ks
      · obtain ⟨y, p, _, hp, _, hI, hz, hkk⟩ := hview k i q x hk hx
        exact ⟨{ p with gen := 0 }, by rw [hko k i q hk, hp]; rfl, hkk, fun _ hv => hheld k i q p hk hp hv (hI hv)⟩
      · exfalso
        simp only [rdv] at hx
        split at hx
        · rename_i x0 hx0
          obtain ⟨cs, rfl⟩ := hnot k hk x0 hx0
          simp [tab0] at hx
        · cases hx
  · cases r with
    | l id =>
      simp only [calleeL] at hp
      split at hp
      · rename_i hid
        by_cases hk : id ∈ ks
        · obtain ⟨b, cs, l, gs, h1, h2, h3, h4⟩ := hat id hk
          exact ⟨_, rdv_l.2 h4⟩
        · refine ⟨tab0 (c.E.kinds[id]), rdv_l.2 ?_⟩
          unfold entryH
          rw [putK_other _ ks _ id hk, List.getElem?_map, List.getElem?_eq_getElem hid]
          rfl
      · cases hp
    | o k i q =>
      by_cases hk : k ∈ ks
      · rw [hko k i q hk] at hp
        obtain ⟨p0, hp0, rfl⟩ := Option.map_eq_some_iff.1 hp
        exact hviewL k i q p0 hk hp0
      · rw [hkn k i q hk] at hp
        cases hp
  · obtain ⟨k, i, q, p0, rfl, hk, hp0, rfl⟩ := hLo r p hp hv
    exact ⟨.inr ⟨k, i, q, p0, hk, hp0, hv, rfl⟩, (h.own _ p0 hp0 hv).2⟩
  · obtain ⟨k, i, q, p0, rfl, hk, hp0, rfl⟩ := hLo r p hp hv
    obtain ⟨k', i', q', p0', rfl, hk', hp0', rfl⟩ := hLo r' p' hp' hv'
    exact h.inj _ _ p0 p0' hp0 hp0' hv hv' hbb
  · rcases hb with hb | ⟨id, p, _, hp, hv, rfl⟩
    · exact h.imm b hb
    · exact (h.own id p hp hv).2
  · obtain ⟨h1, h2⟩ := h.fix b hb
    refine ⟨Nat.lt_of_lt_of_le h1 h.grow, ?_⟩
    rintro ⟨k, i, q, p, _, hp, hv, rfl⟩
    rcases (h.own _ p hp hv).1 with h3 | h3
    · omega
    · exact h2 h3

end
end Go.Eng

/-
  The abstract machine, part 17c: a call's end.
-/
namespace Go.Eng

/-- new blocks, numbered -/
def numb : Nat → List (Option Blk) → List (Nat × Blk)
  | _, [] => []
  | n, x :: r => match x with
    | some b => (n, b) :: numb (n + 1) r
    | none => numb (n + 1) r

/-- the heap at a call's end: the objects, new blocks from a number on -/
def outH (E : Env) (ks : List Nat) (ts : List Blk) (b0 : Nat) (hp : List (Option Blk)) : List (Option Blk) := entryH E ks ts ++ List.replicate (b0 - E.kinds.length) none ++ hp

theorem outH_tab {E : Env} {ks : List Nat} {ts : List Blk} {b0 : Nat} {hp : List (Option Blk)} {k : Nat} (hk : k < E.kinds.length) : (outH E ks ts b0 hp)[k]? = (entryH E ks ts)[k]? := by
  unfold outH
  rw [List.append_assoc, List.getElem?_append_left (by rw [entryH_length]; exact hk)]

theorem outH_new {E : Env} {ks : List Nat} {ts : List Blk} {b0 : Nat} {hp : List (Option Blk)} (hb : E.kinds.length ≤ b0) (j : Nat) : (outH E ks ts b0 hp)[b0 + j]? = hp[j]? := by
  unfold outH
  have hl : (entryH E ks ts ++ List.replicate (b0 - E.kinds.length) none).length = b0 := by simp [entryH_length]; omega
  rw [List.getElem?_append_right (by omega), hl, Nat.add_sub_cancel_left]

theorem outH_length {E : Env} {ks : List Nat} {ts : List Blk} {b0 : Nat} {hp : List (Option Blk)} (hb : E.kinds.length ≤ b0) : (outH E ks ts b0 hp).length = b0 + hp.length := by
  simp [outH, entryH_length]; omega

theorem numb_mem : ∀ (hp : List (Option Blk)) (b0 j : Nat) (b : Blk), hp[j]? = some (some b) → (b0 + j, b) ∈ numb b0 hp
  | [], _, _, _, h => by simp at h
  | x :: r, b0, 0, b, h => by
    simp only [List.getElem?_cons_zero, Option.some.injEq] at h
    subst h
    simp [numb]
  | x :: r, b0, j + 1, b, h => by
    have := numb_mem r (b0 + 1) j b (by simpa using h)
    rw [show b0 + 1 + j = b0 + (j + 1) from by omega] at this
    cases x with
    | none => simpa only [numb] using this
    | some y => simp only [numb]; exact List.mem_cons_of_mem _ this

theorem numb_length : ∀ (hp : List (Option Blk)) (b0 : Nat), (∀ x, x ∈ hp → x.isSome = true) → (numb b0 hp).length = hp.length
  | [], _, _ => rfl
  | none :: r, b0, hs => by simpa using hs none (by simp)
  | some b :: r, b0, hs => by simp only [numb, List.length_cons]; rw [numb_length r _ fun x hx => hs x (by simp [hx])]

/-- as references -/
abbrev refs (l : List (Nat × Blk)) : List (Ref × Blk) := l.map fun p => (.l p.1, p.2)

theorem putAll_refs : ∀ (hp : List (Option Blk)) (b0 : Nat) (h : List (Option Blk)) (id : Nat), (∀ x, x ∈ hp → x.isSome = true) → b0 + hp.length ≤ h.length →
    (putAll h (refs (numb b0 hp)))[id]? = if b0 ≤ id ∧ id < b0 + hp.length then hp[id - b0]? else h[id]?
  | [], b0, h, id, _, _ => by
    simp only [numb, refs, List.map_nil, putAll, List.length_nil, Nat.add_zero]
    rw [if_neg (by omega)]
  | none :: r, b0, h, id, hs, _ => by simpa using hs none (by simp)
  | some b :: r, b0, h, id, hs, hl => by
    simp only [List.length_cons] at hl ⊢
    simp only [numb, refs, List.map_cons, putAll, putH]
    have := putAll_refs r (b0 + 1) (h.set b0 (some b)) id (fun x hx => hs x (by simp [hx])) (by simp; omega)
    simp only [refs] at this
    rw [this]
    by_cases h1 : id = b0
    · subst h1
      rw [if_neg (by omega), if_pos (by omega), List.getElem?_set_self (by omega), Nat.sub_self]
      rfl
    · by_cases h2 : b0 + 1 ≤ id ∧ id < b0 + 1 + r.length
      · rw [if_pos h2, if_pos (by omega), show id - b0 = (id - (b0 + 1)) + 1 from by omega, List.getElem?_cons_succ]
      · rw [if_neg h2, if_neg (by omega), List.getElem?_set_ne (Ne.symm h1)]

theorem backBs_other : ∀ (ks : List Nat) (bs ts : List Blk) (h : List (Option Blk)) (k : Nat), k ∉ ks → (putAll h (backBs ks bs ts))[k]? = h[k]?
  | [], _, _, _, _, _ => by simp [backBs, putAll]
  | _ :: _, [], _, _, _, _ => by simp [backBs, putAll]
  | _ :: _, _ :: _, [], _, _, _ => by simp [backBs, putAll]
  | k' :: ks, b :: bs, t :: ts, h, k, hn => by
    simp only [List.mem_cons, not_or] at hn
    simp only [backBs, putAll, putH]
    rw [backBs_other ks bs ts _ k hn.2, List.getElem?_set_ne (fun e => hn.1 e.symm)]

theorem backBs_at : ∀ (ks : List Nat) (bs ts : List Blk) (h : List (Option Blk)) (j k : Nat) (b t : Blk), ks.Nodup → (∀ k, k ∈ ks → k < h.length) → ks[j]? = some k → bs[j]? = some b → ts[j]? = some t → (putAll h (backBs ks bs ts))[k]? = some (some (backB b t))
  | [], _, _, _, j, k, b, t, _, _, hk, _, _ => by simp at hk
  | _ :: _, [], _, _, j, k, b, t, _, _, _, hb, _ => by simp at hb
  | _ :: _, _ :: _, [], _, j, k, b, t, _, _, _, _, ht => by simp at ht
  | k' :: ks, b' :: bs, t' :: ts, h, 0, k, b, t, hn, hl, hk, hb, ht => by
    simp only [List.getElem?_cons_zero, Option.some.injEq] at hk hb ht
    subst hk; subst hb; subst ht
    simp only [List.nodup_cons] at hn
    simp only [backBs, putAll, putH]
    rw [backBs_other ks bs ts _ k' hn.1, List.getElem?_set_self (hl k' (by simp))]
  | k' :: ks, b' :: bs, t' :: ts, h, j + 1, k, b, t, hn, hl, hk, hb, ht => by
    simp only [List.nodup_cons] at hn
    simp only [backBs, putAll, putH]
    exact backBs_at ks bs ts _ j k b t hn.2 (fun x hx => by simpa using hl x (by simp [hx])) (by simpa using hk) (by simpa using hb) (by simpa using ht)

theorem backBs_length : ∀ (ks : List Nat) (bs ts : List Blk) (h : List (Option Blk)), (putAll h (backBs ks bs ts)).length = h.length
  | [], _, _, _ => by simp [backBs, putAll]
  | _ :: _, [], _, _ => by simp [backBs, putAll]
  | _ :: _, _ :: _, [], _ => by simp [backBs, putAll]
  | k' :: ks, b' :: bs, t' :: ts, h => by simp only [backBs, putAll, putH]; rw [backBs_length]; simp

theorem likeBs_at : ∀ {bs ts : List Blk}, likeBs bs ts = true → bs.length = ts.length ∧ ∀ (j : Nat) (b t : Blk), bs[j]? = some b → ts[j]? = some t → likeB b t = true
  | [], [], _ => ⟨rfl, fun j b t h _ => by simp at h⟩
  | [], _ :: _, h => by simp [likeBs] at h
  | _ :: _, [], h => by simp [likeBs] at h
  | b' :: bs, t' :: ts, h => by
    simp only [likeBs, Bool.and_eq_true] at h
    obtain ⟨h1, h2⟩ := likeBs_at h.2
    refine ⟨by simp [h1], fun j b t hb ht => ?_⟩
    cases j with
    | zero =>
      simp only [List.getElem?_cons_zero, Option.some.injEq] at hb ht
      subst hb; subst ht
      exact h.1
    | succ j => exact h2 j b t (by simpa using hb) (by simpa using ht)

theorem genB_idx : ∀ (ks : List Nat) (bs : List Blk) (k q : Nat), k ∈ ks → bs.length = ks.length → ∃ (j : Nat) (b : Blk), ks[j]? = some k ∧ bs[j]? = some b ∧ genB ks bs k q = b.gq q
  | [], _, _, _, hk, _ => by cases hk
  | _ :: _, [], _, _, _, hl => by simp at hl
  | k' :: ks, b :: bs, k, q, hk, hl => by
    simp only [genB]
    cases hb : Nat.beq k' k with
    | true => exact ⟨0, b, by simp [Nat.eq_of_beq_eq_true hb], rfl, rfl⟩
    | false =>
      have hne : k ≠ k' := fun e => by rw [e, Nat.beq_refl] at hb; cases hb
      obtain ⟨j, b', h1, h2, h3⟩ := genB_idx ks bs k q (by simpa [hne] using hk) (by simpa using hl)
      exact ⟨j + 1, b', by simpa using h1, by simpa using h2, h3⟩

section
variable {c : Ctx} {I : Nat → Prop} {L : Ref → Option Pl} {s : St} {a : Act} {w : World} {call : CallF}

/-- how often an object's slices were turned -/
def gOf (h : List (Option Blk)) (k q : Nat) : Nat := match h[k]? with
  | some (some b) => match b.ct with
    | .tab _ _ _ gs => gs.getD q 0
    | _ => 0
  | _ => 0

def backL (h : List (Option Blk)) (ks : List Nat) (b0 m : Nat) (L L' : Ref → Option Pl) : Ref → Option Pl
  | .l id => if b0 ≤ id ∧ id < b0 + m then L' (.l id) else L (.l id)
  | .o k i q => if k ∈ ks then (if q = 0 then L' (.o k i 0) else (L' (.o k i q)).map fun p => { p with gen := gOf h k q + 1 }) else L (.o k i q)

theorem Sim.back (h : Sim c I L s a w) {Ih : Nat → Prop} (hIh : ∀ b, I b → Ih b) {ks : List Nat} {bs ts : List Blk} {b0 : Nat} {nb : List (Option Blk)} (hnd : ks.Nodup) (hlt : ∀ k, k ∈ ks → k < c.E.kinds.length) (hlen : bs.length = ks.length)
    (hb : ∀ (j k : Nat) (b : Blk), ks[j]? = some k → bs[j]? = some b → s.heap[k]? = some (some b)) (hclean : bs.all (cleanB ks) = true) (hlike : likeBs bs ts = true) (hb0 : c.E.kinds.length ≤ b0) (hsome : ∀ x, x ∈ nb → x.isSome = true) (hnt : ∀ b, some b ∈ nb → b.isTab = false)
    (hfree : ∀ j, j < nb.length → s.heap[b0 + j]? = some none) {I' : Nat → Prop} {L' : Ref → Option Pl} {r : AV} {v : Value} {w' : World}
    (hC : Sim (calleeC c Ih L w ks) I' L' ⟨[r], outH c.E ks ts b0 nb⟩ { tmps := #[v], defers := [] } w')
    {fl : Bool} {I'' : Nat → Prop} (hI1 : ∀ b, I b → I'' b) (hI3 : ∀ b, I'' b → I b ∨ w.heap.size ≤ b ∨ calleeRt ks L b) (hI4 : ∀ b, I'' b → I' b) (hto : fl = false → ∀ b, I' b → I'' b)
    (hrok : r.okR ks ts fl b0 = true) (hhok : ∀ b, some b ∈ nb → b.ok ks fl b0 = true) (htok : ts.all (Blk.ok ks fl b0) = true) :
    ∃ L'', Sim c I'' L'' ⟨s.env, putAll s.heap (backBs ks bs ts ++ refs (numb b0 nb))⟩ a w' ∧ Rep (c.rc I'' L'' w') L'' (r.turn ks bs) v := by
  have hbox : ∀ k i p, calleeL c.E ks L (.o k i 0) = some p → L' (.o k i 0) = some p := fun k i p hp => hC.bx k i p hp
  obtain ⟨hlen2, hlike⟩ := likeBs_at hlike
  have hkh : ∀ k, k ∈ ks → k < s.heap.length := fun k hk => by
    obtain ⟨j, b, cs, l, gs, h1, h2, h3, _⟩ := kind_in hlen hb hclean hk
    exact (List.getElem?_eq_some_iff.1 h3).1
  have hroom : b0 + nb.length ≤ s.heap.length ∨ nb = [] := by
    cases nb with
    | nil => exact .inr rfl
    | cons x r0 =>
      left
      have := hfree r0.length (by simp)
      have := (List.getElem?_eq_some_iff.1 this).1
      simp only [List.length_cons]
      omega
  obtain ⟨H, hH⟩ : ∃ H, H = putAll s.heap (backBs ks bs ts ++ refs (numb b0 nb)) := ⟨_, rfl⟩
  have hHi : ∀ id, H[id]? = if b0 ≤ id ∧ id < b0 + nb.length then nb[id - b0]? else (putAll s.heap (backBs ks bs ts))[id]? := by
    intro id
    rw [hH, putAll_append]
    rcases hroom with hr | rfl
    · exact putAll_refs nb b0 _ id hsome (by rw [backBs_length]; exact hr)
    · simp only [numb, refs, List.map_nil, putAll, List.length_nil, Nat.add_zero]
      rw [if_neg (by omega)]
  -- a kind's objects, before, within and behind
  have hk : ∀ k, k ∈ ks → ∃ (b t : Blk) (cs : List Cell) (l l' : List (Val (rowsTy cs))) (gs gt : List Nat), s.heap[k]? = some (some b) ∧ b.ct = .tab cs l [] gs ∧ cs.all (Cell.ok ks false) = true ∧ cs.all (Cell.ok ks fl) = true ∧
      (outH c.E ks ts b0 nb)[k]? = some (some t) ∧ t.ct = .tab cs l' [] gt ∧ H[k]? = some (some { b with ct := .tab cs l' [] ((List.range ((ownQs cs 1).length + 1)).map fun q => gs.getD q 0 + 1) }) := by
    intro k hkk
    obtain ⟨j, b, cs, l, gs, h1, h2, h3, h4, h5⟩ := kind_in hlen hb hclean hkk
    have hj : j < bs.length := (List.getElem?_eq_some_iff.1 h2).1
    have hjt : j < ts.length := by omega
    have ht : ts[j]? = some ts[j] := List.getElem?_eq_getElem hjt
    have hl := hlike j b _ h2 ht
    have htk : ts[j].ok ks fl b0 = true := by
      rw [List.all_eq_true] at htok
      exact htok _ (List.getElem_mem hjt)
    generalize ts[j] = t at *
    unfold likeB at hl
    rw [h4] at hl
    split at hl
    · rename_i cs0 l0 st0 gs0 cs' l' st' gt hc0 hct
      injection hc0 with hc0
      subst hc0
      simp only [Bool.and_eq_true, decide_eq_true_eq] at hl
      obtain ⟨rfl, hst⟩ := hl
      have hst : st' = [] := by simpa using hst
      subst hst
      have hkb : ¬ (b0 ≤ k ∧ k < b0 + nb.length) := fun hx => by
        have := hlt k hkk
        omega
      refine ⟨b, t, cs', l, l', gs, gt, h3, h4, h5, ?_, ?_, hct, ?_⟩
      · unfold Blk.ok at htk
        rw [hct] at htk
        exact htk
      · rw [outH_tab (hlt k hkk)]
        exact putK_at _ ks ts j k t hnd (fun k hk => by simpa using hlt k hk) h1 ht
      · rw [hHi, if_neg hkb, backBs_at ks bs ts s.heap j k b t hnd hkh h1 h2 ht]
        simp only [backB, h4, hct, if_true]
    · cases hl
  have hgk : ∀ k q b (cs : List Cell) (l : List (Val (rowsTy cs))) (gs : List Nat), s.heap[k]? = some (some b) → b.ct = .tab cs l [] gs → gOf s.heap k q = gs.getD q 0 := by
    intro k q b cs l gs h1 h2
    simp only [gOf, h1, h2]
  have hgs' : ∀ (cs : List Cell) (gs : List Nat) q, q ∈ ownQs cs 1 → ((List.range ((ownQs cs 1).length + 1)).map fun q => gs.getD q 0 + 1).getD q 0 = gs.getD q 0 + 1 := by
    intro cs gs q hq
    have := ownQs_range hq
    rw [List.getD_eq_getElem?_getD, List.getElem?_map, List.getElem?_range (by omega)]
    rfl
  have hother : ∀ id, id ∉ ks → ¬ (b0 ≤ id ∧ id < b0 + nb.length) → H[id]? = s.heap[id]? := by
    intro id h1 h2
    rw [hHi, if_neg h2, backBs_other ks bs ts s.heap id h1]
  have hnew : ∀ id, b0 ≤ id ∧ id < b0 + nb.length → H[id]? = nb[id - b0]? := fun id h1 => by rw [hHi, if_pos h1]
  have hLn : ∀ id, b0 ≤ id ∧ id < b0 + nb.length → L (.l id) = none := by
    intro id h1
    have := hfree (id - b0) (by omega)
    rw [show b0 + (id - b0) = id from by omega] at this
    exact free_L h this
  -- the places
  obtain ⟨L2, hL2⟩ : ∃ L2, L2 = backL s.heap ks b0 nb.length L L' := ⟨_, rfl⟩
  have L2n : ∀ id, b0 ≤ id ∧ id < b0 + nb.length → L2 (.l id) = L' (.l id) := fun id h1 => by rw [hL2]; exact if_pos h1
  have L2l : ∀ id, ¬ (b0 ≤ id ∧ id < b0 + nb.length) → L2 (.l id) = L (.l id) := fun id h1 => by rw [hL2]; exact if_neg h1
  have L2b : ∀ k i, k ∈ ks → L2 (.o k i 0) = L' (.o k i 0) := fun k i h1 => by
    rw [hL2]
    show (if k ∈ ks then _ else _) = _
    rw [if_pos h1, if_pos rfl]
  have L2q : ∀ k i q, k ∈ ks → 1 ≤ q → L2 (.o k i q) = (L' (.o k i q)).map fun p => { p with gen := gOf s.heap k q + 1 } := fun k i q h1 h2 => by
    rw [hL2]
    show (if k ∈ ks then _ else _) = _
    rw [if_pos h1, if_neg (by omega)]
  have L2o : ∀ k i q, k ∉ ks → L2 (.o k i q) = L (.o k i q) := fun k i q h1 => by rw [hL2]; exact if_neg h1
  have hbox' : ∀ k i p, k ∈ ks → L (.o k i 0) = some p → L' (.o k i 0) = some p := by
    intro k i p hkk hp
    refine hbox k i p ?_
    show (if k ∈ ks then _ else _) = _
    rw [if_pos hkk, hp]
    obtain ⟨b, t, cs, l, l', gs, gt, h1, h2, _⟩ := hk k hkk
    have := (slice_gen h h1 h2 hp).2.1 rfl
    rw [Option.map_some, ← this]
  -- callee's slices
  have hcs : ∀ k i q b t (cs : List Cell) (l l' : List (Val (rowsTy cs))) (gt : List Nat), k ∈ ks → (outH c.E ks ts b0 nb)[k]? = some (some t) → t.ct = .tab cs l' [] gt → L' (.o k i q) = some b → _ := fun k i q b t cs l l' gt _ h1 h2 hp => slice_gen hC h1 h2 hp
  have hLLe : LLe L L2 := by
    intro x p hp
    cases x with
    | l id =>
      by_cases h1 : b0 ≤ id ∧ id < b0 + nb.length
      · rw [hLn id h1] at hp; cases hp
      · exact ⟨p, by rw [L2l id h1]; exact hp, rfl, .inl rfl⟩
    | o k i q =>
      by_cases hkk : k ∈ ks
      · obtain ⟨b, t, cs, l, l', gs, gt, h1, h2, h3, h3', h4, h5, h6⟩ := hk k hkk
        obtain ⟨hil, g0, g1⟩ := slice_gen h h1 h2 hp
        by_cases hq : q = 0
        · subst hq
          exact ⟨p, by rw [L2b k i hkk]; exact hbox' k i p hkk hp, rfl, .inl rfl⟩
        · have hq1 : 1 ≤ q := by omega
          obtain ⟨e1, e2, ty, y, e3, e4⟩ := g1 hq1
          -- the object is there still
          obtain ⟨bx, hbx⟩ := h.dom _ p hp
          have hboxL : ∃ pb, L (.o k i 0) = some pb := by
            have : rdv s.heap (.o k i 0) = some { ct := objCt k i (fun q => decide ((q, i) ∈ ([] : List (Nat × Nat)))) gs cs (l.getD i (dfl (rowsTy cs))), gen := 0, frozen := false } := by
              simp only [rdv, h1, h2, if_pos hil, viewV]
            obtain ⟨pb, hpb, _⟩ := h.blk _ _ this
            exact ⟨pb, hpb⟩
          obtain ⟨pb, hpb⟩ := hboxL
          have hpb' := hbox' k i pb hkk hpb
          obtain ⟨hil', _⟩ := slice_gen hC h4 h5 hpb'
          obtain ⟨ty', y', hsl'⟩ := slO_some (x := l'.getD i (dfl (rowsTy cs))) e2
          have hty := slO_same hsl' e3
          subst hty
          obtain ⟨q, rfl⟩ := Nat.exists_eq_add_of_le' hq1
          have hv : rdv (outH c.E ks ts b0 nb) (.o k i (q + 1)) = some { ct := .sl ty' y', gen := gt.getD (q + 1) 0, frozen := false } := by
            simp only [rdv, h4, h5, if_pos hil', viewV, hsl', List.not_mem_nil, if_false]
          obtain ⟨p', hp', hkp, _⟩ := hC.blk _ _ hv
          refine ⟨{ p' with gen := gOf s.heap k (q + 1) + 1 }, by rw [L2q k i _ hkk (by omega), hp']; rfl, ?_, .inr ⟨?_, fun hb => hb⟩⟩
          · show p'.w = p.w
            rw [e4]
            rcases hkp.2 with ⟨_, _, e⟩ | ⟨_, e, _⟩
            · exact e
            · exact e
          · show p.gen < gOf s.heap k (q + 1) + 1
            rw [e1, hgk k (q + 1) b cs l gs h1 h2]
            exact Nat.lt_succ_self _
      · exact ⟨p, by rw [L2o k i q hkk]; exact hp, rfl, .inl rfl⟩
  have hRtI : ∀ b, calleeRt ks L b → ¬ I b := by
    rintro b ⟨k, i, q, p, hkk, hp, hv, rfl⟩ hI
    obtain ⟨x, hx⟩ := h.dom _ p hp
    obtain ⟨p2, hp2, _, hf⟩ := h.blk _ x hx
    rw [hp] at hp2
    injection hp2 with hp2
    subst hp2
    obtain ⟨b, t, cs, l, l', gs, gt, h1, h2, _⟩ := hk k hkk
    have hz : x.frozen = false := by
      simp only [rdv, h1, h2] at hx
      split at hx
      · cases q with
        | zero => simp only [viewV, Option.some.injEq] at hx; subst hx; rfl
        | succ q =>
          simp only [viewV] at hx
          split at hx
          · simp only [List.not_mem_nil, if_false, Option.some.injEq] at hx; subst hx; rfl
          · cases hx
      · cases hx
    exact hf hz hv hI
  have hsame : ∀ b, b < w.heap.size → ¬ calleeRt ks L b → w'.heap[b]? = w.heap[b]? := fun b h1 h2 => hC.same b h1 h2
  have hgrow : w.heap.size ≤ w'.heap.size := hC.grow
  have hr : RLe (c.rc I L w) (c.rc I'' L2 w') := rle_of_heap hI1 (fun b hI => hsame b (h.imm b hI) fun hx => hRtI b hx hI) hLLe
  have hcto : RTo (rcW (statOf c.E c.S) I' L' w') (c.rc I'' L2 w') ks fl := by
    refine ⟨rfl, rfl, hto, fun k i b hkk hb => ?_⟩
    simp only [Ctx.rc, rcW, hOf] at hb ⊢
    rw [L2b k i hkk]
    exact hb
  have hids : ∀ id p, b0 ≤ id → L' (.l id) = some p → L2 (.l id) = some p := by
    intro id p h1 hp
    obtain ⟨x, hx⟩ := hC.dom _ p hp
    have := (List.getElem?_eq_some_iff.1 (rdv_l.1 hx)).1
    simp only at this
    rw [outH_length hb0] at this
    rw [L2n id ⟨h1, this⟩]
    exact hp
  have hfarO : ∀ r p, L r = some p → p.virt = false → (∀ k i q, r = .o k i q → k ∉ ks) → p.b < w.heap.size ∧ ¬ calleeRt ks L p.b := by
    intro r p hp hv hr
    refine ⟨(h.own r p hp hv).2, ?_⟩
    rintro ⟨k, i, q, p', hkk, hp', hv', hbb⟩
    have := h.inj _ _ p' p hp' hp hv' hv hbb
    exact hr k i q this.symm hkk
  have holdB : ∀ r p x, L r = some p → (∀ k i q, r = .o k i q → k ∉ ks) → BlkOK (c.rc I L w) L w p x → BlkOK (c.rc I'' L2 w') L2 w' p x := by
    intro r p x hp hr' hkx
    exact hkx.mono hr hLLe (fun hv => hsame _ (hfarO r p hp hv hr').1 (hfarO r p hp hv hr').2) (fun hv o => cell?_heap _ _ (hsame _ (hfarO r p hp hv hr').1 (hfarO r p hp hv hr').2))
  have holdI : ∀ r p, L r = some p → p.virt = false → (∀ k i q, r = .o k i q → k ∉ ks) → ¬ I p.b → ¬ I'' p.b := by
    intro r p hp hv hr' hI hI2
    obtain ⟨h1, h2⟩ := hfarO r p hp hv hr'
    rcases hI3 _ hI2 with h3 | h3 | h3
    · exact hI h3
    · omega
    · exact h2 h3
  have hnewI : ∀ r p, L' r = some p → p.virt = false → ¬ I' p.b → ¬ I'' p.b := fun r p _ _ h1 h2 => h1 (hI4 _ h2)
  -- from which call a place is
  have hfrom : ∀ r p, L2 r = some p → p.virt = false → (L r = some p ∧ (∀ k i q, r = .o k i q → k ∉ ks) ∧ ∀ id, r = .l id → ¬ (b0 ≤ id ∧ id < b0 + nb.length)) ∨ (∃ p0, L' r = some p0 ∧ p0.virt = false ∧ p0.b = p.b ∧ ((∃ k i q, r = .o k i q ∧ k ∈ ks) ∨ ∃ id, r = .l id ∧ b0 ≤ id ∧ id < b0 + nb.length)) := by
    intro r p hp0 hv
    cases r with
    | l id =>
      by_cases h1 : b0 ≤ id ∧ id < b0 + nb.length
      · rw [L2n id h1] at hp0
        exact .inr ⟨p, hp0, hv, rfl, .inr ⟨id, rfl, h1⟩⟩
      · rw [L2l id h1] at hp0
        exact .inl ⟨hp0, (fun k i q e => by cases e), fun id' e => by injection e with e; rw [← e]; exact h1⟩
    | o k i q =>
      by_cases hkk : k ∈ ks
      · by_cases hq : q = 0
        · subst hq
          rw [L2b k i hkk] at hp0
          exact .inr ⟨p, hp0, hv, rfl, .inl ⟨k, i, 0, rfl, hkk⟩⟩
        · rw [L2q k i q hkk (by omega)] at hp0
          obtain ⟨p0, hp1, rfl⟩ := Option.map_eq_some_iff.1 hp0
          exact .inr ⟨p0, hp1, hv, rfl, .inl ⟨k, i, q, rfl, hkk⟩⟩
      · rw [L2o k i q hkk] at hp0
        exact .inl ⟨hp0, (fun k' i' q' e => by injection e with e _ _; rw [← e]; exact hkk), fun id e => by cases e⟩
  have hown' : ∀ r p0, L' r = some p0 → p0.virt = false → (c.w0.heap.size ≤ p0.b ∨ c.Rt p0.b) ∧ p0.b < w'.heap.size := by
    intro r p0 hp0 hv
    obtain ⟨h1, h2⟩ := hC.own r p0 hp0 hv
    refine ⟨?_, h2⟩
    rcases h1 with h1 | ⟨k, i, q, p1, _, hp1, hv1, hbb⟩
    · exact .inl (Nat.le_trans h.grow h1)
    · rw [← hbb]
      exact (h.own _ p1 hp1 hv1).1
  rw [← hH]
  refine ⟨L2, ⟨h.env.mono hr hLLe, h.defers, fun r x hx => ?_, fun r p hp => ?_, fun r p hp hv => ?_, fun r r' p p' hp hp' hv hv' hbb => ?_, fun b hb => ?_, fun b hb => hI1 b (h.i0 b hb), fun b hb => ?_, fun b hb1 hb2 => ?_, h.fix, fun k i p hp => hLLe.box (h.bx k i p hp), Nat.le_trans h.grow hgrow, h.io.trans hC.io⟩, ?_⟩
  · -- blocks
    cases r with
    | l id =>
      have hx' := rdv_l.1 hx
      by_cases h1 : b0 ≤ id ∧ id < b0 + nb.length
      · simp only at hx'
        rw [hnew id h1] at hx'
        have hv : rdv (outH c.E ks ts b0 nb) (.l id) = some x := by
          rw [rdv_l, show id = b0 + (id - b0) from by omega, outH_new hb0]
          exact hx'
        obtain ⟨p, hp, hkx, hf⟩ := hC.blk _ _ hv
        refine ⟨p, by rw [L2n id h1]; exact hp, ?_, fun hz hv => hnewI _ p hp hv (hf hz hv)⟩
        have hmem : some x ∈ nb := List.mem_of_getElem? hx'
        have hxo := hhok x hmem
        have hxt := hnt x hmem
        unfold Blk.ok at hxo
        unfold Blk.isTab at hxt
        unfold BlkOK at hkx ⊢
        refine ⟨hkx.1, ?_⟩
        have hkx := hkx.2
        split at hkx
        · rename_i row hct
          rw [hct] at hxo
          obtain ⟨e1, e2, cc, T, e3, e4⟩ := hkx
          exact ⟨e1, e2, cc, T, e3, RepL.to_all hxo (fun y v _ hy hr0 => Rep.to hcto hids 8 hy hr0) e4⟩
        · rename_i t l hct
          rw [hct] at hxo
          rcases hkx with ⟨e1, e2, e3⟩ | ⟨e1, e2, cc, T, e3, e4, e5, e6⟩
          · exact .inl ⟨e1, e2, e3⟩
          · refine .inr ⟨e1, e2, cc, T, e3, e4, e5, fun j hj => ?_⟩
            obtain ⟨d, hd, hda⟩ := e6 j hj
            exact ⟨d, RepT.to hcto t hxo hd, hcto.at hda⟩
        · rename_i hct
          rw [hct] at hxt
          cases hxt
        · rename_i hct
          rw [hct] at hxo
          cases hxo
      · by_cases hkk : id ∈ ks
        · obtain ⟨b, t, cs, l, l', gs, gt, g1, g2, g3, g3', g4, g5, g6⟩ := hk id hkk
          simp only at hx'
          rw [g6] at hx'
          injection hx' with hx'
          injection hx' with hx'
          subst hx'
          obtain ⟨p1, hp1, hk1, hf1⟩ := h.blk (.l id) b (rdv_l.2 g1)
          refine ⟨p1, by rw [L2l id h1]; exact hp1, ?_, fun hz hv => ?_⟩
          · unfold BlkOK at hk1 ⊢
            rw [g2] at hk1
            exact hk1
          · have := hk1.2
            rw [g2] at this
            rw [this] at hv
            cases hv
        · simp only at hx'
          rw [hother id hkk h1] at hx'
          obtain ⟨p1, hp1, hk1, hf1⟩ := h.blk (.l id) x (rdv_l.2 hx')
          exact ⟨p1, by rw [L2l id h1]; exact hp1, holdB _ p1 x hp1 (fun k i q e => by cases e) hk1, fun hz hv => holdI _ p1 hp1 hv (fun k i q e => by cases e) (hf1 hz hv)⟩
    | o k i q =>
      by_cases hkk : k ∈ ks
      · obtain ⟨b, t, cs, l, l', gs, gt, g1, g2, g3, g3', g4, g5, g6⟩ := hk k hkk
        simp only [rdv, g6] at hx
        split at hx
        rotate_left
        · cases hx
        rename_i hil
        cases q with
        | zero =>
          simp only [viewV, Option.some.injEq] at hx
          subst hx
          have hv : rdv (outH c.E ks ts b0 nb) (.o k i 0) = some { ct := objCt k i (fun q => decide ((q, i) ∈ ([] : List (Nat × Nat)))) gt cs (l'.getD i (dfl (rowsTy cs))), gen := 0, frozen := false } := by
            simp only [rdv, g4, g5, if_pos hil, viewV]
          obtain ⟨p, hp, hkx, hf⟩ := hC.blk _ _ hv
          refine ⟨p, by rw [L2b k i hkk]; exact hp, ?_, fun hz hv => hnewI _ p hp hv (hf hz hv)⟩
          obtain ⟨e1, hkx⟩ := hkx
          refine ⟨e1, ?_⟩
          cases hm : mapL cs (l'.getD i (dfl (rowsTy cs))) with
          | none =>
            simp only [objCt, hm] at hkx ⊢
            obtain ⟨e2, e3, cc, T, e4, e5⟩ := hkx
            refine ⟨e2, e3, cc, T, e4, ?_⟩
            refine rowO_to hcto (fun q p hp hq => ?_) g3' (Nat.le_refl 1) e5
            obtain ⟨_, _, hg⟩ := slice_gen hC g4 g5 hp
            obtain ⟨hg1, hg2, _⟩ := hg hq
            refine ⟨hg1, ?_⟩
            rw [L2q k i q hkk hq, hp, hgs' cs gs q hg2, hgk k q b cs l gs g1 g2]
            rfl
          | some m =>
            obtain ⟨ka, kb, kl, kc, rfl⟩ := mapL_some hm
            simp only [objCt, hm] at hkx ⊢
            obtain ⟨e2, e3, es, e4, e5⟩ := hkx
            obtain ⟨o1, o2⟩ := mapL_ok hm g3'
            exact ⟨e2, e3, es, e4, e5.to hcto o1 o2⟩
        | succ q =>
          simp only [viewV] at hx
          split at hx
          rotate_left
          · cases hx
          rename_i ty y hsl
          simp only [List.not_mem_nil, if_false, Option.some.injEq] at hx
          subst hx
          have hv : rdv (outH c.E ks ts b0 nb) (.o k i (q + 1)) = some { ct := .sl ty y, gen := gt.getD (q + 1) 0, frozen := false } := by
            simp only [rdv, g4, g5, if_pos hil, viewV, hsl, List.not_mem_nil, if_false]
          obtain ⟨p, hp, hkx, hf⟩ := hC.blk _ _ hv
          refine ⟨{ p with gen := gOf s.heap k (q + 1) + 1 }, by rw [L2q k i _ hkk (by omega), hp]; rfl, ⟨?_, ?_⟩, fun hz hv => hnewI _ p hp hv (hf hz hv)⟩
          · show gOf s.heap k (q + 1) + 1 = _
            rw [hgs' cs gs _ (slO_own hsl), hgk k (q + 1) b cs l gs g1 g2]
          · have htk := slO_ty g3' hsl
            rcases hkx.2 with ⟨e1, e2, e3⟩ | ⟨e1, e2, cc, T, e3, e4, e5, e6⟩
            · exact .inl ⟨e1, e2, e3⟩
            · refine .inr ⟨e1, e2, cc, T, e3, e4, e5, fun j hj => ?_⟩
              obtain ⟨d, hd, hda⟩ := e6 j hj
              exact ⟨d, RepT.to hcto ty htk hd, hcto.at hda⟩
      · have hx0 : rdv s.heap (.o k i q) = some x := by
          by_cases h1 : b0 ≤ k ∧ k < b0 + nb.length
          · exfalso
            simp only [rdv, hnew k h1] at hx
            split at hx
            · rename_i x0 hx0
              have := hnt x0 (List.mem_of_getElem? hx0)
              unfold Blk.isTab at this
              split at hx
              · rename_i hct; rw [hct] at this; cases this
              · cases hx
            · cases hx
          · simp only [rdv, hother k hkk h1] at hx
            exact hx
        obtain ⟨p1, hp1, hk1, hf1⟩ := h.blk _ x hx0
        have hne : ∀ k' i' q', Ref.o k i q = .o k' i' q' → k' ∉ ks := fun k' i' q' e => by injection e with e _ _; rw [← e]; exact hkk
        exact ⟨p1, by rw [L2o k i q hkk]; exact hp1, holdB _ p1 x hp1 hne hk1, fun hz hv => holdI _ p1 hp1 hv hne (hf1 hz hv)⟩
  · -- places
    cases r with
    | l id =>
      by_cases h1 : b0 ≤ id ∧ id < b0 + nb.length
      · rw [L2n id h1] at hp
        obtain ⟨x, hx⟩ := hC.dom _ p hp
        have hx' := rdv_l.1 hx
        simp only at hx'
        rw [show id = b0 + (id - b0) from by omega, outH_new hb0] at hx'
        exact ⟨x, rdv_l.2 (by simp only; rw [hnew id h1]; exact hx')⟩
      · rw [L2l id h1] at hp
        obtain ⟨x, hx⟩ := h.dom _ p hp
        have hx' := rdv_l.1 hx
        by_cases hkk : id ∈ ks
        · obtain ⟨b, t, cs, l, l', gs, gt, g1, g2, g3, g3', g4, g5, g6⟩ := hk id hkk
          exact ⟨_, rdv_l.2 g6⟩
        · exact ⟨x, rdv_l.2 (by simp only; rw [hother id hkk h1]; exact hx')⟩
    | o k i q =>
      by_cases hkk : k ∈ ks
      · obtain ⟨b, t, cs, l, l', gs, gt, g1, g2, g3, g3', g4, g5, g6⟩ := hk k hkk
        have hL'q : ∃ p0, L' (.o k i q) = some p0 := by
          by_cases hq : q = 0
          · subst hq; rw [L2b k i hkk] at hp; exact ⟨p, hp⟩
          · rw [L2q k i q hkk (by omega)] at hp
            obtain ⟨p0, hp0, _⟩ := Option.map_eq_some_iff.1 hp
            exact ⟨p0, hp0⟩
        obtain ⟨p0, hp0⟩ := hL'q
        obtain ⟨hil, _, hq⟩ := slice_gen hC g4 g5 hp0
        simp only [rdv, g6, if_pos hil]
        cases q with
        | zero => exact ⟨_, rfl⟩
        | succ q =>
          obtain ⟨_, _, ty, y, hsl, _⟩ := hq (by omega)
          simp only [viewV, hsl]
          exact ⟨_, rfl⟩
      · rw [L2o k i q hkk] at hp
        obtain ⟨x, hx⟩ := h.dom _ p hp
        have h1 : ¬ (b0 ≤ k ∧ k < b0 + nb.length) := fun h1 => by
          have hf := hfree (k - b0) (by omega)
          rw [show b0 + (k - b0) = k from by omega] at hf
          simp only [rdv, hf] at hx
          cases hx
        refine ⟨x, ?_⟩
        simp only [rdv, hother k hkk h1] at hx ⊢
        exact hx
  · rcases hfrom r p hp hv with ⟨hp0, hr', _⟩ | ⟨p0, hp0, hv0, hbb, _⟩
    · exact ⟨(h.own r p hp0 hv).1, Nat.lt_of_lt_of_le (h.own r p hp0 hv).2 hgrow⟩
    · rw [← hbb]
      exact hown' r p0 hp0 hv0
  · have mixed : ∀ r p r' p', L r = some p → p.virt = false → (∀ k i q, r = .o k i q → k ∉ ks) → L' r' = some p' → p'.virt = false → p.b ≠ p'.b := by
      intro r p r' p' hp hv hr' hp' hv' hbb
      obtain ⟨h1, h2⟩ := hfarO r p hp hv hr'
      rcases (hC.own r' p' hp' hv').1 with h3 | h3
      · have h3 : w.heap.size ≤ p'.b := h3
        omega
      · rw [← hbb] at h3; exact h2 h3
    rcases hfrom r p hp hv with ⟨hp0, hr0, _⟩ | ⟨p0, hp0, hv0, hb1, _⟩ <;> rcases hfrom r' p' hp' hv' with ⟨hp0', hr0', _⟩ | ⟨p0', hp0', hv0', hb1', _⟩
    · exact h.inj r r' p p' hp0 hp0' hv hv' hbb
    · exact absurd (hbb.trans hb1'.symm) (mixed r p r' p0' hp0 hv hr0 hp0' hv0')
    · exact absurd (hbb.symm.trans hb1.symm) (mixed r' p' r p0 hp0' hv' hr0' hp0 hv0)
    · exact hC.inj r r' p0 p0' hp0 hp0' hv0 hv0' (by rw [hb1, hb1', hbb])
  · exact hC.imm b (hI4 b hb)
  · rcases hI3 b hb with h1 | h1 | ⟨k, i, q, p, _, hp, hv, rfl⟩
    · exact h.iN b h1
    · exact .inr (.inl (Nat.le_trans h.grow h1))
    · exact .inr (h.own _ p hp hv).1
  · rw [hsame b (Nat.lt_of_lt_of_le hb1 h.grow) ?_]
    · exact h.same b hb1 hb2
    · rintro ⟨k, i, q, p, _, hp, hv, rfl⟩
      rcases (h.own _ p hp hv).1 with h1 | h1
      · omega
      · exact hb2 h1
  · have hrr := hC.env
    simp only [RepL] at hrr
    obtain ⟨y, tl, hy, hrep, _⟩ := hrr
    simp only [List.cons.injEq] at hy
    rw [hy.1]
    have one : ∀ (x : AV) (z : Value), x.okR1 ks ts fl b0 = true → Rep (rcW (statOf c.E c.S) I' L' w') L' x z → Rep (c.rc I'' L2 w') L2 (x.turn1 ks bs) z := by
      intro x z hx hz
      by_cases ho : ∃ t k i q lo n g, x = .lsl t (.o k i q) lo n g
      · obtain ⟨t, k, i, q, lo, n, g, rfl⟩ := ho
        simp only [AV.okR1, Bool.and_eq_true] at hx
        obtain ⟨⟨hkk, hq⟩, hg⟩ := hx
        have hkk := any_beq.1 hkk
        have hq : 0 < q := Nat.le_of_ble_eq_true hq
        have hg := Nat.eq_of_beq_eq_true hg
        obtain ⟨b, t', cs, l, l', gs, gt, g1, g2, g3, g3', g4, g5, g6⟩ := hk k hkk
        obtain ⟨j, t2, e1, e2, e3⟩ := genB_idx ks ts k q hkk (by omega)
        obtain ⟨j', b2, e1', e2', e3'⟩ := genB_idx ks bs k q hkk hlen
        have et : t2 = t' := by
          have := putK_at (c.E.kinds.map fun cs => some (tab0 cs)) ks ts j k t2 hnd (fun k hk => by simpa using hlt k hk) e1 e2
          rw [outH_tab (hlt k hkk)] at g4
          unfold entryH at g4
          rw [this] at g4
          injection g4 with g4
          injection g4
        have eb : b2 = b := by
          have := hb j' k b2 e1' e2'
          rw [g1] at this
          injection this with this
          injection this with this
          exact this.symm
        subst et; subst eb
        have e3 : genB ks ts k q = gt.getD q 0 := by rw [e3]; simp only [Blk.gq, g5]
        have e3' : genB ks bs k q = gs.getD q 0 := by rw [e3']; simp only [Blk.gq, g2]
        simp only [AV.turn1, Rep] at hz ⊢
        obtain ⟨p, hp, hw, hge, ad, cap, hv, hcap, hsome2, hcur⟩ := hz
        obtain ⟨_, _, hpg⟩ := slice_gen hC g4 g5 hp
        obtain ⟨hpg, _⟩ := hpg hq
        refine ⟨{ p with gen := gOf s.heap k q + 1 }, by rw [L2q k i q hkk hq, hp]; rfl, hw, ?_, ad, cap, hv, hcap, hsome2, fun _ => hcur (by rw [hpg, hg, e3])⟩
        rw [e3', ← hgk k q _ cs l gs g1 g2]
        exact Nat.le_refl _
      · have e1 : x.okR1 ks ts fl b0 = x.ok ks fl b0 8 := by
          unfold AV.okR1
          split
          · exact absurd ⟨_, _, _, _, _, _, _, rfl⟩ ho
          · rfl
        have e2 : x.turn1 ks bs = x := by
          unfold AV.turn1
          split
          · exact absurd ⟨_, _, _, _, _, _, _, rfl⟩ ho
          · rfl
        rw [e1] at hx
        rw [e2]
        exact Rep.to hcto hids 8 hx hz
    have many : ∀ (l : List AV) (ys : List Value), l.all (AV.okR1 ks ts fl b0) = true → RepL (rcW (statOf c.E c.S) I' L' w') L' l ys → RepL (c.rc I'' L2 w') L2 (l.map (AV.turn1 ks bs)) ys := by
      intro l
      induction l with
      | nil => intro ys _ hl; simpa only [List.map_nil, RepL] using hl
      | cons x l ih =>
        intro ys hrok hl
        simp only [List.all_cons, Bool.and_eq_true] at hrok
        simp only [List.map_cons, RepL] at hl ⊢
        obtain ⟨z, tl, rfl, hz, ht⟩ := hl
        exact ⟨z, tl, rfl, one x z hrok.1 hz, ih tl hrok.2 ht⟩
    by_cases ht : ∃ l, r = .tup l
    · obtain ⟨l, rfl⟩ := ht
      simp only [AV.okR] at hrok
      simp only [AV.turn, Rep] at hrep ⊢
      obtain ⟨cs, e, hl⟩ := hrep
      exact ⟨cs, e, many l _ hrok hl⟩
    · have e1 : r.okR ks ts fl b0 = r.okR1 ks ts fl b0 := by
        unfold AV.okR
        split
        · exact absurd ⟨_, rfl⟩ ht
        · rfl
      have e2 : r.turn ks bs = r.turn1 ks bs := by
        unfold AV.turn
        split
        · exact absurd ⟨_, rfl⟩ ht
        · rfl
      rw [e1] at hrok
      rw [e2]
      exact one r _ hrok hrep

end
end Go.Eng

/-
  The abstract machine, part 17d: elements laid into slices, taken out of them.
-/
namespace Go.Eng

section
variable {c : Ctx} {I : Nat → Prop} {L : Ref → Option Pl} {s : St} {a : Act} {w : World} {call : CallF}

theorem Flat.drop {R : RC} {u : Ty} {l : List (Val u)} {F : List Value} (h : Flat R u l F) (k : Nat) : Flat R u (l.drop k) (F.drop (k * u.size)) := by
  refine ⟨by rw [List.length_drop, List.length_drop, h.1, Nat.sub_mul], fun j hj => ?_⟩
  rw [List.length_drop] at hj
  have := h.2 (k + j) (by omega)
  rw [List.drop_drop, show k * u.size + j * u.size = (k + j) * u.size from by rw [Nat.add_mul]]
  rw [List.getD_eq_getElem?_getD] at this ⊢
  rw [List.getElem?_drop]
  exact this

/-- what a function has made of a slice of the call's own -/
theorem lst_own (h : Sim c I L s a w) {t0 u : Ty} {id i n g : Nat} {vx : Value} (hvx : Rep (c.rc I L w) L (.lsl t0 (.l id) i n g) vx) {b : Blk} (hbb : s.rd (.l id) = some b) (hg : g = b.gen) (hz : b.frozen = false) (ht0 : t0.size = u.size) {l : List (Val u)} (hct : b.ct = .sl u l) (hl : i + n = l.length) :
    ∃ ad cap F, vx = .slice ad n cap ∧ RowAt w u.size n ad cap F ∧ Flat (c.rc I L w) u ((l.drop i).take n) F ∧ (0 < cap → ∃ p, L (.l id) = some p ∧ p.virt = false ∧ ∃ o, ad = some ⟨p.b, o, none⟩) ∧
      ∀ (w' : World) (v : Value) (l' : List (Val u)) (F' : List Value), Flat (c.rc I L w) u l' F' → RowPost2 w w' u.size l'.length ad cap v F' →
        ∃ L', Sim c I L' ⟨s.env, s.heap.set id (some { ct := .sl u l', gen := g + 1, frozen := false })⟩ a w' ∧ Rep (c.rc I L' w') L' (.lsl u (.l id) 0 l'.length (g + 1)) v := by
  obtain ⟨p, ad, cap, F, hp, hpt, hpg, hf, hv, hcap, hF, hFr, hplace⟩ := lsl_base h hvx hbb hg hct (Nat.le_of_eq hl)
  have hb0 := rdv_l.1 (show rdv s.heap (.l id) = some b from hbb)
  have hid : id < s.heap.length := (List.getElem?_eq_some_iff.1 hb0).1
  have hnt : ∀ x, s.heap[id]? = some (some x) → x.isTab = false := fun x hx => by rw [hb0] at hx; injection hx with hx; injection hx with hx; subst hx; simp [Blk.isTab, hct]
  have hpu : p.w = u.size := by rw [hpt, ht0]
  have hFl : F.length = n * u.size := by
    rw [hF.1]
    congr 1
    simp; omega
  refine ⟨ad, cap, F, hv, ⟨hcap, hFl, fun v hv => hF.cell v hv, ?_⟩, hF, fun hc => ?_, ?_⟩
  · rcases hplace with h0 | ⟨hpv, _, had, hroom, cells, T, hh, hps, hat⟩
    · exact .inl h0
    · refine .inr ⟨p.b, _, cells, T, had, hh, ?_, hat⟩
      rw [hps, ← hpu]
      rw [Nat.add_mul] at hroom
      omega
  · rcases hplace with h0 | ⟨hpv, _, had, _⟩
    · omega
    · exact ⟨p, hp, hpv, _, had⟩
  · rintro w' v l' F' hF' ⟨hio, hsz, hFl', cap', hm, hpost⟩
    rcases hpost with ⟨b1, off, cs, cs', T, had, hh, rfl, hcc, hc0, hnew, hcs, hoth, hat⟩ | ⟨nb, cs', T', hnb, hnew, hold, rfl, hcs, hat⟩
    · rcases hplace with h0 | ⟨hpv, _, had2, hroom, cells, T2, hh2, hps, _⟩
      · omega
      rw [had2] at had
      injection had with had
      injection had with e1 e2
      subst e1; subst e2
      rw [hh2] at hh
      injection hh with hh
      injection hh with e1 e2
      subst e1; subst e2
      have hnI := hf hz hpv
      rw [Nat.add_mul] at hroom
      have hmul : l'.length * p.w ≤ cap * p.w := Nat.mul_le_mul_right _ (by omega)
      have hmul2 : cap' * p.w ≤ cap * p.w := Nat.mul_le_mul_right _ hcc
      refine ⟨addL L (.l id) { p with o := p.o + i * p.w, gen := g + 1 }, ?_, ?_⟩
      · refine h.upd hid hnt rfl (fun q hq => ?_) (fun _ => ⟨Nat.lt_of_lt_of_le (h.own _ p hp hpv).2 hsz, .inr ⟨p, hp, hpv, rfl⟩⟩) hsz hio ?_ ?_ (fun _ _ => hnI)
        · rw [hp] at hq
          injection hq with hq
          subst hq
          exact ⟨rfl, .inr (by rw [hpg]; exact Nat.lt_succ_self _)⟩
        · intro k hkl hk
          by_cases e : k = p.b
          · exact absurd (hk p hp hpv e) (by rw [e]; exact hnI)
          · exact hoth k hkl e
        · intro hr' hl'
          refine ⟨rfl, .inr ⟨hpv, hpu, _, T2, hnew, by rw [hcs]; exact hps, ?_, ?_⟩⟩
          · simp only
            omega
          · simp only [hpu]
            refine (hF'.mono hr').rows fun j v hj => ?_
            show World.cell? _ _ = _
            rw [cell?_cells hnew, ← hpu]
            exact hat j v hj
      · simp only [Rep]
        refine ⟨{ p with o := p.o + i * p.w, gen := g + 1 }, by simp [addL], hpu, Nat.le_refl _, ad, cap', rfl, hm, fun _ => by rw [had2]; rfl, fun _ => .inr ⟨hpv, by simp [had2], ?_⟩⟩
        simp only [Nat.zero_add]
        omega
    · refine ⟨addL L (.l id) ⟨nb, 0, u.size, g + 1, cs'.size, false⟩, ?_, ?_⟩
      · refine h.upd hid hnt rfl (fun q hq => ?_) (fun _ => ⟨(Array.getElem?_eq_some_iff.1 hnew).1, .inl hnb⟩) hsz hio (fun b hb _ => hold b hb) ?_ ?_
        · rw [hp] at hq
          injection hq with hq
          subst hq
          exact ⟨hpu.symm, .inr (by rw [hpg]; exact Nat.lt_succ_self _)⟩
        · intro hr' hl'
          refine ⟨rfl, .inr ⟨rfl, rfl, cs', T', hnew, rfl, ?_, ?_⟩⟩
          · simp only [Nat.zero_add]
            exact Nat.le_trans (Nat.mul_le_mul_right _ hm) hcs
          · refine (hF'.mono hr').rows fun j v hj => ?_
            show World.cell? _ _ = _
            rw [cell?_cells hnew, Nat.zero_add]
            exact hat j v hj
        · intro _ _ hI
          have := h.imm _ hI
          simp only at this
          omega
      · simp only [Rep]
        refine ⟨⟨nb, 0, u.size, g + 1, cs'.size, false⟩, by simp [addL], rfl, Nat.le_refl _, some ⟨nb, 0, none⟩, cap', rfl, hm, fun _ => rfl, fun _ => .inr ⟨rfl, by simp, ?_⟩⟩
        simp only [Nat.zero_add]
        exact hcs

/-- a slice made one of the call's own -/
theorem ownA_sound (h : Sim c I L s a w) {newId : Nat} (hn : s.heap[newId]? = some none) {u : Ty} {x : AV} {vx : Value} (hvx : Rep (c.rc I L w) L x vx) {id g : Nat} {l : List (Val u)} {wr : List (Ref × Blk)} {rs : List Nat}
    (e : (ownA newId u x).run call s.rd = some ((id, g, l, wr), rs)) :
    ∃ L1 t0 i n lb b, LLe L L1 ∧ (∀ j, j ≠ newId → L1 (.l j) = L (.l j)) ∧ Sim c I L1 ⟨s.env, (putAll s.heap wr).set id (some b)⟩ a w ∧ Rep (c.rc I L1 w) L1 (.lsl t0 (.l id) i n g) vx ∧ t0.size = u.size ∧ b.gen = g ∧ b.frozen = false ∧ b.ct = .sl u lb ∧ i + n = lb.length ∧ l = (lb.drop i).take n ∧ id < s.heap.length ∧ (id = newId ∨ s.rd (.l id) = some b) ∧ ∀ k i, L1 (.o k i 0) = L (.o k i 0) := by
  unfold ownA at e
  split at e
  · rename_i t0 id' i n g'
    obtain ⟨b, l', hb, e1, rfl⟩ := HM.run_rd e
    split at e1
    · rename_i hc
      obtain ⟨hg, hf, ht⟩ := hc
      split at e1
      · rename_i u' lb hct
        split at e1
        · rename_i huu
          subst huu
          obtain ⟨hl, e2⟩ := HM.run_chk e1
          obtain ⟨e3, _⟩ := HM.run_ret e2
          simp only [Prod.mk.injEq] at e3
          obtain ⟨rfl, rfl, rfl, rfl⟩ := e3
          have hb0 := rdv_l.1 (show rdv s.heap (.l id) = some b from hb)
          have hset : s.heap.set id (some b) = s.heap := by
            have hlt := (List.getElem?_eq_some_iff.1 hb0).1
            have := List.set_getElem_self (as := s.heap) hlt
            rw [(List.getElem?_eq_some_iff.1 hb0).2] at this
            exact this
          refine ⟨L, t0, i, n, lb, b, LLe.refl L, fun _ _ => rfl, ?_, hvx, ht, hg.symm, hf, hct, of_decide_eq_true hl, rfl, (List.getElem?_eq_some_iff.1 hb0).1, .inr hb, fun _ _ => rfl⟩
          simp only [putAll]
          rw [hset]
          exact h
        · cases e1
      · cases e1
    · cases e1
  · rename_i t0 k io q i n g'
    obtain ⟨b, l', hbb, e1, rfl⟩ := HM.run_rd e
    obtain ⟨tb, l'', htb, e4, rfl⟩ := HM.run_rd e1
    split at e4
    · rename_i hcond
      obtain ⟨hg, ht0⟩ := hcond
      split at e4
      · rename_i u' lb cs rows st gs hct htct
        split at e4
        · rename_i huu
          subst huu
          obtain ⟨hl, e5⟩ := HM.run_chk e4
          obtain ⟨e3, _⟩ := HM.run_ret e5
          simp only [Prod.mk.injEq] at e3
          obtain ⟨rfl, rfl, rfl, rfl⟩ := e3
          have hvx' := hvx
          simp only [Rep] at hvx'
          obtain ⟨p, hp, hpw, hge, ad, cap, hs, hcap, hsome, hcur⟩ := hvx'
          obtain ⟨⟨hpg, _⟩, _⟩ := h.get hp hbb
          have hd := h.detach hp hbb hct htb htct hn
          have hql : q ≠ 0 := by
            intro e
            subst e
            obtain ⟨_, _, _, _, _, _, _, hv⟩ := rdH_o hbb
            simp only [viewO, Option.some.injEq] at hv
            subst hv
            exact (objCt_sl hct).elim
          have hL' : LLe L (addL (addL L (.o k io q) { p with gen := p.gen + 1, virt := true }) (.l id) { p with gen := 0 }) := by
            refine LLe.trans (addL_le (id := .o k io q) (p := { p with gen := p.gen + 1, virt := true }) (fun x hx => ?_) (fun hb => ?_)) (addL_le (fun x hx => ?_) (fun hb => hb))
            · rw [hp] at hx
              injection hx with hx
              subst hx
              exact ⟨rfl, Nat.lt_succ_self _⟩
            · cases q with
              | zero => exact hql rfl
              | succ q => exact hb
            · have := free_L h hn
              simp only [addL] at hx
              rw [if_neg (by simp), this] at hx
              cases hx
          refine ⟨_, t0, i, n, lb, { ct := .sl u' lb, gen := 0, frozen := false }, hL', fun j hj => by simp [addL, hj], ?_, ?_, ht0, rfl, rfl, rfl, of_decide_eq_true hl, rfl, lt_of_free hn, .inl rfl, fun k2 i2 => by simp [addL, Ne.symm hql]⟩
          · simp only [putAll, putH]
            exact hd
          · simp only [Rep]
            exact ⟨{ p with gen := 0 }, by simp [addL], hpw, Nat.le_refl _, ad, cap, hs, hcap, hsome, fun _ => hcur (by rw [hpg, hg])⟩
        · cases e4
      · cases e4
    · cases e4
  · obtain ⟨e3, _⟩ := HM.run_ret e
    simp only [Prod.mk.injEq] at e3
    obtain ⟨rfl, rfl, rfl, rfl⟩ := e3
    have hL := free_L h hn
    simp only [Rep] at hvx
    refine ⟨addL L (.l id) ⟨0, 0, u.size, 0, 0, true⟩, u, 0, 0, [], { ct := .sl u [], gen := 0, frozen := false }, addL_le (fun q hq => by rw [hL] at hq; cases hq) (fun hb => hb), fun j hj => by simp [addL, hj], ?_, ?_, rfl, rfl, rfl, rfl, rfl, rfl, lt_of_free hn, .inl rfl, fun k2 i2 => by simp [addL]⟩
    · simp only [putAll]
      refine h.upd (lt_of_free hn) (notab_free hn) rfl (fun q hq => by rw [hL] at hq; cases hq) (fun hv => by cases hv) (Nat.le_refl _) (IO.refl w) (fun _ _ _ => rfl) ?_ (fun _ hv => by cases hv)
      intro _ _
      exact ⟨rfl, .inl ⟨rfl, rfl, rfl⟩⟩
    · simp only [Rep]
      exact ⟨⟨0, 0, u.size, 0, 0, true⟩, by simp [addL], rfl, Nat.le_refl _, none, 0, hvx, Nat.le_refl _, fun hne => absurd rfl hne, fun _ => .inl rfl⟩
  · cases e

theorem hd_flat {R : RC} {k : Nat} (hinj : ∀ i j b, R.H k i = some b → R.H k j = some b → i = j) {h : Option Nat} {xv : Value} (hx : RepT R (.hd k) h [xv]) : ∀ {l : List (Option Nat)} {F : List Value}, Flat R (.hd k) l F →
    Flat R (.hd k) (l.filter fun y => !decide (y = h)) (F.filter fun v => !ptrEq v xv) ∧ ∀ v, v ∈ F → ∃ y, RepT R (.hd k) y [v]
  | [], F, hF => by
    have : F = [] := List.length_eq_zero_iff.1 (by rw [hF.1]; rfl)
    subst this
    exact ⟨Flat.nil _ _, fun v hv => by cases hv⟩
  | y :: l, F, hF => by
    cases F with
    | nil => have := hF.1; simp [Ty.size] at this
    | cons v F =>
      have h0 : RepT R (.hd k) y [v] := by
        have := hF.2 0 (by simp)
        simpa [Ty.size] using this
      have h1 : Flat R (.hd k) l F := by
        have := hF.drop 1
        simpa [Ty.size] using this
      obtain ⟨g1, g2⟩ := hd_flat hinj hx h1
      have hsame : ptrEq v xv = decide (y = h) := by
        cases y with
        | none =>
          have e1 : v = .pointer none := by simpa [RepT] using h0
          subst e1
          cases h with
          | none =>
            have e2 : xv = .pointer none := by simpa [RepT] using hx
            subst e2
            rfl
          | some j =>
            obtain ⟨b, _, e2⟩ := hx
            have e2 : xv = .pointer (some ⟨b, 0, none⟩) := by simpa using e2
            subst e2
            rfl
        | some i =>
          obtain ⟨b, hb, e1⟩ := h0
          have e1 : v = .pointer (some ⟨b, 0, none⟩) := by simpa using e1
          subst e1
          cases h with
          | none =>
            have e2 : xv = .pointer none := by simpa [RepT] using hx
            subst e2
            rfl
          | some j =>
            obtain ⟨b', hb', e2⟩ := hx
            have e2 : xv = .pointer (some ⟨b', 0, none⟩) := by simpa using e2
            subst e2
            show Nat.beq b b' = _
            by_cases hij : i = j
            · subst hij
              rw [hb] at hb'
              injection hb' with hb'
              subst hb'
              simp
            · have : b ≠ b' := fun e => hij (hinj i j b hb (by rw [e]; exact hb'))
              cases hq : Nat.beq b b' with
              | true => exact absurd (Nat.eq_of_beq_eq_true hq) this
              | false => simp [hij]
      refine ⟨?_, fun u hu => ?_⟩
      · simp only [List.filter_cons, hsame]
        cases decide (y = h) with
        | true => exact g1
        | false =>
          simp only [Bool.not_false, if_true]
          have one : Flat R (.hd k) [y] [v] := ⟨rfl, fun j hj => by
            have : j = 0 := by simpa using hj
            subst this
            simpa [Ty.size] using h0⟩
          exact one.append g1
      · rcases List.mem_cons.1 hu with rfl | hu
        · exact ⟨y, h0⟩
        · exact g2 u hu

theorem avVals_rep {R : RC} {L : Ref → Option Pl} : ∀ {l : List AV} {xs ys : List Value}, avVals l = some xs → RepL R L l ys → ys = xs
  | [], xs, ys, h, hr => by
    simp only [avVals, Option.some.injEq] at h
    simp only [RepL] at hr
    rw [hr, h]
  | x :: r, xs, ys, h, hr => by
    unfold avVals at h
    split at h
    · rename_i hh; cases hh
    · rename_i y t hh
      injection hh with h1 h2
      subst h1 h2
      split at h
      · rename_i l hl
        injection h with h
        subst h
        simp only [RepL, Rep] at hr
        obtain ⟨v, t2, rfl, rfl, ht⟩ := hr
        rw [avVals_rep hl ht]
      · cases h
    · cases h

theorem Flat.bytes (R : RC) : ∀ (bs : List Int), Flat R (.int .u8) bs (bs.map (.int .u8)) := by
  intro bs
  refine ⟨by simp [Ty.size], fun k hk => ?_⟩
  have hk' : k < bs.length := hk
  simp [Ty.size, RepT, List.getD_eq_getElem?_getD, List.getElem?_eq_getElem hk', hk', List.take_one, List.drop_eq_getElem_cons]

theorem op_lst (h : Sim c I L s a w) (hW : WOK c.P c.E c.S c.w0) {f : FuncId} {k : LstK} (hlst : LstOK c.P f k) {as : List AV} {vs : Array Value} {o : Oper} (hargs : RepL (c.rc I L w) L as vs.toList) (hexec : (execOp a.eval o).run c.P w = .ok (.enter f vs) w)
    {newId : Nat} (hn : s.heap[newId]? = some none) {δ : Dl} {rs : List Nat} (e : (lstA c.E newId k as).run call s.rd = some (δ, rs)) : OpOK c s a w o δ := by
  unfold lstA at e
  split at e
  · rename_i sz wd x i t1 iy lo m gy
    obtain ⟨yb, l1, hyb, e1, rfl⟩ := HM.run_rd e
    split at e1
    · rename_i hgy
      split at e1
      · rename_i u y hyct
        split at e1
        · rename_i hsz
          obtain ⟨husz, ht1⟩ := hsz
          subst husz
          obtain ⟨hlm, e2⟩ := HM.run_chk e1
          have hlm := of_decide_eq_true hlm
          obtain ⟨⟨id, g, l, wr⟩, r1, r2, e3, e4, rfl⟩ := HM.run_bind e2
          simp only at e4
          cases hbe : Nat.beq id iy with
          | true => rw [hbe] at e4; cases e4
          | false =>
          rw [hbe] at e4
          obtain ⟨hm0, e5⟩ := HM.run_chk e4
          obtain ⟨hi0, e6⟩ := HM.run_chk e5
          obtain ⟨hil, e7⟩ := HM.run_chk e6
          obtain ⟨hmost, e8⟩ := HM.run_chk e7
          obtain ⟨rfl, rfl⟩ := HM.run_ret e8
          have hm0 := of_decide_eq_true hm0
          have hi0 := of_decide_eq_true hi0
          have hil := of_decide_eq_true hil
          have hmost := of_decide_eq_true hmost
          have hidy : id ≠ iy := fun e => by rw [e, Nat.beq_refl] at hbe; cases hbe
          simp only [RepL] at hargs
          obtain ⟨vx, t2, hvs, hvx, vi, t3, rfl, hvi, vy, t4, rfl, hvy, rfl⟩ := hargs
          have hvi : vi = .int .i64 i := by simpa only [Rep] using hvi
          subst hvi
          have hvs : vs = #[vx, .int .i64 i, vy] := by
            apply Array.ext'
            simpa using hvs
          subst hvs
          obtain ⟨py, ay, capy, G, hpy, hpyt, hpyg, _, hvyv, hcapy, hG, _, hyplace⟩ := lsl_base h hvy hyb hgy hyct hlm
          subst hvyv
          have hlen : ((y.drop lo).take m).length = m := by simp; omega
          obtain ⟨L1, t0, i1, n, lb, b, hLL, hLo, h1, hvx1, ht0, hbg, hbf, hbct, hlb, hl, hid, _⟩ := ownA_sound h hn hvx e3
          have hrd1 : St.rd ⟨s.env, (putAll s.heap wr).set id (some b)⟩ (.l id) = some b := by
            refine rdv_l.2 (List.getElem?_set_self ?_)
            have hp1 : ∃ p, L1 (.l id) = some p := by
              simp only [Rep] at hvx1
              obtain ⟨p, hp, _⟩ := hvx1
              exact ⟨p, hp⟩
            obtain ⟨p, hp⟩ := hp1
            obtain ⟨x, hx⟩ := h1.dom _ p hp
            have := (List.getElem?_eq_some_iff.1 (rdv_l.1 hx)).1
            simpa using this
          obtain ⟨ad, cap, F, hvxv, hrow, hflat, hpl, hfin⟩ := lst_own h1 hvx1 hrd1 hbg.symm hbf ht0 hbct hlb
          subst hvxv
          rw [← hl] at hflat
          have hln : l.length = n := by rw [hl]; simp; omega
          have hrle : RLe (c.rc I L w) (c.rc I L1 w) := rle_of_heap (fun _ hb => hb) (fun _ _ => rfl) hLL
          have hrowy : RowAt w u.size m ay capy G := by
            refine ⟨hcapy, by rw [hG.1, hlen], fun v hv => hG.cell v hv, ?_⟩
            rcases hyplace with h0 | ⟨hpv, hpw, had, hroom, cells, T, hh, hps, hat⟩
            · exact .inl h0
            · refine .inr ⟨py.b, _, cells, T, had, hh, ?_, hat⟩
              rw [hps, ← hpw]
              rw [Nat.add_mul] at hroom
              omega
          have hne : ∀ b off b' off', ad = some ⟨b, off, none⟩ → ay = some ⟨b', off', none⟩ → 0 < cap → b ≠ b' := by
            rintro b1 off b2 off' e1 e2 hc rfl
            obtain ⟨p, hp, hpv, o1, had⟩ := hpl hc
            rcases hyplace with h0 | ⟨hyv, _, hay, _⟩
            · omega
            · rw [had] at e1
              injection e1 with e1
              injection e1 with e1 _
              rw [hay] at e2
              injection e2 with e2
              injection e2 with e2 _
              have hiy : iy ≠ newId := fun e => by
                rw [e, free_L h hn] at hpy
                cases hpy
              have := h1.inj (.l id) (.l iy) p py hp (by rw [hLo iy hiy]; exact hpy) hpv hyv (by rw [e1, e2])
              injection this with this
              exact hidy this
          have hcall := hlst w n ad cap F i.toNat m ay capy G hrow hrowy hne hm0 (by rw [← hln]; exact hil) (by rw [hln] at hmost; exact hmost)
          have hii : ((i.toNat : Nat) : Int) = i := Int.toNat_of_nonneg hi0
          rw [hii] at hcall
          intro K Q hK
          unfold Oper.wp
          rw [hexec, Oper.upon_enter]
          refine hcall.mono fun en w' hen => ?_
          obtain ⟨v, rfl, hpost⟩ := hen
          have hl' : (l.take i.toNat ++ (y.drop lo).take m ++ l.drop i.toNat).length = n + m := by
            rw [List.length_append, List.length_append, hlen, List.length_take, List.length_drop]
            omega
          have hflat' : Flat (c.rc I L1 w) u (l.take i.toNat ++ (y.drop lo).take m ++ l.drop i.toNat) (F.take (i.toNat * u.size) ++ G ++ F.drop (i.toNat * u.size)) :=
            ((hflat.take hil).append (hG.mono hrle)).append (hflat.drop _)
          obtain ⟨L', hS, hrep⟩ := hfin w' v _ _ hflat' (by rw [hl']; exact hpost.weak)
          rw [hl'] at hrep
          have h3 := hS.put o.dst hrep
          simp only [List.set_set] at h3
          refine hK I L' _ _ ?_
          simp only [St.app, putAll_append, putAll, putH]
          rw [hln]
          exact h3
        · cases e1
      · cases e1
    · cases e1
  · rename_i sz u r lo n0 g0 i j
    split at e
    · rename_i husz
      subst husz
      obtain ⟨⟨id, g, l, wr⟩, r1, r2, e3, e4, rfl⟩ := HM.run_bind e
      simp only at e4
      obtain ⟨hm0, e5⟩ := HM.run_chk e4
      obtain ⟨hi0, e6⟩ := HM.run_chk e5
      obtain ⟨hij, e7⟩ := HM.run_chk e6
      obtain ⟨hj0, e8⟩ := HM.run_chk e7
      obtain ⟨hjl, e9⟩ := HM.run_chk e8
      obtain ⟨rfl, rfl⟩ := HM.run_ret e9
      have hm0 := of_decide_eq_true hm0
      have hi0 := of_decide_eq_true hi0
      have hij := of_decide_eq_true hij
      have hj0 := of_decide_eq_true hj0
      have hjl := of_decide_eq_true hjl
      simp only [RepL] at hargs
      obtain ⟨vx, t2, hvs, hvx, vi, t3, rfl, hvi, vj, t4, rfl, hvj, rfl⟩ := hargs
      have hvi : vi = .int .i64 i := by simpa only [Rep] using hvi
      have hvj : vj = .int .i64 j := by simpa only [Rep] using hvj
      subst hvi; subst hvj
      have hvs : vs = #[vx, .int .i64 i, .int .i64 j] := by
        apply Array.ext'
        simpa using hvs
      subst hvs
      obtain ⟨L1, t0, i1, n, lb, b, hLL, hLo, h1, hvx1, ht0, hbg, hbf, hbct, hlb, hl, hid, _⟩ := ownA_sound h hn hvx e3
      have hrd1 : St.rd ⟨s.env, (putAll s.heap wr).set id (some b)⟩ (.l id) = some b := by
        refine rdv_l.2 (List.getElem?_set_self ?_)
        have hp1 : ∃ p, L1 (.l id) = some p := by
          simp only [Rep] at hvx1
          obtain ⟨p, hp, _⟩ := hvx1
          exact ⟨p, hp⟩
        obtain ⟨p, hp⟩ := hp1
        obtain ⟨x, hx⟩ := h1.dom _ p hp
        have := (List.getElem?_eq_some_iff.1 (rdv_l.1 hx)).1
        simpa using this
      obtain ⟨ad, cap, F, hvxv, hrow, hflat, hpl, hfin⟩ := lst_own h1 hvx1 hrd1 hbg.symm hbf ht0 hbct hlb
      subst hvxv
      rw [← hl] at hflat
      have hln : l.length = n := by rw [hl]; simp; omega
      have hcall := hlst w n ad cap F i.toNat j.toNat hrow (by omega) hij (by omega)
      have hii : ((i.toNat : Nat) : Int) = i := Int.toNat_of_nonneg hi0
      have hjj : ((j.toNat : Nat) : Int) = j := Int.toNat_of_nonneg hj0
      rw [hii, hjj] at hcall
      intro K Q hK
      unfold Oper.wp
      rw [hexec, Oper.upon_enter]
      refine hcall.mono fun en w' hen => ?_
      obtain ⟨v, rfl, hpost⟩ := hen
      have hl' : (l.take i.toNat ++ l.drop j.toNat).length = n - (j.toNat - i.toNat) := by
        simp only [List.length_append, List.length_take, List.length_drop]
        omega
      have hflat' : Flat (c.rc I L1 w) u (l.take i.toNat ++ l.drop j.toNat) (F.take (i.toNat * u.size) ++ F.drop (j.toNat * u.size)) :=
        (hflat.take (by omega)).append (hflat.drop _)
      obtain ⟨L', hS, hrep⟩ := hfin w' v _ _ hflat' (by rw [hl']; exact hpost.weak)
      rw [hl'] at hrep
      have h3 := hS.put o.dst hrep
      simp only [List.set_set] at h3
      refine hK I L' _ _ ?_
      simp only [St.app, putAll_append, putAll, putH]
      rw [hln]
      exact h3
    · cases e
  · rename_i g k u r lo n0 gg g' ib gb
    split at e
    · rename_i hgu
      obtain ⟨rfl, rfl⟩ := hgu
      obtain ⟨bb, l1, hbb, e1, rfl⟩ := HM.run_rd e
      split at e1
      · rename_i hgb
        split at e1
        · rename_i k' hh hbct
          split at e1
          · rename_i hk
            subst hk
            obtain ⟨tk, lk, htk, e1', rfl⟩ := HM.run_rd e1
            have htk := rdv_l.1 (show rdv s.heap (.l _) = some tk from htk)
            clear e1
            have e1 := e1'
            clear e1'
            split at e1
            rotate_left
            · cases e1
            rename_i tcs tl tst tgs htkc
            split at e1
            rotate_left
            · cases e1
            rename_i hmk
            obtain ⟨⟨idn, gn, l, wr⟩, r1, r2, e3, e4, rfl⟩ := HM.run_bind e1
            simp only at e4
            cases hbe : Nat.beq idn ib with
            | true => rw [hbe] at e4; cases e4
            | false =>
            rw [hbe] at e4
            obtain ⟨hm0, e5⟩ := HM.run_chk e4
            obtain ⟨hmost, e6⟩ := HM.run_chk e5
            obtain ⟨rfl, rfl⟩ := HM.run_ret e6
            have hm0 := of_decide_eq_true hm0
            have hmost := of_decide_eq_true hmost
            have hidy : idn ≠ ib := fun e => by rw [e, Nat.beq_refl] at hbe; cases hbe
            simp only [RepL] at hargs
            obtain ⟨vx, t2, hvs, hvx, vf, t3, rfl, hvf, rfl⟩ := hargs
            simp only [Rep, RepL] at hvf
            obtain ⟨fa, fc, rfl, hfa, yp, tp, hfc, ⟨pb, hpb, hpbg, q, rfl, hq⟩, rfl⟩ := hvf
            have hfa : fa = #[] := Array.ext' hfa
            have hfc : fc = #[.pointer (some q)] := Array.ext' hfc
            subst hfa; subst hfc
            have hvs : vs = #[vx, .func (.func g') #[] #[.pointer (some q)]] := by
              apply Array.ext'
              simpa using hvs
            subst hvs
            obtain ⟨hk1, _⟩ := h.get hpb hbb
            obtain ⟨hpbg2, hk2⟩ := hk1
            rw [hbct] at hk2
            obtain ⟨hpv, ho, csb, Tb, hhb, hrow0⟩ := hk2
            have hq := hq (by rw [hpbg2, hgb])
            have hq : q = ⟨pb.b, 0, none⟩ := by rw [hq, ho]; simp
            subst hq
            simp only [RepL, Rep] at hrow0
            obtain ⟨xv, tx, hcsb, hxv, rfl⟩ := hrow0
            obtain ⟨L1, t0, i1, n, lb, b, hLL, hLo, h1, hvx1, ht0, hbg, hbf, hbct1, hlb, hl, hid, _, hLbox⟩ := ownA_sound h hn hvx e3
            have hp1 : ∃ p, L1 (.l idn) = some p := by
              simp only [Rep] at hvx1
              obtain ⟨p, hp, _⟩ := hvx1
              exact ⟨p, hp⟩
            have hrd1 : St.rd ⟨s.env, (putAll s.heap wr).set idn (some b)⟩ (.l idn) = some b := by
              refine rdv_l.2 (List.getElem?_set_self ?_)
              obtain ⟨p, hp⟩ := hp1
              obtain ⟨x, hx⟩ := h1.dom _ p hp
              have := (List.getElem?_eq_some_iff.1 (rdv_l.1 hx)).1
              simpa using this
            obtain ⟨ad, cap, F, hvxv, hrow, hflat, hpl, hfin⟩ := lst_own h1 hvx1 hrd1 hbg.symm hbf ht0 hbct1 hlb
            subst hvxv
            rw [← hl] at hflat
            have hln : l.length = n := by rw [hl]; simp; omega
            have hrle : RLe (c.rc I L w) (c.rc I L1 w) := rle_of_heap (fun _ hb => hb) (fun _ _ => rfl) hLL
            have hxv1 : RepT (c.rc I L1 w) (.hd k') hh [xv] := RepT.mono hrle (.hd k') hxv
            obtain ⟨hfl2, hmem⟩ := hd_flat (fun i j b => h1.objInj k' i j b) hxv1 hflat
            have hptr : ∀ (y : Option Nat) v, RepT (c.rc I L1 w) (.hd k') y [v] → PtrAt w v ∧ ∀ b', v = .pointer (some ⟨b', 0, none⟩) → ∃ i p, L1 (.o k' i 0) = some p ∧ p.b = b' ∧ p.virt = false := by
              intro y v hy
              cases y with
              | none =>
                have e1 : v = .pointer none := by simpa [RepT] using hy
                subst e1
                exact ⟨.inl rfl, fun b' e => by cases e⟩
              | some i =>
                obtain ⟨b1, hb1, e1⟩ := hy
                have e1 : v = .pointer (some ⟨b1, 0, none⟩) := by simpa using e1
                subst e1
                obtain ⟨cs1, T1, hc1⟩ := h.objCell k' i b1 htk htkc hmk (by
                  have : (L1 (.o k' i 0)).map (·.b) = some b1 := hb1
                  rw [hLbox] at this
                  exact this)
                obtain ⟨p, hp, hpb1, _, hpv1, _⟩ := h1.objL hb1
                refine ⟨.inr ⟨b1, cs1, T1, rfl, hc1⟩, fun b' e => ⟨i, p, hp, ?_, hpv1⟩⟩
                injection e with e
                injection e with e
                injection e with e
                rw [hpb1, e]
            have hibn : ib ≠ newId := fun e => by
              rw [e, free_L h hn] at hpb
              cases hpb
            have hcall := hlst w n ad cap F pb.b csb Tb xv hrow (by omega) (by have : most = 1099511627776 := rfl; omega) (fun v hv => by
                obtain ⟨y, hy⟩ := hmem v hv
                exact (hptr y v hy).1) (hptr hh xv hxv1).1 hhb (by rw [← Array.getElem?_toList, hcsb]; rfl) (fun b1 off e1 hc => by
                obtain ⟨p, hp, hpv1, o1, had⟩ := hpl hc
                rw [had] at e1
                injection e1 with e1
                injection e1 with e1 _
                subst e1
                refine ⟨fun e2 => ?_, fun v hv e2 => ?_⟩
                · have := h1.inj (.l idn) (.l ib) p pb hp (by rw [hLo ib hibn]; exact hpb) hpv1 hpv e2
                  injection this with this
                  exact hidy this
                · have hh2 : ∃ y, RepT (c.rc I L1 w) (.hd k') y [v] := by
                    rcases hv with hv | rfl
                    · exact hmem v hv
                    · exact ⟨hh, hxv1⟩
                  obtain ⟨y, hy⟩ := hh2
                  obtain ⟨i2, p2, hp2, hb2, hv2⟩ := (hptr y v hy).2 _ e2
                  have := h1.inj (.l idn) (.o k' i2 0) p p2 hp hp2 hpv1 hv2 hb2.symm
                  cases this)
            intro K Q hK
            unfold Oper.wp
            rw [hexec, Oper.upon_enter]
            refine hcall.mono fun en w' hen => ?_
            obtain ⟨v, rfl, hpost⟩ := hen
            have hlen2 : (l.filter fun (y : Option Nat) => !decide (y = hh)).length = (F.filter fun v => !ptrEq v xv).length := by
              have := hfl2.1
              simpa [Ty.size] using this.symm
            obtain ⟨L', hS, hrep⟩ := hfin w' v _ _ hfl2 (by rw [hlen2]; exact hpost.weak)
            have h3 := hS.put o.dst hrep
            simp only [List.set_set] at h3
            refine hK I L' _ _ ?_
            simp only [St.app, putAll_append, putAll, putH]
            exact h3
          · cases e1
        · cases e1
      · cases e1
    · cases e
  · rename_i k x args
    split at e
    rotate_left
    · cases e
    rename_i xs hxs
    split at e
    rotate_left
    · cases e
    rename_i bs hbs
    obtain ⟨⟨id, g, l, wr⟩, r1, r2, e3, e4, rfl⟩ := HM.run_bind e
    simp only at e4
    obtain ⟨hmost, e5⟩ := HM.run_chk e4
    obtain ⟨rfl, rfl⟩ := HM.run_ret e5
    have hmost := of_decide_eq_true hmost
    simp only [RepL] at hargs
    obtain ⟨vx, t2, hvs, hvx, htl⟩ := hargs
    have := avVals_rep hxs htl
    subst this
    have hvs : vs = #[vx] ++ t2.toArray := by
      apply Array.ext'
      simpa using hvs
    subst hvs
    obtain ⟨L1, t0, i1, n, lb, b, hLL, hLo, h1, hvx1, ht0, hbg, hbf, hbct, hlb, hl, hid, _⟩ := ownA_sound h hn hvx e3
    have hrd1 : St.rd ⟨s.env, (putAll s.heap wr).set id (some b)⟩ (.l id) = some b := by
      refine rdv_l.2 (List.getElem?_set_self ?_)
      have hp1 : ∃ p, L1 (.l id) = some p := by
        simp only [Rep] at hvx1
        obtain ⟨p, hp, _⟩ := hvx1
        exact ⟨p, hp⟩
      obtain ⟨p, hp⟩ := hp1
      obtain ⟨x, hx⟩ := h1.dom _ p hp
      have := (List.getElem?_eq_some_iff.1 (rdv_l.1 hx)).1
      simpa using this
    obtain ⟨ad, cap, F, hvxv, hrow, hflat, hpl, hfin⟩ := lst_own h1 hvx1 hrd1 hbg.symm hbf ht0 hbct hlb
    subst hvxv
    rw [← hl] at hflat
    have hln : l.length = n := by rw [hl]; simp; omega
    have hcall := hlst w n ad cap F t2 bs hrow hbs (by rw [← hln]; exact hmost)
    intro K Q hK
    unfold Oper.wp
    rw [hexec, Oper.upon_enter]
    refine hcall.mono fun en w' hen => ?_
    obtain ⟨v, rfl, hpost⟩ := hen
    have hl' : (l ++ bs).length = n + bs.length := by
      rw [List.length_append, hln]
    have hflat' : Flat (c.rc I L1 w) (.int .u8) (l ++ bs) (F ++ bs.map (.int .u8)) := hflat.append (Flat.bytes _ bs)
    obtain ⟨L', hS, hrep⟩ := hfin w' v _ _ hflat' (by rw [hl']; exact hpost)
    rw [hl'] at hrep
    have h3 := hS.put o.dst hrep
    simp only [List.set_set] at h3
    refine hK I L' _ _ ?_
    simp only [St.app, putAll_append, putAll, putH]
    rw [hln]
    exact h3
  · rename_i pt et at_ g rt gs ty x pt' ib gb
    split at e
    rotate_left
    · cases e
    rename_i hc
    obtain ⟨rfl, het, hat⟩ := hc
    split at e
    rotate_left
    · cases e
    rename_i rt' gs' ty' er hg hdec
    split at e
    rotate_left
    · cases e
    rename_i hc
    obtain ⟨rfl, rfl, rfl⟩ := hc
    obtain ⟨bb, l1, hbb, e1, rfl⟩ := HM.run_rd e
    clear e
    split at e1
    rotate_left
    · cases e1
    rename_i hc
    obtain ⟨hgb, hfz⟩ := hc
    split at e1
    rotate_left
    · cases e1
    rename_i y0 hct
    simp only [RepL] at hargs
    obtain ⟨vx, t2, hvs, hvx, vp, t3, rfl, hvp, rfl⟩ := hargs
    simp only [Rep] at hvp
    obtain ⟨z, rfl, p, hp, hge, q, rfl, hq⟩ := hvp
    obtain ⟨⟨hpg, hk⟩, hnI⟩ := h.get hp hbb
    have hqq := hq (by rw [hpg, hgb])
    rw [hct] at hk
    obtain ⟨hpv, hpo, cs, T, hh, hrow⟩ := hk
    simp only [hpo, Nat.zero_mul, Nat.add_zero] at hqq
    subst hqq
    obtain ⟨csg, Tg, fz, hgh, hgrow⟩ := h.globW hW hg
    simp only [RepL, Rep] at hrow hgrow
    obtain ⟨y, t, hcs, _, rfl⟩ := hrow
    have hcs : cs = #[y] := Array.ext' (by rw [hcs])
    subst hcs
    obtain ⟨u, t, hcg, ⟨zz, rfl, ca, rfl, w1, t1, hca, rfl, rfl⟩, rfl⟩ := hgrow
    have hca : ca = #[.pointer (some ⟨gs', ty', none⟩)] := Array.ext' (by rw [hca])
    subst hca
    have hcg : csg = #[.iface rt' (.agg #[.pointer (some ⟨gs', ty', none⟩)])] := Array.ext' (by rw [hcg])
    subst hcg
    have hne : p.b ≠ g := by
      intro e
      obtain ⟨hGg, _⟩ := hW.glob g _ hg
      obtain ⟨hlt, hRt⟩ := h.fix g hGg
      rcases (h.own _ p hp hpv).1 with h1 | h1
      · omega
      · rw [e] at h1; exact hRt h1
    have hlt := (h.own _ p hp hpv).2
    have her := decE_sound hdec hvx
    have hvs : vs = #[vx, .iface pt' (.pointer (some ⟨p.b, 0, none⟩))] := by
      apply Array.ext'
      simpa using hvs
    subst hvs
    obtain ⟨g1, g2⟩ := hlst w p.b y T vx ⟨Tg, fz, hgh⟩ hh hne
    -- the world goes on, with that variable written
    have fin : ∀ (w' : World) (y' : Value) (row : List AV), AsPost w w' p.b y' T → (∀ R : RC, RLe (c.rc I L w) R → RepL R L row [y']) → Sim c I L ⟨s.env, s.heap.set ib (some { bb with ct := .box row })⟩ a w' := by
      intro w' y' row hpost hrep
      obtain ⟨hio, hsz, hold, hnew⟩ := hpost
      have hid : ib < s.heap.length := (List.getElem?_eq_some_iff.1 (rdv_l.1 (show rdv s.heap (.l ib) = some bb from hbb))).1
      have heqL : addL L (.l ib) p = L := by
        funext r
        simp only [addL]
        split
        · rename_i e; rw [e, hp]
        · rfl
      have := h.upd (id := ib) (p' := p) (b' := { bb with ct := .box row }) (w' := w') hid (fun b hb => by
        rw [rdv_l.1 (show rdv s.heap (.l ib) = some bb from hbb)] at hb
        injection hb with hb
        injection hb with hb
        subst hb
        simp [Blk.isTab, hct]) rfl (fun q hq => by rw [hp] at hq; injection hq with hq; subst hq; exact ⟨rfl, .inl rfl⟩) (fun _ => ⟨Nat.lt_of_lt_of_le hlt hsz, .inr ⟨p, hp, hpv, rfl⟩⟩) hsz hio
        (fun b hb hI => by
          by_cases e : b = p.b
          · exact absurd (hI p hp hpv e) (by rw [e]; exact hnI hfz hpv)
          · exact hold b hb e)
        (fun hr hl => by
          rw [heqL] at hr ⊢
          exact ⟨hpg, hpv, hpo, _, T, hnew, hrep _ hr⟩) (fun _ _ => hnI hfz hpv)
      rw [heqL] at this
      exact this
    cases er with
    | nil =>
      simp only [Er.isAt, HM.run, Option.some.injEq, Prod.mk.injEq] at e1
      obtain ⟨rfl, rfl⟩ := e1
      have her : vx = .nilIface := her
      intro K Q hK
      unfold Oper.wp
      rw [hexec, Oper.upon_enter]
      refine (g1 (.inl her)).mono fun en w' hen => ?_
      obtain ⟨rfl, hpost⟩ := hen
      have hrow' : ∀ R : RC, RLe (c.rc I L w) R → RepL R L [y0] [y] := fun R hr => by
        simp only [RepL]
        exact ⟨y, [], rfl, (by assumption : Rep (c.rc I L w) L y0 y).mono hr (LLe.refl L), rfl⟩
      have hS := fin w' y [y0] hpost hrow'
      have hset : s.heap.set ib (some { bb with ct := .box [y0] }) = s.heap := by
        have h0 := rdv_l.1 (show rdv s.heap (.l ib) = some bb from hbb)
        have : ({ bb with ct := .box [y0] } : Blk) = bb := by rw [← hct]
        rw [this]
        obtain ⟨hlt2, he2⟩ := List.getElem?_eq_some_iff.1 h0
        rw [← he2]
        exact List.set_getElem_self hlt2
      rw [hset] at hS
      exact hK I L _ _ (hS.put o.dst (by simp [Rep]))
    | s gv =>
      simp only [Er.isAt, HM.run, Option.some.injEq, Prod.mk.injEq] at e1
      obtain ⟨rfl, rfl⟩ := e1
      obtain ⟨_, her⟩ := her
      intro K Q hK
      unfold Oper.wp
      rw [hexec, Oper.upon_enter]
      refine (g1 (.inr ⟨_, by rw [het]; exact her⟩)).mono fun en w' hen => ?_
      obtain ⟨rfl, hpost⟩ := hen
      have hrow' : ∀ R : RC, RLe (c.rc I L w) R → RepL R L [y0] [y] := fun R hr => by
        simp only [RepL]
        exact ⟨y, [], rfl, (by assumption : Rep (c.rc I L w) L y0 y).mono hr (LLe.refl L), rfl⟩
      have hS := fin w' y [y0] hpost hrow'
      have hset : s.heap.set ib (some { bb with ct := .box [y0] }) = s.heap := by
        have h0 := rdv_l.1 (show rdv s.heap (.l ib) = some bb from hbb)
        have : ({ bb with ct := .box [y0] } : Blk) = bb := by rw [← hct]
        rw [this]
        obtain ⟨hlt2, he2⟩ := List.getElem?_eq_some_iff.1 h0
        rw [← he2]
        exact List.set_getElem_self hlt2
      rw [hset] at hS
      exact hK I L _ _ (hS.put o.dst (by simp [Rep]))
    | «at» pp gv =>
      simp only [Er.isAt, HM.run, Option.some.injEq, Prod.mk.injEq] at e1
      obtain ⟨rfl, rfl⟩ := e1
      obtain ⟨b1, o1, her, hb1, hc1, hv1, hc2⟩ := her
      intro K Q hK
      unfold Oper.wp
      rw [hexec, Oper.upon_enter]
      refine (g2 ⟨b1, o1, none⟩ (by rw [hat]; exact her)).mono fun en w' hen => ?_
      obtain ⟨rfl, hpost⟩ := hen
      have hS := fin w' (.pointer (some ⟨b1, o1, none⟩)) [.iptr [.v (.int .i64 pp), .er (.s gv)] 0] hpost (fun R hr => by
        simp only [RepL, Rep, RepE]
        refine ⟨_, [], rfl, ⟨b1, o1, rfl, hr.i _ hb1, [_, _], ⟨_, _, rfl, rfl, _, [], rfl, ⟨by rw [hr.t]; exact hv1, rfl⟩, rfl⟩, ?_⟩, rfl⟩
        intro j v hj
        rw [hr.c _ _ hb1]
        match j with
        | 0 => simp only [List.getElem?_cons_zero, Option.some.injEq] at hj; subst hj; exact hc1
        | 1 => simp only [List.getElem?_cons_succ, List.getElem?_cons_zero, Option.some.injEq] at hj; subst hj; rw [hr.t]; exact hc2
        | n + 2 => simp at hj)
      refine hK I L _ _ ?_
      exact hS.put o.dst (x := .v (.bool true)) (by simp [Rep])
  · cases e

end
end Go.Eng

/-
  The abstract machine, part 16f: maps.
-/
namespace Go.Eng

theorem keyC_rep {R : RC} : ∀ (a : Ty) {x : Val a} {cs : List Value}, a.key = true → RepT R a x cs → cs = keyC a x
  | .int _, _, _, _, h | .bool, _, _, _, h | .str, _, _, _, h | .unit, _, _, _, h => h
  | .pair a b, _, _, hk, h => by
    simp only [Ty.key, Bool.and_eq_true] at hk
    obtain ⟨c, d, rfl, hc, hd⟩ := h
    rw [keyC_rep a hk.1 hc, keyC_rep b hk.2 hd]
    rfl
  | .st a, _, _, hk, h => by
    simp only [Ty.key] at hk
    simp only [RepT] at h
    exact keyC_rep a hk h

theorem keyC_of (R : RC) : ∀ (a : Ty) (x : Val a), a.key = true → RepT R a x (keyC a x)
  | .int _, _, _ | .bool, _, _ | .str, _, _ | .unit, _, _ => rfl
  | .pair a b, x, hk => by
    simp only [Ty.key, Bool.and_eq_true] at hk
    exact ⟨_, _, rfl, keyC_of R a x.1 hk.1, keyC_of R b x.2 hk.2⟩
  | .st a, x, hk => by
    simp only [Ty.key] at hk
    exact keyC_of R a x hk

theorem keyEq_eq : ∀ (a : Ty) {x y : Val a}, a.key = true → keyEq a x y = true → x = y
  | .int _, _, _, _, h => of_decide_eq_true h
  | .bool, _, _, _, h => eq_of_beq h
  | .str, x, y, _, h => by
    have h : ByteArray.toList x = ByteArray.toList y := eq_of_beq h
    rw [ByteArray.toList_eq, ByteArray.toList_eq] at h
    cases x with | mk x => cases y with | mk y => exact congrArg ByteArray.mk (Array.toList_inj.1 h)
  | .unit, _, _, _, _ => rfl
  | .pair a b, x, y, hk, h => by
    simp only [Ty.key, Bool.and_eq_true] at hk
    simp only [keyEq, Bool.and_eq_true] at h
    exact Prod.ext (keyEq_eq a hk.1 h.1) (keyEq_eq b hk.2 h.2)
  | .st a, x, y, hk, h => by
    simp only [Ty.key] at hk
    exact keyEq_eq a hk h

theorem KeyR.key {R : RC} {a : Ty} {x : Val a} {v : Value} (hk : a.key = true) (h : KeyR R a x v) : v = keyV a x := by
  obtain ⟨cs, hc, e⟩ := h
  rw [keyC_rep a hk hc] at e
  exact e

theorem KeyR.of_key (R : RC) {a : Ty} (x : Val a) (hk : a.key = true) : KeyR R a x (keyV a x) := ⟨_, keyC_of R a x hk, rfl⟩

theorem KeyR.of_decV {R : RC} {L : Ref → Option Pl} {t : Ty} {x : AV} {y : Val t} {v : Value} (e : decV R.T.N t x = some y) (hx : Rep R L x v) : KeyR R t y v := by
  unfold decV at e
  split at e
  · rename_i ha
    split at e
    · split at e
      · rename_i y' hd
        injection e with e
        subst e
        simp only [Rep] at hx
        obtain ⟨cs, rfl, hl⟩ := hx
        obtain ⟨d, r, h1, h2, h3⟩ := decT_sound t hd hl
        simp only [RepL] at h3
        subst h3
        rw [List.append_nil] at h1
        refine ⟨d, h2, ?_⟩
        rw [ha]
        simp [← h1]
      · cases e
    · cases e
  · rename_i ha
    split at e
    · split at e
      · rename_i y' hd
        injection e with e
        subst e
        obtain ⟨d, r, h1, h2, h3⟩ := decT_sound t hd (show RepL R L [x] [v] by simp only [RepL]; exact ⟨v, [], rfl, hx, rfl⟩)
        simp only [RepL] at h3
        subst h3
        rw [List.append_nil] at h1
        refine ⟨d, h2, ?_⟩
        rw [ha, ← h1]
        rfl
      · cases e
    · cases e

/-! A map's entries, by their places. -/

def EntR (R : RC) (a b : Ty) (x : Val a × (Val b × Nat)) (e : MapEntry) : Prop := KeyR R a x.1 e.key ∧ KeyR R b x.2.1 e.val ∧ e.born = x.2.2

theorem MapR.len {R : RC} {a b : Ty} : ∀ {l : List (Val a × (Val b × Nat))} {es : List MapEntry}, MapR R a b l es → l.length = es.length
  | [], _, h => by subst h; rfl
  | _ :: _, _, ⟨e, t, h1, _, h2⟩ => by subst h1; simp [MapR.len h2]

theorem MapR.get {R : RC} {a b : Ty} : ∀ {l : List (Val a × (Val b × Nat))} {es : List MapEntry}, MapR R a b l es → ∀ {j : Nat} {x : Val a × (Val b × Nat)} {e : MapEntry}, l[j]? = some x → es[j]? = some e → EntR R a b x e
  | [], _, _, j, _, _, hx, _ => by simp at hx
  | _ :: _, _, ⟨e, t, h1, h2, h3⟩, j, x, e', hx, he => by
    subst h1
    cases j with
    | zero =>
      simp only [List.getElem?_cons_zero, Option.some.injEq] at hx he
      subst hx he
      exact h2
    | succ j =>
      simp only [List.getElem?_cons_succ] at hx he
      exact MapR.get h3 hx he

theorem MapR.mk {R : RC} {a b : Ty} : ∀ {l : List (Val a × (Val b × Nat))} {es : List MapEntry}, l.length = es.length → (∀ (j : Nat) x e, l[j]? = some x → es[j]? = some e → EntR R a b x e) → MapR R a b l es
  | [], es, hl, _ => by
    cases es with
    | nil => rfl
    | cons => simp at hl
  | x :: r, es, hl, h => by
    cases es with
    | nil => simp at hl
    | cons e t =>
      exact ⟨e, t, rfl, h 0 x e rfl rfl, MapR.mk (by simpa using hl) fun j y f hy hf => h (j + 1) y f (by simpa using hy) (by simpa using hf)⟩

/-- the place of a key -/
def ixM (a b : Ty) : List (Val a × (Val b × Nat)) → Val a → Option Nat
  | [], _ => none
  | x :: r, k => match keyEq a k x.1 with
    | true => some 0
    | false => (ixM a b r k).map (· + 1)

theorem ixM_none {a b : Ty} {k : Val a} : ∀ {l : List (Val a × (Val b × Nat))}, ixM a b l k = none → getM a b l k = none
  | [], _ => rfl
  | x :: r, h => by
    simp only [ixM, getM] at *
    cases hq : keyEq a k x.1 with
    | true => rw [hq] at h; cases h
    | false => rw [hq] at h; simp only [Option.map_eq_none_iff] at h; exact ixM_none h

theorem ixM_some {a b : Ty} (hk : a.key = true) {k : Val a} : ∀ {l : List (Val a × (Val b × Nat))} {j : Nat}, ixM a b l k = some j → ∃ x, l[j]? = some x ∧ x.1 = k ∧ getM a b l k = some x.2
  | [], _, h => by cases h
  | x :: r, j, h => by
    simp only [ixM, getM] at *
    cases hq : keyEq a k x.1 with
    | true =>
      rw [hq] at h
      simp only [Option.some.injEq] at h
      subst h
      exact ⟨x, rfl, (keyEq_eq a hk hq).symm, rfl⟩
    | false =>
      rw [hq] at h
      simp only [Option.map_eq_some_iff] at h
      obtain ⟨j', h', rfl⟩ := h
      obtain ⟨y, h1, h2, h3⟩ := ixM_some hk h'
      exact ⟨y, by simpa using h1, h2, h3⟩

theorem putM_some {a b : Ty} {k : Val a} {y : Val b} {clk : Nat} : ∀ {l : List (Val a × (Val b × Nat))} {j : Nat}, ixM a b l k = some j → putM a b l k y clk = l.modify j fun x => (k, (y, x.2.2))
  | [], _, h => by cases h
  | x :: r, j, h => by
    simp only [ixM, putM] at *
    cases hq : keyEq a k x.1 with
    | true =>
      rw [hq] at h
      simp only [Option.some.injEq] at h
      subst h
      rfl
    | false =>
      rw [hq] at h
      simp only [Option.map_eq_some_iff] at h
      obtain ⟨j', h', rfl⟩ := h
      simp only [List.modify_succ_cons]
      rw [putM_some h']

theorem putM_none {a b : Ty} {k : Val a} {y : Val b} {clk : Nat} : ∀ {l : List (Val a × (Val b × Nat))}, ixM a b l k = none → putM a b l k y clk = l ++ [(k, (y, clk))]
  | [], _ => rfl
  | x :: r, h => by
    simp only [ixM, putM] at *
    cases hq : keyEq a k x.1 with
    | true => rw [hq] at h; cases h
    | false =>
      rw [hq] at h
      simp only [Option.map_eq_none_iff] at h
      simp only [List.cons_append]
      rw [putM_none h]

theorem delM_some {a b : Ty} {k : Val a} : ∀ {l : List (Val a × (Val b × Nat))} {j : Nat}, ixM a b l k = some j → delM a b l k = l.eraseIdx j
  | [], _, h => by cases h
  | x :: r, j, h => by
    simp only [ixM, delM] at *
    cases hq : keyEq a k x.1 with
    | true =>
      rw [hq] at h
      simp only [Option.some.injEq] at h
      subst h
      rfl
    | false =>
      rw [hq] at h
      simp only [Option.map_eq_some_iff] at h
      obtain ⟨j', h', rfl⟩ := h
      simp only [List.eraseIdx_cons_succ]
      rw [delM_some h']

theorem delM_none {a b : Ty} {k : Val a} : ∀ {l : List (Val a × (Val b × Nat))}, ixM a b l k = none → delM a b l k = l
  | [], _ => rfl
  | x :: r, h => by
    simp only [ixM, delM] at *
    cases hq : keyEq a k x.1 with
    | true => rw [hq] at h; cases h
    | false =>
      rw [hq] at h
      simp only [Option.map_eq_none_iff] at h
      rw [delM_none h]

/-- the place of what was laid in then -/
def ixB (a b : Ty) : List (Val a × (Val b × Nat)) → Nat → Option Nat
  | [], _ => none
  | x :: r, n => match Nat.beq x.2.2 n with
    | true => some 0
    | false => (ixB a b r n).map (· + 1)

theorem hasB_some {a b : Ty} {n : Nat} : ∀ {l : List (Val a × (Val b × Nat))}, hasB a b l n = true → ∃ j, ixB a b l n = some j
  | [], h => by cases h
  | x :: r, h => by
    simp only [hasB, ixB] at *
    cases hq : Nat.beq x.2.2 n with
    | true => exact ⟨0, rfl⟩
    | false =>
      rw [hq] at h
      obtain ⟨j, hj⟩ := hasB_some h
      exact ⟨j + 1, by simp [hj]⟩

theorem setB_some {a b : Ty} {y : Val b} {n : Nat} : ∀ {l : List (Val a × (Val b × Nat))} {j : Nat}, ixB a b l n = some j → setB' a b l n y = l.modify j fun x => (x.1, (y, x.2.2))
  | [], _, h => by cases h
  | x :: r, j, h => by
    simp only [ixB, setB'] at *
    cases hq : Nat.beq x.2.2 n with
    | true =>
      rw [hq] at h
      simp only [Option.some.injEq] at h
      subst h
      rfl
    | false =>
      rw [hq] at h
      simp only [Option.map_eq_some_iff] at h
      obtain ⟨j', h', rfl⟩ := h
      simp only [List.modify_succ_cons]
      rw [setB_some h']

theorem findBorn {R : RC} {a b : Ty} {n : Nat} : ∀ {l : List (Val a × (Val b × Nat))} {es : List MapEntry}, MapR R a b l es → es.findIdx? (fun e => (e.born : Int) == (n : Int)) = ixB a b l n
  | [], _, h => by subst h; rfl
  | x :: r, _, ⟨e, t, h1, ⟨_, _, h2⟩, h3⟩ => by
    subst h1
    rw [List.findIdx?_cons, findBorn h3, h2]
    simp only [ixB]
    cases hq : Nat.beq x.2.2 n with
    | true =>
      have := Nat.eq_of_beq_eq_true hq
      simp [this]
    | false =>
      have : x.2.2 ≠ n := fun e => by rw [e, Nat.beq_refl] at hq; cases hq
      have : ((x.2.2 : Int) == (n : Int)) = false := by simp; omega
      rw [this]
      rfl

theorem MapR.modify {R : RC} {a b : Ty} {l : List (Val a × (Val b × Nat))} {es : List MapEntry} (h : MapR R a b l es) (j : Nat) {f : Val a × (Val b × Nat) → Val a × (Val b × Nat)} {g : MapEntry → MapEntry}
    (hf : ∀ x e, l[j]? = some x → es[j]? = some e → EntR R a b (f x) (g e)) : MapR R a b (l.modify j f) (es.modify j g) := by
  refine MapR.mk (by simp [h.len]) fun i x e hx he => ?_
  rw [List.getElem?_modify] at hx he
  simp only [Option.map_eq_map, Option.map_eq_some_iff] at hx he
  obtain ⟨x0, hx0, rfl⟩ := hx
  obtain ⟨e0, he0, rfl⟩ := he
  by_cases hij : j = i
  · subst hij
    simp only [if_true]
    exact hf x0 e0 hx0 he0
  · simp only [hij, if_false]
    exact h.get hx0 he0

theorem MapR.push {R : RC} {a b : Ty} {l : List (Val a × (Val b × Nat))} {es : List MapEntry} (h : MapR R a b l es) {x : Val a × (Val b × Nat)} {e : MapEntry} (hx : EntR R a b x e) : MapR R a b (l ++ [x]) (es ++ [e]) := by
  have hl := h.len
  refine MapR.mk (by simp [hl]) fun i y f hy hf => ?_
  by_cases hi : i < l.length
  · rw [List.getElem?_append_left hi] at hy
    rw [List.getElem?_append_left (by omega)] at hf
    exact h.get hy hf
  · rw [List.getElem?_append_right (by omega)] at hy hf
    rw [hl] at hy
    cases hn : i - es.length with
    | zero =>
      rw [hn] at hy hf
      simp only [List.getElem?_cons_zero, Option.some.injEq] at hy hf
      subst hy hf
      exact hx
    | succ m => rw [hn] at hy; simp at hy

theorem MapR.erase {R : RC} {a b : Ty} {l : List (Val a × (Val b × Nat))} {es : List MapEntry} (h : MapR R a b l es) (j : Nat) : MapR R a b (l.eraseIdx j) (es.eraseIdx j) := by
  have hl := h.len
  refine MapR.mk (by simp [List.length_eraseIdx, hl]) fun i y f hy hf => ?_
  rw [List.getElem?_eraseIdx] at hy hf
  split at hy
  · rename_i hi; rw [if_pos hi] at hf; exact h.get hy hf
  · rename_i hi; rw [if_neg hi] at hf; exact h.get hy hf

/-! Keys are looked for. -/

theorem findNow_sound {R : RC} {a b : Ty} {d : TypeDesc} (hk : a.key = true) (hs : ∀ x y, Instr.sameNow d (keyV a x) (keyV a y) = some (keyEq a x y)) {k : Val a} : ∀ {l : List (Val a × (Val b × Nat))} {es : List MapEntry} (i : Nat), MapR R a b l es →
    Instr.findNow d (keyV a k) es i = some ((ixM a b l k).bind fun j => (es[j]?).map fun e => (i + j, e.val))
  | [], _, i, h => by subst h; rfl
  | x :: r, _, i, ⟨e, t, h1, ⟨h2, _, _⟩, h3⟩ => by
    subst h1
    simp only [Instr.findNow, ixM]
    rw [h2.key hk, hs]
    cases keyEq a k x.1 with
    | true => simp
    | false =>
      simp only
      rw [findNow_sound hk hs (i + 1) h3]
      cases ixM a b r k with
      | none => rfl
      | some j => simp [Nat.add_assoc, Nat.add_comm 1 j]

theorem findNow_none {R : RC} {a b : Ty} {d : TypeDesc} (hk : a.key = true) (hs : ∀ x y, Instr.sameNow d (keyV a x) (keyV a y) = none) {k : Val a} {l : List (Val a × (Val b × Nat))} {es : List MapEntry} (i : Nat) (h : MapR R a b l es) :
    Instr.findNow d (keyV a k) es i = if l = [] then some none else none := by
  cases l with
  | nil => have h : _ = _ := h; subst h; rfl
  | cons x r =>
    obtain ⟨e, t, h1, ⟨h2, _, _⟩, h3⟩ := h
    subst h1
    simp only [Instr.findNow]
    rw [h2.key hk, hs]
    rfl

theorem findAsking_sound {P : Program} {kt : TypeId} {R : RC} {a b : Ty} (hk : a.key = true) (hs : ∀ x y (w : World), (Op.equal kt (keyV a x) (keyV a y)).run P w = .ok (keyEq a x y) w) {k : Val a} (w : World) : ∀ {l : List (Val a × (Val b × Nat))} {es : List MapEntry} (i : Nat), MapR R a b l es →
    (Instr.findAsking kt (keyV a k) es i).run P w = .ok ((ixM a b l k).bind fun j => (es[j]?).map fun e => (i + j, e.val)) w
  | [], _, i, h => by subst h; rfl
  | x :: r, _, i, ⟨e, t, h1, ⟨h2, _, _⟩, h3⟩ => by
    subst h1
    simp only [Instr.findAsking, ixM, Sem.run_bind]
    rw [h2.key hk, hs]
    simp only [Result.andThen_ok]
    cases keyEq a k x.1 with
    | true => simp
    | false =>
      simp only [Bool.false_eq_true, if_false]
      rw [findAsking_sound hk hs w (i + 1) h3]
      cases ixM a b r k with
      | none => rfl
      | some j => simp [Nat.add_assoc, Nat.add_comm 1 j]

/-- where a key is found -/
def seekM (a b : Ty) (l : List (Val a × (Val b × Nat))) (k : Val a) (es : List MapEntry) : Option (Nat × Value) := (ixM a b l k).bind fun j => (es[j]?).map fun e => (j, e.val)

theorem seek_none {R : RC} {a b : Ty} (hk : a.key = true) {l : List (Val a × (Val b × Nat))} {es : List MapEntry} (h : MapR R a b l es) {k : Val a} (hs : seekM a b l k es = none) : ixM a b l k = none := by
  cases hx : ixM a b l k with
  | none => rfl
  | some j =>
    obtain ⟨x, hx2, _⟩ := ixM_some hk hx
    have hlt : j < es.length := by rw [← h.len]; exact (List.getElem?_eq_some_iff.1 hx2).1
    unfold seekM at hs
    rw [hx, Option.bind_some, List.getElem?_eq_getElem hlt] at hs
    cases hs

theorem seek_of {a b : Ty} {l : List (Val a × (Val b × Nat))} {es : List MapEntry} {k : Val a} (h : ixM a b l k = none) : seekM a b l k es = none := by
  unfold seekM
  rw [h]
  rfl

theorem seek_some {R : RC} {a b : Ty} (hk : a.key = true) {l : List (Val a × (Val b × Nat))} {es : List MapEntry} (h : MapR R a b l es) {k : Val a} {j : Nat} {v : Value} (hs : seekM a b l k es = some (j, v)) :
    ixM a b l k = some j ∧ ∃ x e, l[j]? = some x ∧ es[j]? = some e ∧ EntR R a b x e ∧ getM a b l k = some x.2 ∧ x.1 = k ∧ e.val = v := by
  cases hi : ixM a b l k with
  | none => rw [seek_of hi] at hs; cases hs
  | some j' =>
    obtain ⟨x, hx, hxk, hg⟩ := ixM_some hk hi
    have hlt : j' < es.length := by rw [← h.len]; exact (List.getElem?_eq_some_iff.1 hx).1
    have he : es[j']? = some es[j'] := List.getElem?_eq_getElem hlt
    unfold seekM at hs
    rw [hi, Option.bind_some, he] at hs
    simp only [Option.map_some, Option.some.injEq, Prod.mk.injEq] at hs
    obtain ⟨rfl, hs⟩ := hs
    exact ⟨rfl, x, _, hx, he, h.get hx he, hg, hxk, hs⟩

theorem findKey_sound {P : Program} {kt : TypeId} {R : RC} {a b : Ty} (hK : KeyOK P kt a) {k : Val a} (w : World) {l : List (Val a × (Val b × Nat))} {es : List MapEntry} (h : MapR R a b l es) :
    (Instr.findKey kt (keyV a k) es).run P w = .ok (seekM a b l k es) w := by
  unfold seekM
  obtain ⟨d, hd, hs⟩ := hK.und
  simp only [Instr.findKey, Sem.run_bind]
  have hu : (underlying kt).run P w = .ok d w := by simp [underlying, hd]
  rw [hu]
  simp only [Result.andThen_ok]
  rcases hs with hs | ⟨hs, ha⟩
  · rw [findNow_sound hK.key hs 0 h]
    simp
  · rw [findNow_none hK.key hs 0 h]
    by_cases hl : l = []
    · subst hl
      have h : _ = _ := h
      subst h
      simp [ixM]
    · rw [if_neg hl]
      simp only
      rw [findAsking_sound hK.key ha w 0 h]
      simp

theorem str_beq (x : ByteArray) : (x == x) = true := by rw [beq_toListBytes]; exact beq_self_eq_true _

theorem sameBits_atom : ∀ (a : Ty) (x : Val a) (n : Nat), a.key = true → (keyC a x).all (fun v => Instr.sameBits n v v) = true
  | .int _, _, _, _ => by simp [keyC, Instr.sameBits]
  | .bool, _, _, _ => by simp [keyC, Instr.sameBits]
  | .str, x, _, _ => by simp only [keyC, Instr.sameBits, List.all_cons, List.all_nil, Bool.and_true]; exact str_beq x
  | .unit, _, _, _ => rfl
  | .pair a b, x, n, h => by
    simp only [Ty.key, Bool.and_eq_true] at h
    simp only [keyC, List.all_append, sameBits_atom a x.1 n h.1, sameBits_atom b x.2 n h.2, Bool.and_self]
  | .st a, x, n, h => by
    simp only [Ty.key] at h
    exact sameBits_atom a x n h

theorem zip_self_all {α : Type} (p : α → α → Bool) : ∀ (l : List α), (l.all fun v => p v v) = true → ((l.zip l).all fun (x, y) => p x y) = true
  | [], _ => rfl
  | x :: r, h => by
    simp only [List.all_cons, Bool.and_eq_true] at h
    simp only [List.zip_cons_cons, List.all_cons, Bool.and_eq_true]
    exact ⟨h.1, zip_self_all p r h.2⟩

theorem sameBits_key {a : Ty} (x : Val a) (hk : a.key = true) (ho : (a.isAgg || a.one) = true) : Instr.sameBits 10000 (keyV a x) (keyV a x) = true := by
  unfold keyV
  cases ha : a.isAgg with
  | true =>
    simp only [Instr.sameBits, beq_self_eq_true, Bool.true_and]
    exact zip_self_all _ _ (sameBits_atom a x 9999 hk)
  | false =>
    rw [ha, Bool.false_or] at ho
    cases a <;> first | (cases ho; done) | (cases hk; done) | (simp [keyC, Instr.sameBits]; done) | (simp only [keyC, List.getD_cons_zero, Instr.sameBits]; exact str_beq x)

theorem keyThat_run {P : Program} {a : Ty} (x : Val a) (hk : a.key = true) (ho : (a.isAgg || a.one) = true) (w : World) : (Instr.keyThatStays (keyV a x) (keyV a x)).run P w = .ok (keyV a x) w := by
  unfold Instr.keyThatStays
  rw [sameBits_key x hk ho]
  rfl

end Go.Eng

/-
  The abstract machine, part 16g: maps made, written.
-/
namespace Go.Eng

section
variable {c : Ctx} {I : Nat → Prop} {L : Ref → Option Pl} {s : St} {a : Act} {w : World} {call : CallF}

theorem mapCs {a b : Ty} {l : List (Val a × (Val b × Nat))} {clk : Nat} {cs : List Cell} {x : Val (rowsTy cs)} (h : mapL cs x = some (.mp a b l clk)) : cs = [.d .nat, .d (.sl (.pair a (.pair b .nat)))] := by
  unfold mapL at h
  split at h
  · injection h with h
    injection h with h1 h2
    subst h1 h2
    rfl
  · cases h

theorem mapRow_some {a b : Ty} {l : List (Val a × (Val b × Nat))} {clk : Nat} {cs : List Cell} (h : cs = [.d .nat, .d (.sl (.pair a (.pair b .nat)))]) (l' : List (Val a × (Val b × Nat))) (clk' : Nat) : ∃ row, mapRow a b l' clk' cs = some row := by
  subst h
  exact ⟨_, by simp [mapRow]; rfl⟩

theorem slO_map {a b : Ty} {cs : List Cell} (h : cs = [.d .nat, .d (.sl (.pair a (.pair b .nat)))]) (want q : Nat) (x : Val (rowsTy cs)) : slO want cs q x = none := by
  subst h
  rfl

/-- A map's entries are written. -/
theorem Sim.mapPut (h : Sim c I L s a w) {k i : Nat} {p : Pl} {bl : Blk} {A B : Ty} {l l' : List (Val A × (Val B × Nat))} {clk clk' : Nat} (hp : L (.o k i 0) = some p) (hb : s.rd (.o k i 0) = some bl) (hct : bl.ct = .mp A B l clk)
    {es' : Array MapEntry} {w' : World} (hheap : w'.heap = w.heap.setIfInBounds p.b (.map es' clk')) (hio : IO w w') (hm : RLe (c.rc I L w) (c.rc I L w') → MapR (c.rc I L w') A B l' es'.toList) :
    Sim c I L ⟨s.env, putH s.heap (.o k i 0) { bl with ct := .mp A B l' clk' }⟩ a w' := by
  obtain ⟨⟨hpg, hkb⟩, hnI⟩ := h.get hp hb
  rw [hct] at hkb
  obtain ⟨hpv, hpo, es, hes, hR⟩ := hkb
  have hlt := (h.own _ p hp hpv).2
  obtain ⟨bb, hbb⟩ := h.dom _ p hp
  obtain ⟨tb, cs, rows, st, gs, htb, htct, hview⟩ := rdH_o hb
  obtain ⟨tb2, cs2, rows2, st2, gs2, htb2, htct2, hilt, hview2⟩ := rdv_o.1 hbb
  rw [htb] at htb2
  injection htb2 with htb2
  injection htb2 with htb2
  subst htb2
  rw [htct] at htct2
  injection htct2 with e1 e2 e3 e4
  subst e1
  have e2 := eq_of_heq e2
  subst e2 e3 e4
  simp only [viewO, Option.some.injEq] at hview
  subst hview
  have hmL : mapL cs (rows.getD i (dfl (rowsTy cs))) = some (.mp A B l clk) := by
    simp only [objCt] at hct
    split at hct
    · rename_i m hm
      rw [hm, hct]
    · cases hct
  have hcs := mapCs hmL
  obtain ⟨row, hrow⟩ := mapRow_some (l := l) (clk := clk) hcs l' clk'
  have hrowL := mapRow_mapL hrow
  have hnI' : ¬ I p.b := hnI rfl hpv
  have hkl : k < s.heap.length := (List.getElem?_eq_some_iff.1 htb).1
  have hput : putH s.heap (.o k i 0) { ct := .mp A B l' clk', gen := 0, frozen := false } = s.heap.set k (some { tb with ct := .tab cs (rows.set i row) st gs }) := by
    simp only [putH, htb, htct, hrow]
  have hoth : ∀ b, b ≠ p.b → w'.heap[b]? = w.heap[b]? := by
    intro b hne
    rw [hheap, Array.getElem?_setIfInBounds_ne (Ne.symm hne)]
  have hself : w'.heap[p.b]? = some (.map es' clk') := by rw [hheap, Array.getElem?_setIfInBounds_self_of_lt hlt]
  simp only
  rw [hput]
  have key : ∀ r', (r' = .o k i 0 ∧ rdv (s.heap.set k (some { tb with ct := .tab cs (rows.set i row) st gs })) r' = some { ct := .mp A B l' clk', gen := 0, frozen := false }) ∨ (r' ≠ .o k i 0 ∧ rdv (s.heap.set k (some { tb with ct := .tab cs (rows.set i row) st gs })) r' = rdv s.heap r') ∨
      (r' = .l k ∧ rdv (s.heap.set k (some { tb with ct := .tab cs (rows.set i row) st gs })) r' = some { tb with ct := .tab cs (rows.set i row) st gs }) := by
    intro r'
    cases r' with
    | l id =>
      by_cases hid : k = id
      · subst hid
        exact .inr (.inr ⟨rfl, rdv_set_self hkl⟩)
      · refine .inr (.inl ⟨(by intro e; cases e), ?_⟩)
        simp only [rdv, List.getElem?_set_ne hid]
    | o k' i' q' =>
      by_cases hkk : k = k'
      · subst hkk
        by_cases hii : i = i'
        · subst hii
          cases q' with
          | zero =>
            refine .inl ⟨rfl, rdv_o.2 ⟨_, cs, _, st, gs, List.getElem?_set_self hkl, rfl, by simpa using hilt, ?_⟩⟩
            rw [getD_sets hilt]
            simp only [viewV, objCt, hrowL]
          | succ q' =>
            refine .inr (.inl ⟨(by intro e; cases e), ?_⟩)
            simp only [rdv, List.getElem?_set_self hkl, htb, htct, List.length_set, hilt, if_true]
            simp only [viewV, slO_map hcs]
        · refine .inr (.inl ⟨(by intro e; injection e with _ e; exact hii e.symm), ?_⟩)
          simp only [rdv, List.getElem?_set_self hkl, htb, htct, List.length_set]
          rw [getD_setn hii]
      · refine .inr (.inl ⟨(by intro e; injection e with e; exact hkk e.symm), ?_⟩)
        simp only [rdv, List.getElem?_set_ne hkk]
  refine h.turn (LLe.refl L) (by rw [hheap]; simp) hio (fun x _ hor => ?_) (fun hr r x hx => ?_) (fun r q hq => ?_) (fun r q hq hqv => ?_) h.inj
  · refine hoth x fun hx => ?_
    rcases hor with hI | hne
    · rw [hx] at hI; exact hnI' hI
    · exact hne _ p hp hpv hx.symm
  · rcases key r with ⟨rfl, e⟩ | ⟨hne, e⟩ | ⟨rfl, e⟩
    · rw [e] at hx
      injection hx with hx
      subst hx
      exact ⟨p, hp, ⟨hpg, hpv, hpo, es', hself, hm hr⟩, fun _ _ => hnI'⟩
    · rw [e] at hx
      obtain ⟨q, hq, hqk, hqf⟩ := h.blk r x hx
      have hq2 : q.virt = false → w'.heap[q.b]? = w.heap[q.b]? := fun hqv => hoth _ fun hbb => hne (h.inj _ _ q p hq hp hqv hpv hbb)
      exact ⟨q, hq, hqk.mono hr (LLe.refl L) hq2 (fun hqv o => cell?_heap _ _ (hq2 hqv)), hqf⟩
    · rw [e] at hx
      injection hx with hx
      subst hx
      obtain ⟨q, hq, hqk, hqf⟩ := h.blk (.l k) tb (rdv_l.2 htb)
      refine ⟨q, hq, ?_, hqf⟩
      unfold BlkOK at hqk ⊢
      rw [htct] at hqk
      exact hqk
  · obtain ⟨x, hx⟩ := h.dom r q hq
    rcases key r with ⟨rfl, e⟩ | ⟨hne, e⟩ | ⟨rfl, e⟩
    · exact ⟨_, e⟩
    · exact ⟨x, by rw [e]; exact hx⟩
    · exact ⟨_, e⟩
  · have := h.own r q hq hqv
    exact ⟨by rw [hheap]; simpa using this.2, .inr ⟨r, q, hq, hqv, rfl⟩⟩

/-- A map is made. -/
theorem Sim.mapNew (h : Sim c I L s a w) {k : Nat} {tb : Blk} {cs : List Cell} {l : List (Val (rowsTy cs))} {gs : List Nat} {A B : Ty} {row : Val (rowsTy cs)} (htb : s.heap[k]? = some (some tb)) (htct : tb.ct = .tab cs l [] gs)
    (hrow : mapRow A B [] 0 cs = some row) {w' : World} (hheap : w'.heap = w.heap.push (.map #[] 0)) (hio : IO w w') :
    ∃ L', Sim c I L' ⟨s.env, s.heap.set k (some { tb with ct := .tab cs (l ++ [row]) [] gs })⟩ a w' ∧ L' (.o k l.length 0) = some ⟨w.heap.size, 0, 0, 0, 0, false⟩ := by
  have hrowL := mapRow_mapL hrow
  have hcs := mapCs hrowL
  have hkl : k < s.heap.length := (List.getElem?_eq_some_iff.1 htb).1
  obtain ⟨n, hn⟩ : ∃ n, n = l.length := ⟨_, rfl⟩
  obtain ⟨hp', hhp⟩ : ∃ hp', hp' = s.heap.set k (some { tb with ct := .tab cs (l ++ [row]) [] gs }) := ⟨_, rfl⟩
  rw [← hhp, ← hn]
  have r2 : hp'[k]? = some (some { tb with ct := .tab cs (l ++ [row]) [] gs }) := by rw [hhp, List.getElem?_set_self hkl]
  have rl : ∀ id, id ≠ k → rdv hp' (.l id) = rdv s.heap (.l id) := by
    intro id hne
    simp only [rdv, hhp, List.getElem?_set_ne (Ne.symm hne)]
  have ro : ∀ k' i' q, k' ≠ k → rdv hp' (.o k' i' q) = rdv s.heap (.o k' i' q) := by
    intro k' i' q hne
    simp only [rdv, hhp, List.getElem?_set_ne (Ne.symm hne)]
  have rk : ∀ i' q, i' ≠ n → rdv hp' (.o k i' q) = rdv s.heap (.o k i' q) := by
    intro i' q hne
    simp only [rdv, r2, htb, htct, List.length_append, List.length_singleton]
    by_cases hi : i' < l.length
    · rw [if_pos (by omega), if_pos hi]
      congr 1
      rw [List.getD_eq_getElem?_getD, List.getElem?_append_left hi, ← List.getD_eq_getElem?_getD]
    · rw [if_neg (by omega), if_neg hi]
  have rn : ∀ q, rdv hp' (.o k n q) = viewV k n cs row [] gs q := by
    intro q
    simp only [rdv, r2]
    rw [if_pos (by simp [hn])]
    congr 1
    rw [hn, List.getD_eq_getElem?_getD, List.getElem?_append_right (Nat.le_refl _), Nat.sub_self]
    rfl
  have Ln : ∀ q, L (.o k n q) = none := by
    intro q
    cases hl : L (.o k n q) with
    | none => rfl
    | some p =>
      obtain ⟨b, hb⟩ := h.dom _ p hl
      simp only [rdv, htb, htct] at hb
      rw [if_neg (by omega)] at hb
      cases hb
  have hold : ∀ b, b < w.heap.size → w'.heap[b]? = w.heap[b]? := fun b hb => heap_push_old hheap b hb
  have hnew : w'.heap[w.heap.size]? = some (.map #[] 0) := heap_push_new hheap
  have L0 : addL L (.o k n 0) ⟨w.heap.size, 0, 0, 0, 0, false⟩ (.o k n 0) = some ⟨w.heap.size, 0, 0, 0, 0, false⟩ := by simp [addL]
  have L1 : ∀ r, r ≠ .o k n 0 → addL L (.o k n 0) ⟨w.heap.size, 0, 0, 0, 0, false⟩ r = L r := fun r hr => by simp [addL, hr]
  have hl : LLe L (addL L (.o k n 0) ⟨w.heap.size, 0, 0, 0, 0, false⟩) := by
    intro r q hq
    have hr : r ≠ .o k n 0 := fun e => by rw [e, Ln] at hq; cases hq
    exact ⟨q, by rw [L1 r hr]; exact hq, rfl, .inl rfl⟩
  refine ⟨_, h.turn hl (by rw [hheap]; simp) hio (fun b hb _ => hold b hb) (fun hr r x hx => ?_) (fun r q hq => ?_) (fun r q hq hqv => ?_) (fun r r' q q' hq hq' hv hv' hbb => ?_), L0⟩
  · by_cases hrn : r = .o k n 0
    · subst hrn
      rw [rn] at hx
      simp only [viewV, objCt, hrowL, Option.some.injEq] at hx
      subst hx
      refine ⟨_, L0, ⟨rfl, rfl, rfl, #[], hnew, rfl⟩, fun _ _ hI => ?_⟩
      have := h.imm _ hI
      simp only at this
      omega
    · have old : rdv hp' r = rdv s.heap r ∨ (r = .l k ∧ rdv hp' r = some { tb with ct := .tab cs (l ++ [row]) [] gs }) := by
        cases r with
        | l id =>
          by_cases hid : id = k
          · subst hid; exact .inr ⟨rfl, rdv_l.2 r2⟩
          · exact .inl (rl id hid)
        | o k' i' q =>
          by_cases hkk : k' = k
          · subst hkk
            by_cases hii : i' = n
            · subst hii
              refine .inl ?_
              cases q with
              | zero => exact absurd rfl hrn
              | succ q =>
                rw [rn]
                simp only [viewV, slO_map hcs, rdv, htb, htct]
                rw [if_neg (by omega)]
            · exact .inl (rk i' q hii)
          · exact .inl (ro k' i' q hkk)
      rcases old with e | ⟨rfl, e⟩
      · rw [e] at hx
        obtain ⟨q, hq, hqk, hqf⟩ := h.blk r x hx
        exact ⟨q, by rw [L1 r hrn]; exact hq, hqk.mono hr hl (fun hqv => hold _ (h.own r q hq hqv).2) (fun hqv o => cell?_heap _ _ (hold _ (h.own r q hq hqv).2)), hqf⟩
      · rw [e] at hx
        injection hx with hx
        subst hx
        obtain ⟨q, hq, hqk, hqf⟩ := h.blk (.l k) tb (rdv_l.2 htb)
        refine ⟨q, by rw [L1 _ hrn]; exact hq, ?_, hqf⟩
        unfold BlkOK at hqk ⊢
        rw [htct] at hqk
        exact hqk
  · by_cases hrn : r = .o k n 0
    · subst hrn
      exact ⟨_, by rw [rn]; rfl⟩
    · rw [L1 r hrn] at hq
      obtain ⟨x, hx⟩ := h.dom r q hq
      cases r with
      | l id =>
        by_cases hid : id = k
        · subst hid; exact ⟨_, rdv_l.2 r2⟩
        · exact ⟨x, by rw [rl id hid]; exact hx⟩
      | o k' i' q' =>
        by_cases hkk : k' = k
        · subst hkk
          by_cases hii : i' = n
          · subst hii; rw [Ln] at hq; cases hq
          · exact ⟨x, by rw [rk i' q' hii]; exact hx⟩
        · exact ⟨x, by rw [ro k' i' q' hkk]; exact hx⟩
  · by_cases hrn : r = .o k n 0
    · subst hrn
      rw [L0] at hq
      injection hq with hq
      subst hq
      exact ⟨by rw [hheap]; simp, .inl (Nat.le_refl _)⟩
    · rw [L1 r hrn] at hq
      have := h.own r q hq hqv
      exact ⟨by rw [hheap]; simp; omega, .inr ⟨r, q, hq, hqv, rfl⟩⟩
  · by_cases hrn : r = .o k n 0 <;> by_cases hrn' : r' = .o k n 0
    · rw [hrn, hrn']
    · subst hrn
      rw [L0] at hq
      injection hq with hq
      subst hq
      rw [L1 r' hrn'] at hq'
      have := (h.own r' q' hq' hv').2
      simp only at hbb
      omega
    · subst hrn'
      rw [L0] at hq'
      injection hq' with hq'
      subst hq'
      rw [L1 r hrn] at hq
      have := (h.own r q hq hv).2
      simp only at hbb
      omega
    · rw [L1 r hrn] at hq
      rw [L1 r' hrn'] at hq'
      exact h.inj r r' q q' hq hq' hv hv' hbb

/-! What a map is read as. -/

theorem descOf_map {P : Program} {d : TypeDesc} {k e : TypeId} (h : descOf P d = .map k e) : d = .map k e := by
  cases d <;> simp [descOf] at h ⊢
  exact h

theorem mapT_inv (hE : EnvOK c.P c.E) {t : TypeId} {A B : Ty} (e : mapT c.E t = some (A, B)) : ∃ kt et, c.P.underlying t = some (.map kt et) ∧ KeyOK c.P kt A ∧ (B.isAgg || B.one) = true ∧ ∃ ei d i z, ei.ty = some B ∧ B.isAgg = ei.desc.isAgg ∧ TyOK c.P c.E.toNames et ei d i z := by
  unfold mapT at e
  split at e
  · rename_i ti hty
    obtain ⟨d, i, z, hT⟩ := hE.ty t ti hty
    split at e
    · rename_i kt et hd
      have hd' := hT.desc
      rw [hd] at hd'
      have := descOf_map hd'
      subst this
      split at e
      · rename_i a ei hka hei
        split at e
        · rename_i b hb
          split at e
          · rename_i ho
            simp only [Option.some.injEq, Prod.mk.injEq] at e
            obtain ⟨rfl, rfl⟩ := e
            simp only [Bool.and_eq_true] at ho
            obtain ⟨d2, i2, z2, hT2⟩ := hE.ty et ei hei
            exact ⟨kt, et, hT.u, hE.key kt _ hka, ho.1, ei, d2, i2, z2, hb, eq_of_beq ho.2, hT2⟩
          · cases e
        · cases e
      · cases e
    · cases e
  · cases e

theorem rdM_inv {α : Type} {t : TypeId} {x : AV} {f : Ref → Blk → (a b : Ty) → List (Val a × (Val b × Nat)) → Nat → HM α} {y : α} {rs : List Nat} (e : (rdM c.E t x f).run call s.rd = some (y, rs)) :
    ∃ A B kd i bl l clk rs', mapT c.E t = some (A, B) ∧ x = .mh kd (some i) ∧ s.rd (.o kd i 0) = some bl ∧ bl.ct = .mp A B l clk ∧ (f (.o kd i 0) bl A B l clk).run call s.rd = some (y, rs') := by
  unfold rdM at e
  split at e
  · rename_i A B kd h hm
    obtain ⟨hs, e⟩ := HM.run_chk e
    obtain ⟨i, rfl⟩ := Option.isSome_iff_exists.1 hs
    obtain ⟨bl, rs', hb, e2, rfl⟩ := HM.run_rd e
    clear e
    simp only [Option.getD_some] at e2 hb
    split at e2
    · rename_i a' b' l clk hct
      split at e2
      · rename_i hab
        obtain ⟨rfl, rfl⟩ := hab
        exact ⟨_, _, kd, i, bl, l, clk, rs', hm, rfl, hb, hct, e2⟩
      · cases e2
    · cases e2
  · cases e

theorem Sim.mapAt (h : Sim c I L s a w) {kd i : Nat} {v : Value} (hx : Rep (c.rc I L w) L (.mh kd (some i)) v) {bl : Blk} {A B : Ty} {l : List (Val A × (Val B × Nat))} {clk : Nat} (hb : s.rd (.o kd i 0) = some bl) (hct : bl.ct = .mp A B l clk) :
    ∃ p es, v = .map (some p.b) ∧ L (.o kd i 0) = some p ∧ w.heap[p.b]? = some (.map es clk) ∧ MapR (c.rc I L w) A B l es.toList ∧ p.b < w.heap.size := by
  simp only [Rep, RepT] at hx
  obtain ⟨b, hH, e⟩ := hx
  simp only [List.cons.injEq, and_true] at e
  subst e
  obtain ⟨p, hp, rfl, ho, hv, hg⟩ := h.objL hH
  obtain ⟨⟨_, hk⟩, _⟩ := h.get hp hb
  rw [hct] at hk
  obtain ⟨_, _, es, h1, h2⟩ := hk
  exact ⟨p, es, rfl, hp, h1, h2, (h.own _ p hp hv).2⟩

theorem run_getMap {P : Program} {w : World} {r : Nat} {es : Array MapEntry} {clk : Nat} (hb : w.heap[r]? = some (.map es clk)) : (getObj r).run P w = .ok (.map es clk) w := by
  simp [getObj, Sem.run, hb]
theorem run_setMap {P : Program} {w : World} {r : Nat} {es : Array MapEntry} {clk : Nat} (o : Obj) (hb : w.heap[r]? = some (.map es clk)) : (setObj r o).run P w = .ok () { w with heap := w.heap.setIfInBounds r o } := by
  have hlt : r < w.heap.size := (Array.getElem?_eq_some_iff.1 hb).1
  simp [setObj, Sem.run, hb]

end
end Go.Eng

/-
  The abstract machine, part 16h: each operation on maps.
-/
namespace Go.Eng

section
variable {c : Ctx} {I : Nat → Prop} {L : Ref → Option Pl} {s : St} {a : Act} {w : World} {call : CallF}

theorem oneCell'_cells {z : Value} (h : z.oneCell' = true) : z.cells = #[z] := by
  cases z <;> first | rfl | cases h

/-- what a map's type says, in the model's words -/
structure MapTy (P : Program) (N : Names) (t : TypeId) (A B : Ty) (kt et : TypeId) (z : Value) : Prop where
  u : P.underlying t = some (.map kt et)
  key : KeyOK P kt A
  one : (B.isAgg || B.one) = true
  zero : P.info? et ≠ none
  run : ∀ w : World, (zeroValue et).run P w = .ok z w
  rep : ∀ R : RC, R.T.N = N → KeyR R B (dfl B) z

theorem mapT_ok (hE : EnvOK c.P c.E) {t : TypeId} {A B : Ty} (e : mapT c.E t = some (A, B)) : ∃ kt et z, MapTy c.P c.E.toNames t A B kt et z := by
  obtain ⟨kt, et, h1, h2, h3, ei, d, i, z, h4, h5, hT⟩ := mapT_inv hE e
  refine ⟨kt, et, z, h1, h2, h3, by rw [hT.info]; simp, fun w => hT.run_zero w, fun R hR => ?_⟩
  have hz := hT.zeroT h4 hR
  refine ⟨_, hz, ?_⟩
  rw [h5]
  cases ha : ei.desc.isAgg with
  | true =>
    obtain ⟨cs, rfl⟩ := hT.agg ha
    simp [Value.cells]
  | false =>
    have := hT.one ha
    have h1 : z.cells = #[z] := oneCell'_cells this
    rw [h1]
    rfl

theorem und_run {P : Program} {t : TypeId} {d : TypeDesc} (h : P.underlying t = some d) (w : World) : (underlying t).run P w = .ok d w := by simp [underlying, h]

/-- what is found for a key -/
theorem atM_rep {R : RC} {A B : Ty} (hk : A.key = true) {l : List (Val A × (Val B × Nat))} {es : List MapEntry} (h : MapR R A B l es) {z : Value} (hz : KeyR R B (dfl B) z) (k : Val A) :
    KeyR R B (atM A B l k) (((seekM A B l k es).map (·.2)).getD z) ∧ hasM A B l k = (seekM A B l k es).isSome := by
  cases hi : seekM A B l k es with
  | none =>
    have := ixM_none (seek_none hk h hi)
    simp [atM, hasM, this, hz]
  | some r =>
    obtain ⟨j, v⟩ := r
    obtain ⟨_, x, e, _, _, ⟨_, h2, _⟩, hg, _, rfl⟩ := seek_some hk h hi
    simp [atM, hasM, hg, h2]

theorem op_lookup (h : Sim c I L s a w) (hE : EnvOK c.P c.E) {t : TypeId} {m k : Operand} {ok : Bool} {o : Oper} (ho : o.op = .lookup t m k ok) {x : AV} {rs : List Nat}
    (e : (lookupA c.E t (aeval s.env m) (aeval s.env k) ok).run call s.rd = some (x, rs)) : OpOK c s a w o (val x) := by
  obtain ⟨A, B, kd, i, bl, l, clk, rs', hm, hx, hb, hct, e⟩ := rdM_inv e
  obtain ⟨kt, et, z, hT⟩ := mapT_ok hE hm
  have hmv := h.eval m
  rw [hx] at hmv
  obtain ⟨p, es, hv, hp, hh, hR, _⟩ := h.mapAt hmv hb hct
  split at e
  rotate_left
  · cases e
  rename_i kv hkv
  have hkey := (KeyR.of_decV hkv (h.eval k)).key hT.key.key
  obtain ⟨g1, g2⟩ := atM_rep hT.key.key hR (hT.rep _ rfl) kv
  have hrun : ∀ ok, (Instr.lookup t (a.eval m) (a.eval k) ok).run c.P w = .ok (if ok then .tuple #[((seekM A B l kv es.toList).map (·.2)).getD z, .bool (hasM A B l kv)] else ((seekM A B l kv es.toList).map (·.2)).getD z) w := by
    intro ok
    rw [hv, hkey]
    simp only [Instr.lookup, Sem.run_bind, und_run hT.u, Result.andThen_ok, run_getMap hh, Sem.run_pure, hT.key.chk, findKey_sound hT.key w hR]
    rw [g2]
    cases hi : (seekM A B l kv es.toList) with
    | none =>
      simp only [Sem.run_bind, hT.run, Result.andThen_ok, Sem.run_pure]
      rfl
    | some r =>
      simp only [Sem.run_pure, Result.andThen_ok]
      rfl
  cases ok with
  | true =>
    obtain ⟨rfl, _⟩ := HM.run_ret e
    refine OpOK.value h (v := _) (by simp only [execOp, ho]; rw [Sem.run_bind, hrun true]; rfl) ?_
    simp only [if_true, Rep, RepL]
    exact ⟨_, rfl, _, _, rfl, Rep.of_KeyR hT.one g1, _, _, rfl, rfl, rfl⟩
  | false =>
    obtain ⟨rfl, _⟩ := HM.run_ret e
    refine OpOK.value h (v := _) (by simp only [execOp, ho]; rw [Sem.run_bind, hrun false]; rfl) ?_
    simp only [Bool.false_eq_true, if_false]
    exact Rep.of_KeyR hT.one g1

/-- the world behind a write into a map -/
def putMap (w : World) (b : Nat) (es : Array MapEntry) (clk : Nat) : World := { w with heap := w.heap.setIfInBounds b (.map es clk) }

/-- the entries behind a write -/
def esPut (A B : Ty) (l : List (Val A × (Val B × Nat))) (k : Val A) (v : Value) (clk : Nat) (es : Array MapEntry) : Array MapEntry := match seekM A B l k es.toList with
  | some (i, _) => es.modify i fun (e : MapEntry) => { e with key := keyV A k, val := v }
  | none => es.push { key := keyV A k, val := v, born := clk }

theorem putM_rep {R : RC} {A B : Ty} (hk : A.key = true) {l : List (Val A × (Val B × Nat))} {es : Array MapEntry} (h : MapR R A B l es.toList) {k : Val A} {y : Val B} {clk : Nat} {val : Value} (hv : KeyR R B y val) :
    MapR R A B (putM A B l k y clk) (esPut A B l k val clk es).toList := by
  unfold esPut
  cases hi : seekM A B l k es.toList with
  | none =>
    rw [putM_none (seek_none hk h hi)]
    simp only [Array.toList_push]
    exact h.push ⟨KeyR.of_key R k hk, hv, rfl⟩
  | some r =>
    obtain ⟨j, v⟩ := r
    obtain ⟨h1, _⟩ := seek_some hk h hi
    rw [putM_some h1]
    simp only [Array.toList_modify]
    refine h.modify j fun x' e' hx' he' => ?_
    obtain ⟨_, _, h3⟩ := h.get hx' he'
    exact ⟨KeyR.of_key R k hk, hv, h3⟩

theorem keyStay {R : RC} {A B : Ty} (hk : A.key = true) {l : List (Val A × (Val B × Nat))} {es : Array MapEntry} (h : MapR R A B l es.toList) {k : Val A} {j : Nat} {v : Value} (hj : seekM A B l k es.toList = some (j, v)) :
    ((es[j]?).map (·.key)).getD (keyV A k) = keyV A k ∧ ixM A B l k = some j ∧ ∃ x e, l[j]? = some x ∧ es[j]? = some e ∧ EntR R A B x e ∧ getM A B l k = some x.2 ∧ e.val = v := by
  obtain ⟨h1, x, e, h2, h3, h4, h5, h6, h7⟩ := seek_some hk h hj
  have h3' : es[j]? = some e := by rw [← Array.getElem?_toList]; exact h3
  refine ⟨?_, h1, x, e, h2, h3', h4, h5, h7⟩
  rw [h3']
  simp only [Option.map_some, Option.getD_some]
  rw [h4.1.key hk, h6]

/-- A map is written: what the machine does, what the state is then. -/
theorem run_mapUpdate {P : Program} {N : Names} {t : TypeId} {A B : Ty} {kt et : TypeId} {z : Value} (hT : MapTy P N t A B kt et z) {R : RC} {w : World} {b : Nat} {es : Array MapEntry} {clk : Nat} (hh : w.heap[b]? = some (.map es clk)) {l : List (Val A × (Val B × Nat))} (hR : MapR R A B l es.toList) (k : Val A) (v : Value) :
    (Instr.mapUpdate t (.map (some b)) (keyV A k) v).run P w = .ok () (putMap w b (esPut A B l k v clk es) (clkM A B l k clk)) := by
  unfold esPut
  simp only [Instr.mapUpdate, Sem.run_bind, und_run hT.u, Result.andThen_ok, run_getMap hh, hT.key.chk, findKey_sound hT.key w hR]
  cases hi : (seekM A B l k es.toList) with
  | none =>
    have hn : getM A B l k = none := ixM_none (seek_none hT.key.key hR hi)
    simp only [run_setMap _ hh, clkM, hn]
    rfl
  | some r =>
    obtain ⟨j, v'⟩ := r
    obtain ⟨h1, h2, x, e, _, _, _, hg, _⟩ := keyStay hT.key.key hR hi
    simp only [Sem.run_bind]
    rw [h1, keyThat_run k hT.key.key hT.key.one]
    simp only [Result.andThen_ok, run_setMap _ hh, clkM, hg]
    rfl

theorem IO_putMap (w : World) (b : Nat) (es : Array MapEntry) (clk : Nat) : IO w (putMap w b es clk) := ⟨rfl, rfl, rfl⟩

/-- what is laid into a map goes out as data -/
theorem Sim.told (h : Sim c I L s a w) {x : AV} {v : Value} (hx : Rep (c.rc I L w) L x v) {y : AV} {ids : List Ref} {r1 r2 : List Nat} {fz : List (Ref × Blk)} (e1 : (exportN 8 x).run call s.rd = some ((y, ids), r1)) (e2 : (Go.Eng.freezeAll ids).run call s.rd = some (fz, r2)) {t : Ty} {z : Val t}
    (hd : decV c.E.toNames t y = some z) : Sim c (heldBy I L ids) L ⟨s.env, putAll s.heap fz⟩ a w ∧ KeyR (c.rc (heldBy I L ids) L w) t z v ∧ ∀ {k i : Nat} {b : Blk}, s.rd (.o k i 0) = some b → b.isTab = false → (⟨s.env, putAll s.heap fz⟩ : St).rd (.o k i 0) = some b := by
  obtain ⟨g1, g2⟩ := exportN_sound h 8 e1 hx
  have ht : Told L s ids := fun r hr => (g1 r hr).2
  obtain ⟨f1, f2, f3, _⟩ := ht.freeze e2
  have hrep := g2 (heldBy I L ids) (fun b hb => .inl hb) (fun id hid p hp hv => .inr ⟨id, p, hid, hp, hv, rfl⟩)
  refine ⟨h.freezeAll e2 ht, KeyR.of_decV hd hrep, fun {k i b} hb _ => ?_⟩
  have hn : Ref.o k i 0 ∉ ids := fun hm => by
    obtain ⟨_, _, e0, _⟩ := f3 _ hm
    cases e0
  show rdH (putAll s.heap fz) _ = _
  rw [(f2 _ hn).2]
  exact hb

theorem op_mapPut (h : Sim c I L s a w) (hE : EnvOK c.P c.E) {t : TypeId} {m k y : Operand} {o : Oper} (ho : o.op = .mapUpdate t m k y ∨ o.op = .insert t m k y) {δ : Dl} {rs : List Nat}
    (e : (mapPutA c.E t (aeval s.env m) (aeval s.env k) (aeval s.env y)).run call s.rd = some (δ, rs)) : OpOK c s a w o δ := by
  obtain ⟨A, B, kd, i, bl, l, clk, rs', hm, hx, hb, hct, e⟩ := rdM_inv e
  obtain ⟨kt, et, z, hT⟩ := mapT_ok hE hm
  split at e
  rotate_left
  · cases e
  rename_i kv hkv
  have hkey := (KeyR.of_decV hkv (h.eval k)).key hT.key.key
  obtain ⟨⟨y', ids⟩, r1, r2, e1, e2, rfl⟩ := HM.run_bind e
  obtain ⟨fz, r3, r4, e3, e4, rfl⟩ := HM.run_bind e2
  split at e4
  rotate_left
  · cases e4
  rename_i yv hyv
  obtain ⟨rfl, rfl⟩ := HM.run_ret e4
  obtain ⟨hF, hyr, hrd⟩ := h.told (h.eval y) e1 e3 hyv
  have hb' := hrd hb (by simp [Blk.isTab, hct])
  have hmv := hF.eval m
  have hmv : Rep (c.rc (heldBy I L ids) L w) L (.mh kd (some i)) (a.eval m) := by
    have : aeval (⟨s.env, putAll s.heap fz⟩ : St).env m = .mh kd (some i) := hx
    rw [← this]; exact hmv
  obtain ⟨p, es, hv, hp, hh, hR, _⟩ := hF.mapAt hmv hb' hct
  have hrun := run_mapUpdate hT hh hR kv (a.eval y)
  rw [← hv, ← hkey] at hrun
  refine OpOK.skip (w' := putMap w p.b (esPut A B l kv (a.eval y) clk es) (clkM A B l kv clk)) ?_ (I' := heldBy I L ids) (L' := L) ?_
  · rcases ho with ho | ho
    · simp only [execOp, ho]
      rw [Sem.run_bind, hrun]
      rfl
    · simp only [execOp, ho]
      rw [Sem.run_bind, hrun]
      rfl
  · rw [putAll_append]
    simp only [putAll]
    refine hF.mapPut hp hb' hct rfl (IO_putMap _ _ _ _) fun hr => ?_
    exact putM_rep hT.key.key (hR.mono hr) (hyr.mono hr)

theorem op_mapEntry (h : Sim c I L s a w) (hE : EnvOK c.P c.E) {t : TypeId} {m k : Operand} {o : Oper} (ho : o.op = .mapEntry t m k) {δ : Dl} {rs : List Nat}
    (e : (mapEntryA c.E t (aeval s.env m) (aeval s.env k)).run call s.rd = some (δ, rs)) : OpOK c s a w o δ := by
  obtain ⟨A, B, kd, i, bl, l, clk, rs', hm, hx, hb, hct, e⟩ := rdM_inv e
  obtain ⟨kt, et, z, hT⟩ := mapT_ok hE hm
  have hmv := h.eval m
  rw [hx] at hmv
  obtain ⟨p, es, hv, hp, hh, hR, _⟩ := h.mapAt hmv hb hct
  split at e
  rotate_left
  · cases e
  rename_i kv hkv
  obtain ⟨rfl, rfl⟩ := HM.run_ret e
  have hkey := (KeyR.of_decV hkv (h.eval k)).key hT.key.key
  obtain ⟨g1, g2⟩ := atM_rep hT.key.key hR (hT.rep _ rfl) kv
  -- the machine's road
  obtain ⟨v, es', n, hrun, hvr, hn, hes⟩ : ∃ (v : Value) (es' : Array MapEntry) (n : Nat), (Instr.mapEntry t (a.eval m) (a.eval k)).run c.P w = .ok (.tuple #[v, goInt n]) (putMap w p.b es' (clkM A B l kv clk)) ∧
      KeyR (c.rc I L w) B (atM A B l kv) v ∧ n = bornM A B l kv clk ∧ (∀ R, RLe (c.rc I L w) R → MapR R A B (putM A B l kv (atM A B l kv) clk) es'.toList) := by
    rw [hv, hkey]
    cases hi : (seekM A B l kv es.toList) with
    | none =>
      have hn : getM A B l kv = none := ixM_none (seek_none hT.key.key hR hi)
      rw [hi] at g1
      simp only [Option.map_none, Option.getD_none] at g1
      refine ⟨z, es.push { key := keyV A kv, val := z, born := clk }, clk, ?_, g1, by simp [bornM, hn], fun R hr => ?_⟩
      · simp only [Instr.mapEntry, Sem.run_bind, und_run hT.u, Result.andThen_ok, run_getMap hh, hT.key.chk, findKey_sound hT.key w hR, hi, hT.run, run_setMap _ hh, Sem.run_pure, clkM, hn]
        rfl
      · have := putM_rep (k := kv) (clk := clk) hT.key.key (hR.mono hr) (g1.mono hr)
        simpa [esPut, hi] using this
    | some r =>
      obtain ⟨j, v'⟩ := r
      obtain ⟨h1, h2, x, e, hx2, he2, hEn, hg, hev⟩ := keyStay hT.key.key hR hi
      rw [hi] at g1
      simp only [Option.map_some, Option.getD_some] at g1
      refine ⟨v', es.modify j fun (e : MapEntry) => { e with key := keyV A kv }, e.born, ?_, g1, by simp [bornM, hg, hEn.2.2], fun R hr => ?_⟩
      · simp only [Instr.mapEntry, Sem.run_bind, und_run hT.u, Result.andThen_ok, run_getMap hh, hT.key.chk, findKey_sound hT.key w hR, hi]
        rw [h1, keyThat_run kv hT.key.key hT.key.one]
        simp only [Result.andThen_ok, run_setMap _ hh, Sem.run_pure, clkM, hg, he2, Option.map_some, Option.getD_some]
        rfl
      · rw [putM_some h2, Array.toList_modify]
        refine (hR.mono hr).modify j fun x' e' hx' he' => ?_
        rw [hx2] at hx'
        injection hx' with hx'
        subst hx'
        obtain ⟨_, q2, q3⟩ := (hR.mono hr).get hx2 he'
        refine ⟨KeyR.of_key R kv hT.key.key, ?_, q3⟩
        simp only [atM, hg]
        exact q2
  intro K Q hK
  unfold Oper.wp
  rw [show (execOp a.eval o).run c.P w = .ok (.value (.tuple #[v, goInt n])) (putMap w p.b es' (clkM A B l kv clk)) from by simp only [execOp, ho]; rw [Sem.run_bind, hrun]; rfl, Oper.upon_value]
  have hS := h.mapPut (l' := putM A B l kv (atM A B l kv) clk) (clk' := clkM A B l kv clk) (w' := putMap w p.b es' (clkM A B l kv clk)) hp hb hct rfl (IO_putMap _ _ _ _) (fun hr => hes _ hr)
  have hnI : ¬ I p.b := by
    obtain ⟨⟨_, hk1⟩, hk2⟩ := h.get hp hb
    rw [hct] at hk1
    refine hk2 ?_ hk1.1
    obtain ⟨_, _, _, _, _, _, _, hvw⟩ := rdH_o hb
    simp only [viewO, Option.some.injEq] at hvw
    rw [← hvw]
  have hr : RLe (c.rc I L w) (c.rc I L (putMap w p.b es' (clkM A B l kv clk))) := rle_of_heap (fun _ hb => hb) (fun b hb => by
    have : p.b ≠ b := fun e => hnI (by rw [e]; exact hb)
    simp [putMap, Array.getElem?_setIfInBounds_ne this]) (LLe.refl L)
  refine hK I L _ _ (hS.put o.dst ?_)
  simp only [Rep, RepL]
  exact ⟨_, rfl, _, _, rfl, Rep.of_KeyR hT.one (hvr.mono hr), _, _, rfl, by rw [hn]; rfl, rfl⟩

theorem op_entryStore (h : Sim c I L s a w) (hE : EnvOK c.P c.E) {t : TypeId} {m k y : Operand} {o : Oper} (ho : o.op = .entryStore t m k y) {δ : Dl} {rs : List Nat}
    (e : (entryStoreA c.E t (aeval s.env m) (aeval s.env k) (aeval s.env y)).run call s.rd = some (δ, rs)) : OpOK c s a w o δ := by
  obtain ⟨A, B, kd, i, bl, l, clk, rs', hm, hx, hb, hct, e⟩ := rdM_inv e
  obtain ⟨kt, et, z, hT⟩ := mapT_ok hE hm
  split at e
  rotate_left
  · cases e
  rename_i kk n hk
  obtain ⟨hc, e⟩ := HM.run_chk e
  simp only [Bool.and_eq_true, decide_eq_true_eq] at hc
  obtain ⟨hn0, hhas⟩ := hc
  obtain ⟨j, hj⟩ := hasB_some hhas
  obtain ⟨⟨y', ids⟩, r1, r2, e1, e2, rfl⟩ := HM.run_bind e
  obtain ⟨fz, r3, r4, e3, e4, rfl⟩ := HM.run_bind e2
  split at e4
  rotate_left
  · cases e4
  rename_i yv hyv
  obtain ⟨rfl, rfl⟩ := HM.run_ret e4
  obtain ⟨hF, hyr, hrd⟩ := h.told (h.eval y) e1 e3 hyv
  have hb' := hrd hb (by simp [Blk.isTab, hct])
  have hmv := hF.eval m
  have hmv : Rep (c.rc (heldBy I L ids) L w) L (.mh kd (some i)) (a.eval m) := by
    have : aeval (⟨s.env, putAll s.heap fz⟩ : St).env m = .mh kd (some i) := hx
    rw [← this]; exact hmv
  obtain ⟨p, es, hv, hp, hh, hR, _⟩ := hF.mapAt hmv hb' hct
  have hkv := h.eval k
  rw [hk] at hkv
  simp only [Rep] at hkv
  have hfb := findBorn (n := n.toNat) hR
  rw [hj, Int.toNat_of_nonneg hn0] at hfb
  have hfb' : es.findIdx? (fun e => (e.born : Int) == n) = some j := by cases es with | mk es => simpa using hfb
  have hrun : (Instr.entryStore t (a.eval m) (a.eval k) (a.eval y)).run c.P w = .ok () (putMap w p.b (es.modify j fun (e : MapEntry) => { e with val := a.eval y }) clk) := by
    rw [hv, hkv]
    simp only [Instr.entryStore, Sem.run_bind, run_getMap hh, Result.andThen_ok, asInt, asIntOf, Sem.run_pure, hfb', run_setMap _ hh]
    rfl
  refine OpOK.skip (w' := putMap w p.b (es.modify j fun (e : MapEntry) => { e with val := a.eval y }) clk) ?_ (I' := heldBy I L ids) (L' := L) ?_
  · simp only [execOp, ho]
    rw [Sem.run_bind, hrun]
    rfl
  · rw [putAll_append]
    simp only [putAll]
    refine hF.mapPut hp hb' hct rfl (IO_putMap _ _ _ _) fun hr => ?_
    rw [setB_some hj, Array.toList_modify]
    refine (hR.mono hr).modify j fun x' e' hx' he' => ?_
    obtain ⟨q1, _, q3⟩ := (hR.mono hr).get hx' he'
    exact ⟨q1, hyr.mono hr, q3⟩

theorem op_delete (h : Sim c I L s a w) (hE : EnvOK c.P c.E) {cl : Call} {o : Oper} (ho : o.op = .call cl) (hb : cl.callee = .builtin .delete) {newId : Nat} {δ : Dl} {rs : List Nat}
    (e : (aop c.E (aeval s.env) newId o.op).run call s.rd = some (δ, rs)) : OpOK c s a w o δ := by
  rw [ho] at e
  simp only [aop, hb] at e
  have hargs := h.evalL cl.args.toList
  generalize hts : cl.argTypes.toList = ts at e
  generalize has : cl.args.toList.map (aeval s.env) = as at e hargs
  unfold builtinA at e
  split at e <;> try (rename_i hbb; cases hbb; done)
  · rename_i t ts' m k _
    simp only [RepL] at hargs
    obtain ⟨vm, tl, hvs, hvm, vk, tl2, rfl, hvk, rfl⟩ := hargs
    obtain ⟨A, B, kd, i, bl, l, clk, rs', hm, rfl, hbl, hct, e⟩ := rdM_inv e
    obtain ⟨kt, et, z, hT⟩ := mapT_ok hE hm
    obtain ⟨p, es, rfl, hp, hh, hR, _⟩ := h.mapAt hvm hbl hct
    split at e
    rotate_left
    · cases e
    rename_i kv hkv
    obtain ⟨rfl, rfl⟩ := HM.run_ret e
    have hkey := (KeyR.of_decV hkv hvk).key hT.key.key
    subst hkey
    have has' : cl.args.map a.eval = #[.map (some p.b), keyV A kv] := by
      apply Array.ext'
      rw [Array.toList_map, hvs]
    have hts0 : cl.argTypes[0]? = some t := by rw [← Array.getElem?_toList, hts]; rfl
    have hrun : ∃ es', (Builtin.delete_ cl.argTypes o.type (cl.args.map a.eval)).run c.P w = .ok (.tuple #[]) (putMap w p.b es' clk) ∧ ∀ R, RLe (c.rc I L w) R → MapR R A B (delM A B l kv) es'.toList := by
      rw [has']
      cases hi : (seekM A B l kv es.toList) with
      | none =>
        have hn : ixM A B l kv = none := seek_none hT.key.key hR hi
        refine ⟨es, ?_, fun R hr => by rw [delM_none hn]; exact hR.mono hr⟩
        simp [Builtin.delete_, hts0, und_run hT.u, run_getMap hh, hT.key.chk, findKey_sound hT.key w hR, hi, run_setMap _ hh, putMap]
      | some r =>
        obtain ⟨j, v'⟩ := r
        obtain ⟨h1, h2, x, e, hx2, he2, hEn, hg, hev⟩ := keyStay hT.key.key hR hi
        refine ⟨es.eraseIdxIfInBounds j, ?_, fun R hr => ?_⟩
        · simp [Builtin.delete_, hts0, und_run hT.u, run_getMap hh, hT.key.chk, findKey_sound hT.key w hR, hi, run_setMap _ hh, putMap]
        · rw [delM_some h2, Array.toList_eraseIdxIfInBounds]
          exact (hR.mono hr).erase j
    obtain ⟨es', hrun, hes⟩ := hrun
    have hrun2 : (builtin .delete cl.argTypes o.type (cl.args.map fun | .const _ => true | _ => false) (cl.args.map a.eval)).run c.P w = .ok (.value (.tuple #[])) (putMap w p.b es' clk) := by
      simp only [builtin, Sem.run_bind, hrun]
      rfl
    refine OpOK.both (v := .tuple #[]) (w' := putMap w p.b es' clk) ?_ (I' := I) (L' := L) ?_ (by simp [Rep])
    · simp only [execOp, ho, resolve, hb, invoke]
      exact hrun2
    · simp only [putAll]
      exact h.mapPut hp hbl hct rfl (IO_putMap _ _ _ _) fun hr => hes _ hr
  · cases e

theorem op_clearM (h : Sim c I L s a w) (hE : EnvOK c.P c.E) {cl : Call} {o : Oper} (ho : o.op = .call cl) (hb : cl.callee = .builtin .clear) {t : TypeId} (ht : cl.argTypes.toList.head? = some t) (hmt : isMapT c.E t = true) {newId : Nat} {δ : Dl} {rs : List Nat}
    (e : (aop c.E (aeval s.env) newId o.op).run call s.rd = some (δ, rs)) : OpOK c s a w o δ := by
  rw [ho] at e
  simp only [aop, hb] at e
  have hargs := h.evalL cl.args.toList
  generalize hts : cl.argTypes.toList = ts at e ht
  generalize has : cl.args.toList.map (aeval s.env) = as at e hargs
  unfold builtinA at e
  split at e <;> try (rename_i hbb; cases hbb; done)
  · rename_i t' m _
    simp only [List.head?_cons, Option.some.injEq] at ht
    subst ht
    rw [hmt] at e
    simp only at e
    simp only [RepL] at hargs
    obtain ⟨vm, tl, hvs, hvm, rfl⟩ := hargs
    obtain ⟨A, B, kd, i, bl, l, clk, rs', hm, rfl, hbl, hct, e⟩ := rdM_inv e
    obtain ⟨kt, et, z, hT⟩ := mapT_ok hE hm
    obtain ⟨p, es, rfl, hp, hh, hR, _⟩ := h.mapAt hvm hbl hct
    obtain ⟨rfl, rfl⟩ := HM.run_ret e
    have has' : cl.args.map a.eval = #[.map (some p.b)] := by
      apply Array.ext'
      rw [Array.toList_map, hvs]
    have hts0 : cl.argTypes[0]? = some t' := by rw [← Array.getElem?_toList, hts]; rfl
    have hrun : (Builtin.clear_ cl.argTypes o.type (cl.args.map a.eval)).run c.P w = .ok (.tuple #[]) (putMap w p.b #[] clk) := by
      rw [has']
      simp [Builtin.clear_, hts0, und_run hT.u, run_getMap hh, run_setMap _ hh, putMap]
    have hrun2 : (builtin .clear cl.argTypes o.type (cl.args.map fun | .const _ => true | _ => false) (cl.args.map a.eval)).run c.P w = .ok (.value (.tuple #[])) (putMap w p.b #[] clk) := by
      simp only [builtin, Sem.run_bind, hrun]
      rfl
    refine OpOK.both (v := .tuple #[]) (w' := putMap w p.b #[] clk) ?_ (I' := I) (L' := L) ?_ (by simp [Rep])
    · simp only [execOp, ho, resolve, hb, invoke]
      exact hrun2
    · simp only [putAll]
      exact h.mapPut hp hbl hct rfl (IO_putMap _ _ _ _) fun hr => rfl
  · cases e

theorem op_lenM (h : Sim c I L s a w) (hE : EnvOK c.P c.E) {cl : Call} {o : Oper} (ho : o.op = .call cl) (hb : cl.callee = .builtin .len) {t : TypeId} (ht : cl.argTypes.toList.head? = some t) (hmt : isMapT c.E t = true) {newId : Nat} {δ : Dl} {rs : List Nat}
    (e : (aop c.E (aeval s.env) newId o.op).run call s.rd = some (δ, rs)) : OpOK c s a w o δ := by
  rw [ho] at e
  simp only [aop, hb] at e
  have hargs := h.evalL cl.args.toList
  generalize hts : cl.argTypes.toList = ts at e ht
  generalize has : cl.args.toList.map (aeval s.env) = as at e hargs
  unfold builtinA at e
  split at e <;> try (rename_i hbb; cases hbb; done)
  · rename_i t' ts' m _
    simp only [List.head?_cons, Option.some.injEq] at ht
    subst ht
    rw [hmt] at e
    simp only at e
    simp only [RepL] at hargs
    obtain ⟨vm, tl, hvs, hvm, rfl⟩ := hargs
    obtain ⟨A, B, kd, i, bl, l, clk, rs', hm, rfl, hbl, hct, e⟩ := rdM_inv e
    obtain ⟨kt, et, z, hT⟩ := mapT_ok hE hm
    obtain ⟨p, es, rfl, hp, hh, hR, _⟩ := h.mapAt hvm hbl hct
    obtain ⟨rfl, rfl⟩ := HM.run_ret e
    have has' : cl.args.map a.eval = #[.map (some p.b)] := by
      apply Array.ext'
      rw [Array.toList_map, hvs]
    have hts0 : cl.argTypes[0]? = some t' := by rw [← Array.getElem?_toList, hts]; rfl
    refine op_builtin h ho hb (v := .int .i64 l.length) (by simp [Rep]) ?_
    rw [has']
    have hsz : l.length = es.size := by simpa using hR.len
    simp [builtin, Builtin.len_, hts0, und_run hT.u, run_getMap hh, goInt, hsz]
  · cases e

theorem op_makeMap (h : Sim c I L s a w) {t : TypeId} {o : Oper} (ho : o.op = .makeMap t none) {δ : Dl} {rs : List Nat}
    (e : (makeMapA c.E t).run call s.rd = some (δ, rs)) : OpOK c s a w o δ := by
  unfold makeMapA at e
  split at e
  rotate_left
  · cases e
  rename_i A B k hm hk
  obtain ⟨tb, l1, htb, e1, rfl⟩ := HM.run_rd e
  clear e
  have htb' := rdv_l.1 (show rdv s.heap (.l k) = some tb from htb)
  split at e1
  rotate_left
  · cases e1
  rename_i cs l st gs htct
  split at e1
  rotate_left
  · cases e1
  rename_i row hrow
  split at e1
  rotate_left
  · cases e1
  rename_i hst
  have hst : st = [] := by simpa using hst
  subst hst
  obtain ⟨rfl, rfl⟩ := HM.run_ret e1
  obtain ⟨w', hw'⟩ : ∃ w' : World, w' = { w with heap := w.heap.push (.map #[] 0) } := ⟨_, rfl⟩
  obtain ⟨L', hS, hL'⟩ := h.mapNew (w' := w') htb' htct hrow (by rw [hw']) (by rw [hw']; exact ⟨rfl, rfl, rfl⟩)
  intro K Q hK
  unfold Oper.wp
  rw [show (execOp a.eval o).run c.P w = .ok (.value (.map (some w.heap.size))) w' from by simp [execOp, ho, Instr.makeMap, hw'], Oper.upon_value]
  refine hK I L' _ _ (hS.put o.dst ?_)
  simp only [Rep, RepT]
  refine ⟨w.heap.size, ?_, rfl⟩
  simp only [Ctx.rc, rcW, hOf, hL', Option.map_some]

end
end Go.Eng

/-
  The abstract machine, part 17: calls; every operation.
-/
namespace Go.Eng

theorem lt_of_heap {w : World} {g : Nat} {o : Obj} (h : w.heap[g]? = some o) : g < w.heap.size := (Array.getElem?_eq_some_iff.1 h).1

theorem WOK.mono {P : Program} {E : Env} {S : Ini} {w w' : World} (h : WOK P E S w) (hw : ∀ b, S.G b → w'.heap[b]? = w.heap[b]?) : WOK P E S w' := by
  refine ⟨fun g row hg => ?_, fun w'' h2 => h.eqs w'' fun b hb => (h2 b hb).trans (hw b hb), h.ne⟩
  obtain ⟨hG, cs, T, fz, hh, hr⟩ := h.glob g row hg
  exact ⟨hG, cs, T, fz, by rw [hw g hG]; exact hh, hr.mono (rle_of_heap (fun _ hb => hb) (fun b hb => hb.elim) (LLe.refl _)) (LLe.refl _)⟩

/-- WHAT A FUNCTION ANSWERS -/
def Con (P : Program) (E : Env) (S : Ini) (f : FuncId) (args : List AV) (bs : List Blk) (b0 : Nat) (r : AV) (ts : List Blk) (hp : List (Option Blk)) : Prop :=
  ∀ (w : World) (I : Nat → Prop) (L : Ref → Option Pl) (Rt : Nat → Prop) (B : Nat → Nat → Option Pl) (vs : Array Value), WOK P E S w → E.kinds.length ≤ b0 → Sim ⟨P, E, S, w, I, Rt, B, []⟩ I L ⟨args, entryH E (E.ks f) bs⟩ { tmps := vs, defers := [] } w →
    Calls P f vs w fun
      | .returned v, w' => ∃ I' L', Sim ⟨P, E, S, w, I, Rt, B, []⟩ I' L' ⟨[r], outH E (E.ks f) ts b0 hp⟩ { tmps := #[v], defers := [] } w'
      | _, _ => False

/-- what is told of functions -/
def CallOK (P : Program) (E : Env) (S : Ini) (call : CallF) : Prop := ∀ f as bs n r ts wr, call f as bs n = some (r, ts, wr) →
  ∃ hp, (∀ x, x ∈ hp → x.isSome = true) ∧ (∀ b, some b ∈ hp → b.isTab = false) ∧ wr = numb n hp ∧ Con P E S f as bs n r ts hp

section
variable {c : Ctx} {I : Nat → Prop} {L : Ref → Option Pl} {s : St} {a : Act} {w : World} {call : CallF}

theorem Sim.wok (h : Sim c I L s a w) (hW : WOK c.P c.E c.S c.w0) : WOK c.P c.E c.S w := hW.mono fun b hb => h.same b (h.fix b hb).1 (h.fix b hb).2

theorem HM.run_call {α : Type} {f : FuncId} {as : List AV} {bs : List Blk} {n : Nat} {k : AV → List Blk → List (Nat × Blk) → HM α} {h : Ref → Option Blk} {x : α} {l : List Nat} (e : (HM.call f as bs n k).run call h = some (x, l)) : ∃ r ts wr, call f as bs n = some (r, ts, wr) ∧ (k r ts wr).run call h = some (x, l) := by
  simp only [HM.run] at e
  split at e
  · rename_i r ts wr hr
    exact ⟨r, ts, wr, hr, e⟩
  · cases e

theorem like_ok {ks : List Nat} {bs ts : List Blk} {b0 : Nat} (h : likeBs bs ts = true) (hc : bs.all (cleanB ks) = true) : ts.all (Blk.ok ks false b0) = true := by
  obtain ⟨hl, hlike⟩ := likeBs_at h
  rw [List.all_eq_true]
  intro t ht
  obtain ⟨j, hj, rfl⟩ := List.getElem_of_mem ht
  have hjb : j < bs.length := by omega
  have hlk := hlike j bs[j] ts[j] (List.getElem?_eq_getElem hjb) (List.getElem?_eq_getElem hj)
  rw [List.all_eq_true] at hc
  obtain ⟨cs, l, gs, hct, hcs⟩ := cleanB_inv (hc bs[j] (List.getElem_mem hjb))
  unfold likeB at hlk
  rw [hct] at hlk
  split at hlk
  · rename_i hc0 hc1
    injection hc0 with hc0
    subst hc0
    simp only [Bool.and_eq_true, decide_eq_true_eq] at hlk
    obtain ⟨e, _⟩ := hlk
    subst e
    unfold Blk.ok
    rw [hc1]
    exact hcs
  · cases hlk

theorem run_even {P : Program} {x : Nat} (h : evenOK x = true) (w : World) : ((Extern.MathFloor.toIntegral "math.RoundToEven" .even) #[.float .f64 x]).run P w = .ok (.float .f64 (evenF x)) w := by
  have key : (Extern.MathFloor.toIntegral "math.RoundToEven" .even) #[.float .f64 x] = (match FloatKind.f64.decode x with
    | .nan s t =>
      if FloatKind.f64.format.quiet t = t then pure (.float .f64 x) else do
      let kept ← choose (.extern "math.Floor,Ceil,Trunc,RoundToEven.signallingNaN kept" 2)
      pure (.float .f64 (if kept == 1 then x else FloatKind.f64.encode (.nan s (FloatKind.f64.format.quiet t))))
    | d => pure (.float .f64 (FloatKind.f64.encode (d.integral .even)))) := rfl
  rw [key]
  unfold evenF
  unfold evenOK at h
  cases hd : FloatKind.f64.decode x with
  | nan s t =>
    rw [hd] at h
    simp only [decide_eq_true_eq] at h
    simp only [if_pos h]
    rfl
  | number s m i => rfl
  | infinity s => rfl

theorem op_call (h : Sim c I L s a w) (hE : EnvOK c.P c.E) (hW : WOK c.P c.E c.S c.w0) (hC : CallOK c.P c.E c.S call) {cl : Call} {o : Oper} (ho : o.op = .call cl) {f : Operand} (hb : cl.callee = .value f) {newId : Nat} (hn : ∀ j, j < 8 → s.heap[newId + j]? = some none) {δ : Dl} {rs : List Nat}
    (e : (aop c.E (aeval s.env) newId o.op).run call s.rd = some (δ, rs)) : OpOK c s a w o δ := by
  have ho' := ho
  rw [ho] at e
  simp only [aop, hb] at e
  have hf := h.eval f
  split at e
  · rename_i g af cp hav
    rw [hav] at hf
    simp only [Rep] at hf
    obtain ⟨a', c', hfv, ha', hc'⟩ := hf
    unfold callA at e
    split at e
    · split at e
      · rename_i k hk
        obtain ⟨fn, hfn, hname, hbody, hnext, hfind⟩ := hE.ext g k hk
        have hargs : RepL (c.rc I L w) L (af ++ cl.args.toList.map (aeval s.env) ++ cp) (a' ++ cl.args.map a.eval ++ c').toList := by
          simp only [Array.toList_append, Array.toList_map]
          exact (ha'.append (h.evalL _)).append hc'
        have hex : ∀ v, (k.row (a' ++ cl.args.map a.eval ++ c')).run c.P w = .ok v w → (execOp a.eval o).run c.P w = .ok (.value v) w := by
          intro v hv
          have hcf := run_callFunc_extern hfn hname hbody hnext hfind (a' ++ cl.args.map a.eval ++ c') w
          rw [hv] at hcf
          simp only [execOp, ho', resolve, hb, hfv, Deferred.ofValue, invoke]
          simpa [Sem.run_bind] using hcf
        generalize af ++ cl.args.toList.map (aeval s.env) ++ cp = as at *
        generalize a' ++ cl.args.map a.eval ++ c' = vs at *
        unfold extA at e
        split at e
        · rename_i b
          obtain ⟨rfl, rfl⟩ := HM.run_ret e
          simp only [RepL, Rep] at hargs
          obtain ⟨v, t, hvs, rfl, rfl⟩ := hargs
          have hvs : vs = #[.float .f64 b] := by
            apply Array.ext'
            simpa using hvs
          exact OpOK.value h (v := .int .u64 b) (hex _ (by rw [hvs]; rfl)) (by simp [Rep])
        · rename_i n
          obtain ⟨rfl, rfl⟩ := HM.run_ret e
          simp only [RepL, Rep] at hargs
          obtain ⟨v, t, hvs, rfl, rfl⟩ := hargs
          have hvs : vs = #[.int .u64 n] := by
            apply Array.ext'
            simpa using hvs
          exact OpOK.value h (v := .float .f64 n.toNat) (hex _ (by rw [hvs]; rfl)) (by simp [Rep])
        · rename_i x
          obtain ⟨hck, e⟩ := HM.run_chk e
          obtain ⟨rfl, rfl⟩ := HM.run_ret e
          simp only [RepL, Rep] at hargs
          obtain ⟨v, t, hvs, rfl, rfl⟩ := hargs
          have hvs : vs = #[.float .f64 x] := by
            apply Array.ext'
            simpa using hvs
          exact OpOK.value h (v := .float .f64 (evenF x)) (hex _ (by rw [hvs]; exact run_even hck w)) (by simp [Rep])
        · cases e
      · split at e
        · rename_i k hk
          obtain ⟨⟨fn, hfn, hn0, hname⟩, hlst⟩ := hE.lst g k hk
          have hargs : RepL (c.rc I L w) L (af ++ cl.args.toList.map (aeval s.env) ++ cp) (a' ++ cl.args.map a.eval ++ c').toList := by
            simp only [Array.toList_append, Array.toList_map]
            exact (ha'.append (h.evalL _)).append hc'
          have hexec : (execOp a.eval o).run c.P w = .ok (.enter g (a' ++ cl.args.map a.eval ++ c')) w := by
            have hname' : ¬ fn.name = "runtime.NumGoroutine" := by simpa using hname
            have hsome : fn.body.isSome = true := by
              cases hb : fn.body with
              | none => rw [hb] at hn0; cases hn0
              | some b => rfl
            obtain ⟨body, hbody⟩ := Option.isSome_iff_exists.1 hsome
            simp [execOp, ho', resolve, hb, hfv, Deferred.ofValue, invoke, callFunc, program, Sem.run, hfn, hname', hbody]
          exact op_lst h hW hlst hargs hexec (hn 0 (by omega)) e
        · cases e
    · rename_i fi hfi
      obtain ⟨fn, hfn, hbody, _, _, hname⟩ := hE.fn g fi hfi
      obtain ⟨hnd, hklt⟩ := hE.ks g
      obtain ⟨⟨as, ids⟩, r1, r2, e1, e2, rfl⟩ := HM.run_bind e
      cases hap : (apartR (c.E.ks g) ids && as.all (AV.ok (c.E.ks g) false 0 8)) with
      | false => simp only [hap] at e2; cases e2
      | true =>
      simp only [hap] at e2
      simp only [Bool.and_eq_true] at hap
      obtain ⟨hap, hok⟩ := hap
      obtain ⟨bs, r3, r4, e3, e4, rfl⟩ := HM.run_bind e2
      cases hclean : bs.all (cleanB (c.E.ks g)) with
      | false => simp only [hclean] at e4; cases e4
      | true =>
      simp only [hclean] at e4
      obtain ⟨r, ts, wr, hr, e5⟩ := HM.run_call e4
      split at e5
      · cases e5
      rename_i hcond
      simp only [Bool.and_eq_true] at hcond
      obtain ⟨⟨hble, hlike⟩, hb0⟩ := hcond
      have hlen8 := Nat.le_of_ble_eq_true hble
      have hb0 := Nat.le_of_ble_eq_true hb0
      obtain ⟨nb, hsome, hnt, rfl, hcon⟩ := hC g as _ newId r ts wr hr
      obtain ⟨hlen, hbk, _⟩ := rdAll_sound e3
      have hargs : RepL (c.rc I L w) L (af ++ cl.args.toList.map (aeval s.env) ++ cp) (a' ++ cl.args.map a.eval ++ c').toList := by
        simp only [Array.toList_append, Array.toList_map]
        exact (ha'.append (h.evalL _)).append hc'
      obtain ⟨g1, g2⟩ := exportL_sound h 8 e1 hargs
      have told : Told L s ids := fun r hr => (g1 r hr).2
      have hrep := g2 (heldBy I L ids) (fun b hb => .inl hb) (fun id hid p hp hv => .inr ⟨id, p, hid, hp, hv, rfl⟩)
      have hcal := h.callee hnd hklt hlen hbk hclean told hap hrep hok
      have hcon := hcon w (heldBy I L ids) _ (calleeRt (c.E.ks g) L) _ _ (h.wok hW) hb0 hcal
      have hpl : nb.length ≤ 8 := by rw [← numb_length nb newId hsome]; exact hlen8
      intro K Q hK
      have hexec : (execOp a.eval o).run c.P w = .ok (.enter g (a' ++ cl.args.map a.eval ++ c')) w := by
        have hn : fn.body.isNone = false := by rw [hbody]; rfl
        have hname' : ¬ fn.name = "runtime.NumGoroutine" := by simpa using hname
        simp [execOp, ho', resolve, hb, hfv, Deferred.ofValue, invoke, callFunc, program, Sem.run, hfn, hname', hbody]
      unfold Oper.wp
      rw [hexec, Oper.upon_enter]
      refine hcon.mono fun en w' hen => ?_
      cases en with
      | returned v =>
        obtain ⟨I', L', hS⟩ := hen
        simp only
        have hmemw : ∀ b, some b ∈ nb → ∃ id, (id, b) ∈ numb newId nb := by
          intro b hb
          obtain ⟨j, hj, e⟩ := List.getElem_of_mem hb
          exact ⟨_, numb_mem nb newId j b (by rw [List.getElem?_eq_getElem hj, e])⟩
        split at e5
        · rename_i hflat
          simp only [Bool.and_eq_true] at hflat
          obtain ⟨⟨hf1, hf2⟩, hf3⟩ := hflat
          obtain ⟨rfl, rfl⟩ := HM.run_ret e5
          rw [List.all_eq_true] at hf2
          obtain ⟨L2, h2, hrr⟩ := h.back (Ih := heldBy I L ids) (fun b hb => .inl hb) hnd hklt hlen hbk hclean hlike hb0 hsome hnt (fun j hj => hn j (by omega)) hS (fl := true) (I'' := I) (fun _ hb => hb) (fun _ hb => .inl hb) (fun b hb => hS.i0 b (.inl hb)) (fun e => by cases e) hf1 (fun b hb => by
            obtain ⟨id, hm⟩ := hmemw b hb
            exact hf2 _ hm) hf3
          exact hK I L2 _ _ (h2.put o.dst hrr)
        · split at e5
          · cases e5
          rename_i hok2
          simp only [Bool.and_eq_true] at hok2
          obtain ⟨hf1, hf2⟩ := hok2
          rw [List.all_eq_true] at hf2
          obtain ⟨fz, r5, r6, e6, e7, rfl⟩ := HM.run_bind e5
          obtain ⟨rfl, rfl⟩ := HM.run_ret e7
          have hF := h.freezeAll e6 told
          obtain ⟨f1, f2, f3, _, f5⟩ := told.freeze e6
          obtain ⟨L2, h2, hrr⟩ := hF.back (Ih := heldBy I L ids) (fun b hb => hb) hnd hklt hlen (fun j k b hj hb => by
              have hk0 := hbk j k b hj hb
              show (putAll s.heap fz)[k]? = _
              rw [f5 k fun hm => ?_]
              · exact hk0
              · have := told.notab hm hk0
                rw [List.all_eq_true] at hclean
                obtain ⟨cs, l, gs, hct, _⟩ := cleanB_inv (hclean b (List.mem_of_getElem? hb))
                simp [Blk.isTab, hct] at this) hclean hlike hb0 hsome hnt (fun j hj => by
              show (putAll s.heap fz)[newId + j]? = _
              have hfj := hn j (by omega)
              rw [f5 _ fun hm => ?_]
              · exact hfj
              · obtain ⟨p, hp, _⟩ := told _ hm
                rw [free_L h hfj] at hp
                cases hp) hS (fl := false) (I'' := I') (fun b hb => hS.i0 b hb) (fun b hb => hS.iN b hb) (fun _ hb => hb) (fun _ _ hb => hb) hf1 (fun b hb => by
            obtain ⟨id, hm⟩ := hmemw b hb
            exact hf2 _ hm) (like_ok hlike hclean)
          refine hK I' L2 _ _ ?_
          have h3 := h2.put o.dst hrr
          simp only [St.app, putAll_append] at h3 ⊢
          exact h3
      | panicked ch => exact hen.elim
      | outgrown => exact hen.elim
  · cases e

theorem op_store (h : Sim c I L s a w) (hE : EnvOK c.P c.E) {t : TypeId} {x y : Operand} {o : Oper} (ho : o.op = .store t x y) {newId : Nat} {δ : Dl} {rs : List Nat}
    (e : (aop c.E (aeval s.env) newId o.op).run call s.rd = some (δ, rs)) : OpOK c s a w o δ := by
  have ho' := ho
  rw [ho] at e
  simp only [aop] at e
  unfold storeA at e
  split at e
  · rename_i ti k io i j g hty hav
    split at e
    · rename_i hi
      subst hi
      exact op_storeObj h hE ho' hty hav e
    · cases e
  · rename_i ti id i j g hex hty hav
    obtain ⟨b, l', hb, e1, rfl⟩ := HM.run_rd e
    split at e1
    · rename_i hc
      obtain ⟨hg, hz⟩ := hc
      split at e1
      · cases e1
      · cases e1
      · rename_i r hct
        split at e1
        · rename_i cs hcs
          split at e1
          · rename_i hcc
            obtain ⟨rfl, hall, hsz, hle⟩ := hcc
            obtain ⟨rfl, rfl⟩ := HM.run_ret e1
            cases id with
            | l id => exact op_storeBox h hE ho' hty hav hb hg hz hct hcs hall hsz hle
            | o k io q =>
              cases q with
              | zero => exact (hex k io rfl).elim
              | succ q =>
                obtain ⟨_, _, _, _, _, _, _, hv⟩ := rdH_o hb
                simp only [viewO] at hv
                split at hv
                · cases hv
                · split at hv
                  · simp only [Option.some.injEq] at hv
                    subst hv
                    cases hct
                  · cases hv
          · cases e1
        · cases e1
      · rename_i u l hct
        obtain ⟨hlt, e2⟩ := HM.run_chk e1
        obtain ⟨⟨y', ids⟩, r1, r2, e3, e4, rfl⟩ := HM.run_bind e2
        obtain ⟨fz, r3, r4, e5, e6, rfl⟩ := HM.run_bind e4
        split at e6
        · rename_i cs hcs
          split at e6
          · rename_i hcc
            obtain ⟨hall, hsz, hle, hno⟩ := hcc
            split at e6
            · rename_i z hdec
              obtain ⟨rfl, rfl⟩ := HM.run_ret e6
              exact op_storeSl h hE ho' hty hav hb hg hz hct (of_decide_eq_true hlt) e3 e5 hcs hall hsz hle hno hdec
            · cases e6
          · cases e6
        · cases e6
    · cases e1
  · cases e

/-- x[:0:0] -/
theorem op_empty (h : Sim c I L s a w) (hE : EnvOK c.P c.E) {t : TypeId} {x m : Operand} {lo hi : Option Operand} {o : Oper} (ho : o.op = .slice t x lo hi (some m)) {newId : Nat} (hn : s.heap[newId]? = some none) {δ : Dl} {rs : List Nat}
    (e : (aop c.E (aeval s.env) newId o.op).run call s.rd = some (δ, rs)) : OpOK c s a w o δ := by
  rw [ho] at e
  simp only [aop] at e
  have hx := h.eval x
  have hm := h.eval m
  obtain ⟨hlo1, hlo2⟩ := opt_eval h lo
  obtain ⟨hhi1, hhi2⟩ := opt_eval h hi
  unfold emptyA at e
  split at e
  case h_2 => cases e
  rename_i ti hty
  obtain ⟨d, i, z, hT⟩ := hE.ty _ ti hty
  have hd := hT.desc
  split at e
  case h_2 => cases e
  rename_i el htd
  rw [htd] at hd
  obtain rfl := descOf_slice hd
  split at e
  case h_2 => cases e
  rename_i ei hei
  obtain ⟨d2, i2, z2, hT2⟩ := hE.ty _ ei hei
  split at e
  case h_2 => cases e
  rename_i u k1 p k2 q hu hlo hhi hmv
  split at e
  case isFalse => cases e
  rename_i hpq
  obtain ⟨rfl, rfl⟩ := hpq
  have hlo := hlo2 hlo
  obtain ⟨vh, hvh, hrh⟩ := hhi1 _ hhi
  simp only [Rep] at hrh
  subst hrh
  rw [hmv] at hm
  simp only [Rep] at hm
  have hmv' : (some m).map a.eval = some (.int k2 0) := by rw [Option.map_some, hm]
  have hrun : ∀ len cap, (Instr.sliceBounds true len cap (lo.map a.eval) (hi.map a.eval) ((some m).map a.eval)).run c.P w = .ok (0, 0, 0) w := by
    intro len cap
    rw [hlo, hvh, hmv']
    simp [Instr.sliceBounds, Instr.sliceBound, asIntOf]
  have hexec : ∀ ad n cap, a.eval x = .slice ad n cap → (execOp a.eval o).run c.P w = .ok (.value (.slice ad 0 0)) w := by
    intro ad n cap hs
    simp only [execOp, ho]
    rw [hs]
    simp only [Instr.sliceAt, Instr.slice, Sem.run_bind, hT.run_u, Result.andThen_ok, hrun, hT2.run_size]
    rfl
  have fin : ∀ ad n cap, a.eval x = .slice ad n cap → OpOK c s a w o { x := .lsl u (.l newId) 0 0 0, wr := [(.l newId, { ct := .sl u [], gen := 0, frozen := false })] } := by
    intro ad n cap hs K Q hK
    unfold Oper.wp
    rw [hexec ad n cap hs, Oper.upon_value]
    have h2 := h.upd (p' := ⟨0, 0, u.size, 0, 0, true⟩) (b' := { ct := .sl u [], gen := 0, frozen := false }) (lt_of_free hn) (notab_free hn) rfl (fun q hq => by rw [free_L h hn] at hq; cases hq) (fun hv => by cases hv) (Nat.le_refl _) (IO.refl w) (fun _ _ _ => rfl) (fun _ _ => ⟨rfl, .inl ⟨rfl, rfl, rfl⟩⟩) (fun _ hv => by cases hv)
    refine hK I _ _ _ (h2.put o.dst ?_)
    simp only [Rep]
    exact ⟨⟨0, 0, u.size, 0, 0, true⟩, by simp [addL], rfl, Nat.le_refl _, ad, 0, rfl, Nat.le_refl _, fun h => absurd rfl h, fun _ => .inl rfl⟩
  split at e
  · rename_i hav
    rw [hav] at hx
    simp only [Rep] at hx
    obtain ⟨rfl, rfl⟩ := HM.run_ret e
    exact OpOK.value h (v := .slice none 0 0) (hexec none 0 0 hx) (by rw [hav]; simp [Rep])
  · rename_i t0 l0 hav
    rw [hav] at hx
    simp only [Rep] at hx
    obtain ⟨ad, cap, hs, _⟩ := hx
    simp only [List.cons.injEq, and_true] at hs
    obtain ⟨rfl, rfl⟩ := HM.run_ret e
    exact fin ad _ cap hs
  · rename_i t0 id0 i0 n0 g0 hav
    rw [hav] at hx
    simp only [Rep] at hx
    obtain ⟨p, hp, hw, hge, ad, cap, hs, _⟩ := hx
    obtain ⟨rfl, rfl⟩ := HM.run_ret e
    exact fin ad _ cap hs
  · cases e

/-- EVERY OPERATION -/
theorem op_len' (h : Sim c I L s a w) (hE : EnvOK c.P c.E) {cl : Call} {o : Oper} (ho : o.op = .call cl) (hb : cl.callee = .builtin .len) {newId : Nat} {δ : Dl} {rs : List Nat}
    (e : (aop c.E (aeval s.env) newId o.op).run call s.rd = some (δ, rs)) : OpOK c s a w o δ := by
  by_cases hm : ∃ t, cl.argTypes.toList.head? = some t ∧ isMapT c.E t = true
  · obtain ⟨t, ht, hmt⟩ := hm
    exact op_lenM h hE ho hb ht hmt e
  · refine op_len h hE ho hb (fun t ht => ?_) e
    cases hx : isMapT c.E t with
    | false => rfl
    | true => exact absurd ⟨t, ht, hx⟩ hm

theorem op_clear' (h : Sim c I L s a w) (hE : EnvOK c.P c.E) {cl : Call} {o : Oper} (ho : o.op = .call cl) (hb : cl.callee = .builtin .clear) {newId : Nat} {δ : Dl} {rs : List Nat}
    (e : (aop c.E (aeval s.env) newId o.op).run call s.rd = some (δ, rs)) : OpOK c s a w o δ := by
  by_cases hm : ∃ t, cl.argTypes.toList.head? = some t ∧ isMapT c.E t = true
  · obtain ⟨t, ht, hmt⟩ := hm
    exact op_clearM h hE ho hb ht hmt e
  · refine op_clear h hE ho hb (fun t ht => ?_) e
    cases hx : isMapT c.E t with
    | false => rfl
    | true => exact absurd ⟨t, ht, hx⟩ hm

theorem aop_sound (h : Sim c I L s a w) (hE : EnvOK c.P c.E) (hW : WOK c.P c.E c.S c.w0) (hC : CallOK c.P c.E c.S call) {o : Oper} {newId : Nat} (hnn : ∀ j, j < wid o.op → s.heap[newId + j]? = some none) {δ : Dl} {rs : List Nat}
    (e : (aop c.E (aeval s.env) newId o.op).run call s.rd = some (δ, rs)) : OpOK c s a w o δ := by
  have hn : s.heap[newId]? = some none := hnn 0 (by unfold wid; split <;> (try split) <;> omega)
  cases ho : o.op with
  | move x => exact op_move h (.inl ho) e
  | assign x => exact op_move h (.inr ho) e
  | pick x y z => exact op_pick h ho e
  | alloc t =>
    cases hk : c.E.kind t with
    | none => exact op_alloc h hE ho hk hn e
    | some kc => obtain ⟨k, cs⟩ := kc; exact op_allocObj h hE ho hk e
  | box t x =>
    cases hk : c.E.kind t with
    | none => exact op_box h ho hk hn e
    | some kc => obtain ⟨k, cs⟩ := kc; exact op_boxObj h ho hk e
  | build t ps => exact op_build h hE ho e
  | buildSlice t n ps => exact op_buildSlice h hE ho hn e
  | load t x =>
    rw [ho] at e
    simp only [aop] at e
    obtain ⟨y, hy, rfl⟩ := run_vbind e
    exact op_load h hE hW ho hy
  | store t x y => exact op_store h hE ho e
  | nilCheck x => exact op_nilCheck h ho e
  | binOp op t x y t' => exact op_binOp h hE hW ho e
  | unOp op t x => exact op_unOp h ho e
  | convert t t' x => exact op_convert h hE ho e
  | makeInterface t x => exact op_makeInterface h hE ho e
  | makeFunc f x y => exact op_makeFunc h ho e
  | makeSlice t x y => exact op_makeSlice h hE ho hn e
  | slice t x lo hi mx =>
    cases mx with
    | none => exact op_slice h hE ho e
    | some m => exact op_empty h hE ho hn e
  | fieldAddr t x f => exact op_fieldAddr h hE ho e
  | field t x f => exact op_field h hE ho e
  | indexAddr t x ix => exact op_indexAddr h hE ho e
  | index t x ix => exact op_index h hE ho e
  | lookup t m k ok =>
    rw [ho] at e
    simp only [aop] at e
    obtain ⟨y, hy, rfl⟩ := run_vbind e
    exact op_lookup h hE ho hy
  | mapUpdate t m k x => rw [ho] at e; exact op_mapPut h hE (.inl ho) e
  | insert t m k x => rw [ho] at e; exact op_mapPut h hE (.inr ho) e
  | mapEntry t m k => rw [ho] at e; exact op_mapEntry h hE ho e
  | entryStore t m k x => rw [ho] at e; exact op_entryStore h hE ho e
  | makeMap t r =>
    cases r with
    | none => rw [ho] at e; exact op_makeMap h ho e
    | some r => rw [ho] at e; simp only [aop] at e; cases e
  | typeAssert x xt t ok => exact op_typeAssert h hE hW.ne ho e
  | extract t i => exact op_extract h ho e
  | call cl =>
    cases hb : cl.callee with
    | value f => exact op_call h hE hW hC ho hb (fun j hj => hnn j (by rw [ho]; simp only [wid, hb]; exact hj)) e
    | invoke r m => rw [ho] at e; simp only [aop, hb] at e; cases e
    | builtin b =>
      cases b with
      | len => exact op_len' h hE ho hb e
      | append => exact op_append h hE ho hb hn e
      | copy => exact op_copy h hE ho hb e
      | clear => exact op_clear' h hE ho hb e
      | delete => exact op_delete h hE ho hb e
      | max => exact op_max h ho hb e
      | min => exact op_min h ho hb e
      | _ => rw [ho] at e; simp only [aop, hb, builtinA] at e; cases e
  | _ => rw [ho] at e; simp only [aop] at e; cases e

end
end Go.Eng
