/-
  The abstract machine, part 17a: what goes over from one call to another.
-/
import Derived.Laws.Externs
import Derived.Test.YtnbpgehpjhifgaaDoorLxEngQe
namespace Go.Eng

theorem any_beq {ks : List Nat} {k : Nat} : ks.any (Nat.beq k) = true ↔ k ∈ ks := by
  rw [List.any_eq_true]
  constructor
  · rintro ⟨x, hx, hb⟩
    rw [Nat.eq_of_beq_eq_true hb]
    exact hx
  · intro h
    exact ⟨k, h, Nat.beq_refl k⟩

/-- a reading for another one, as far as these kinds' objects go (fl: and no reference else) -/
structure RTo (R R' : RC) (ks : List Nat) (fl : Bool) : Prop where
  c : R'.C = R.C
  t : R'.T = R.T
  i : fl = false → ∀ b, R.I b → R'.I b
  h : ∀ k i b, k ∈ ks → R.H k i = some b → R'.H k i = some b

theorem RTo.at {R R' : RC} {ks : List Nat} {fl : Bool} (h : RTo R R' ks fl) {cs : List Value} {b o : Nat} (ha : At R cs b o) : At R' cs b o := fun j v hj => by rw [h.c]; exact ha j v hj

theorem RTo.err {R R' : RC} {ks : List Nat} (h : RTo R R' ks false) {e : Er} {y : Value} (he : RepE R e y) : RepE R' e y := by
  cases e with
  | nil => exact he
  | s g => unfold RepE at *; rw [h.t]; exact he
  | «at» p g =>
    unfold RepE at *
    obtain ⟨b, o, rfl, hb, h1, hv, h2⟩ := he
    rw [h.t, h.c]
    exact ⟨b, o, rfl, h.i rfl b hb, h1, hv, h2⟩

theorem RepT.to {R R' : RC} {ks : List Nat} {fl : Bool} (h : RTo R R' ks fl) : ∀ (t : Ty) {x : Val t} {cs : List Value}, t.ok ks fl = true → RepT R t x cs → RepT R' t x cs
  | .int _, _, _, _, hx | .bool, _, _, _, hx | .str, _, _, _, hx | .flt, _, _, _, hx | .unit, _, _, _, hx | .nat, _, _, _, hx => hx
  | .err, _, _, hk, ⟨y, e, hy⟩ => by
    simp only [Ty.ok, Bool.not_eq_true'] at hk
    subst hk
    exact ⟨y, e, h.err hy⟩
  | .pair a b, _, _, hk, ⟨c, d, e, hc, hd⟩ => by
    simp only [Ty.ok, Bool.and_eq_true] at hk
    exact ⟨c, d, e, RepT.to h a hk.1 hc, RepT.to h b hk.2 hd⟩
  | .st a, _, _, hk, hx => RepT.to h a (by simpa only [Ty.ok] using hk) hx
  | .sl a, _, _, hk, ⟨ad, cap, e, hl, hr, hz⟩ => by
    simp only [Ty.ok, Bool.and_eq_true, Bool.not_eq_true'] at hk
    obtain ⟨hf, hk⟩ := hk
    subst hf
    exact ⟨ad, cap, e, hl, fun hn => by
      obtain ⟨b, o, ea, hb, hi⟩ := hr hn
      refine ⟨b, o, ea, h.i rfl b hb, fun i hlt => ?_⟩
      obtain ⟨c, hc, hat⟩ := hi i hlt
      exact ⟨c, RepT.to h a hk hc, h.at hat⟩, hz⟩
  | .ref a, _, _, hk, ⟨b, o, e, hb, c, hc, hat⟩ => by
    simp only [Ty.ok, Bool.and_eq_true, Bool.not_eq_true'] at hk
    obtain ⟨hf, hk⟩ := hk
    subst hf
    exact ⟨b, o, e, h.i rfl b hb, c, RepT.to h a hk hc, h.at hat⟩
  | .clo _ c, _, _, hk, ⟨cap, e, hc⟩ => by
    simp only [Ty.ok, Bool.and_eq_true, Bool.not_eq_true'] at hk
    obtain ⟨hf, hk⟩ := hk
    subst hf
    exact ⟨cap, e, RepT.to h c hk hc⟩
  | .hd k, x, _, hk, hx => by
    cases x with
    | none => exact hx
    | some i =>
      obtain ⟨b, hb, e⟩ := hx
      exact ⟨b, h.h k i b (any_beq.1 hk) hb, e⟩

theorem RepL.to_all {R R' : RC} {L L' : Ref → Option Pl} {p : AV → Bool} : ∀ {l : List AV} {vs : List Value}, l.all p = true → (∀ x v, x ∈ l → p x = true → Rep R L x v → Rep R' L' x v) → RepL R L l vs → RepL R' L' l vs
  | [], _, _, _, h => by simpa only [RepL] using h
  | y :: r, _, ha, hp, h => by
    simp only [List.all_cons, Bool.and_eq_true] at ha
    simp only [RepL] at h ⊢
    obtain ⟨z, t, rfl, hz, ht⟩ := h
    exact ⟨z, t, rfl, hp y z (by simp) ha.1 hz, RepL.to_all ha.2 (fun x v hx => hp x v (by simp [hx])) ht⟩

theorem Rep.to {R R' : RC} {L L' : Ref → Option Pl} {ks : List Nat} {fl : Bool} {b0 : Nat} (h : RTo R R' ks fl) (hL : ∀ id p, b0 ≤ id → L (.l id) = some p → L' (.l id) = some p) : ∀ (n : Nat) {x : AV} {v : Value}, x.ok ks fl b0 n = true → Rep R L x v → Rep R' L' x v
  | 0, _, _, hk, _ => by simp [AV.ok] at hk
  | n + 1, x, v, hk, hx => by
    have all : ∀ {l : List AV} {vs : List Value}, l.all (AV.ok ks fl b0 n) = true → RepL R L l vs → RepL R' L' l vs := fun ha hl => RepL.to_all ha (fun x v _ hx hr => Rep.to h hL n hx hr) hl
    cases x with
    | v y => simpa only [Rep] using hx
    | er e =>
      simp only [AV.ok, Bool.not_eq_true'] at hk
      subst hk
      simp only [Rep] at *
      exact h.err hx
    | agg l =>
      simp only [AV.ok] at hk
      simp only [Rep] at *
      obtain ⟨cs, e, hl⟩ := hx
      exact ⟨cs, e, all hk hl⟩
    | tup l =>
      simp only [AV.ok] at hk
      simp only [Rep] at *
      obtain ⟨cs, e, hl⟩ := hx
      exact ⟨cs, e, all hk hl⟩
    | isl t l =>
      simp only [AV.ok] at hk
      simp only [Rep] at *
      exact RepT.to h (.sl t) (by simpa only [Ty.ok] using hk) hx
    | nsl t l =>
      simp only [AV.ok] at hk
      simp only [Rep] at *
      exact ⟨RepT.to h (.sl t) (by simpa only [Ty.ok] using hk) hx.1, hx.2⟩
    | iptr row j =>
      simp only [AV.ok, Bool.and_eq_true, Bool.not_eq_true'] at hk
      obtain ⟨hf, hk⟩ := hk
      subst hf
      simp only [Rep] at *
      obtain ⟨b, o, e, hb, cs, hr, ha⟩ := hx
      refine ⟨b, o, e, h.i rfl b hb, cs, ?_, h.at ha⟩
      exact RepL.to_all hk (fun x v _ hx hr => Rep.to (L := fun _ => none) (L' := fun _ => none) h (fun _ _ _ e => e) n hx hr) hr
    | gptr g j => simpa only [Rep] using hx
    | lsl t id i m g =>
      cases id with
      | l id =>
        simp only [AV.ok] at hk
        simp only [Rep] at *
        obtain ⟨p, hp, hr⟩ := hx
        exact ⟨p, hL id p (Nat.le_of_ble_eq_true hk) hp, hr⟩
      | o k i q => simp [AV.ok] at hk
    | lptr id i j g =>
      cases id with
      | l id =>
        simp only [AV.ok] at hk
        simp only [Rep] at *
        obtain ⟨p, hp, hr⟩ := hx
        exact ⟨p, hL id p (Nat.le_of_ble_eq_true hk) hp, hr⟩
      | o k i q => simp [AV.ok] at hk
    | iface t y =>
      simp only [AV.ok] at hk
      simp only [Rep] at *
      obtain ⟨z, e, hz⟩ := hx
      exact ⟨z, e, Rep.to h hL n hk hz⟩
    | fn f a1 c1 =>
      simp only [AV.ok, Bool.and_eq_true] at hk
      simp only [Rep] at *
      obtain ⟨a', c', e, ha, hc⟩ := hx
      exact ⟨a', c', e, all hk.1 ha, all hk.2 hc⟩
    | hd k x =>
      simp only [AV.ok] at hk
      simp only [Rep] at *
      exact RepT.to h (.hd k) (by simpa only [Ty.ok] using hk) hx
    | top => simp [Rep]

/-- an object's row, in another reading -/
theorem rowO_to {R R' : RC} {L L' : Ref → Option Pl} {ks : List Nat} {fl : Bool} (h : RTo R R' ks fl) {k i : Nat} {gs gs' : List Nat}
    (hq : ∀ q p, L (.o k i q) = some p → 1 ≤ q → p.gen = gs.getD q 0 ∧ L' (.o k i q) = some { p with gen := gs'.getD q 0 }) : ∀ {cs : List Cell} {q : Nat} {x : Val (rowsTy cs)} {ys : List Value}, cs.all (Cell.ok ks fl) = true → 1 ≤ q →
    RepL R L (rowO k i (fun q => decide ((q, i) ∈ ([] : List (Nat × Nat)))) gs cs q x) ys → RepL R' L' (rowO k i (fun q => decide ((q, i) ∈ ([] : List (Nat × Nat)))) gs' cs q x) ys
  | [], _, _, _, _, _, h => h
  | .d t :: r, q, x, ys, hk, h1, hx => by
    simp only [List.all_cons, Bool.and_eq_true, Cell.ok] at hk
    simp only [rowO] at hx ⊢
    obtain ⟨c, d, rfl, hc, hd⟩ := hx.split
    exact (RepL.ofT t (RepT.to h t hk.1 (RepL.toT t hc))).append (rowO_to h hq hk.2 h1 hd)
  | .sl t :: r, q, x, ys, hk, h1, hx => by
    simp only [List.all_cons, Bool.and_eq_true] at hk
    simp only [rowO, RepL] at hx ⊢
    obtain ⟨y, tl, rfl, hy, ht⟩ := hx
    refine ⟨y, tl, rfl, ?_, rowO_to h hq hk.2 (by omega) ht⟩
    simp only [List.not_mem_nil, decide_false, Rep] at hy ⊢
    obtain ⟨p, hp, hw, hge, ad, cap, hv, hcap, hsome, hcur⟩ := hy
    obtain ⟨hg, hp'⟩ := hq q p hp h1
    exact ⟨_, hp', hw, Nat.le_refl _, ad, cap, hv, hcap, hsome, fun _ => hcur hg⟩

theorem slO_ty {ks : List Nat} {fl : Bool} {want : Nat} : ∀ {cs : List Cell} {q : Nat} {x : Val (rowsTy cs)} {t : Ty} {l : List (Val t)}, cs.all (Cell.ok ks fl) = true → slO want cs q x = some ⟨t, l⟩ → t.ok ks fl = true
  | [], _, _, _, _, _, h => by cases h
  | .d u :: r, q, x, t, l, hk, h => by
    simp only [List.all_cons, Bool.and_eq_true] at hk
    simp only [slO] at h
    exact slO_ty hk.2 h
  | .sl u :: r, q, x, t, l, hk, h => by
    simp only [List.all_cons, Bool.and_eq_true, Cell.ok] at hk
    simp only [slO] at h
    split at h
    · simp only [Option.some.injEq, Sigma.mk.injEq] at h
      rw [← h.1]
      exact hk.1
    · exact slO_ty hk.2 h

theorem slO_some {want : Nat} : ∀ {cs : List Cell} {q : Nat} {x : Val (rowsTy cs)}, want ∈ ownQs cs q → ∃ t l, slO want cs q x = some ⟨t, l⟩
  | [], _, _, h => by cases h
  | .d u :: r, q, x, h => by simp only [ownQs] at h; simp only [slO]; exact slO_some h
  | .sl u :: r, q, x, h => by
    simp only [ownQs, List.mem_cons] at h
    simp only [slO]
    cases hb : Nat.beq q want with
    | true => exact ⟨u, _, rfl⟩
    | false =>
      rcases h with rfl | h
      · rw [Nat.beq_refl] at hb; cases hb
      · exact slO_some h

theorem slO_same {want : Nat} : ∀ {cs : List Cell} {q : Nat} {x y : Val (rowsTy cs)} {t t' : Ty} {l : List (Val t)} {l' : List (Val t')}, slO want cs q x = some ⟨t, l⟩ → slO want cs q y = some ⟨t', l'⟩ → t = t'
  | [], _, _, _, _, _, _, _, h, _ => by cases h
  | .d u :: r, q, x, y, t, t', l, l', h, h' => by simp only [slO] at h h'; exact slO_same h h'
  | .sl u :: r, q, x, y, t, t', l, l', h, h' => by
    simp only [slO] at h h'
    cases hb : Nat.beq q want with
    | true =>
      rw [hb] at h h'
      simp only [Option.some.injEq, Sigma.mk.injEq] at h h'
      rw [← h.1, ← h'.1]
    | false =>
      rw [hb] at h h'
      exact slO_same h h'

theorem ownQs_range : ∀ {cs : List Cell} {q0 q : Nat}, q ∈ ownQs cs q0 → q0 ≤ q ∧ q < q0 + (ownQs cs q0).length
  | [], _, _, h => by cases h
  | .d u :: r, q0, q, h => by simp only [ownQs] at h ⊢; exact ownQs_range h
  | .sl u :: r, q0, q, h => by
    simp only [ownQs, List.mem_cons, List.length_cons] at h ⊢
    rcases h with rfl | h
    · omega
    · have := ownQs_range h; omega

/-! The heap at a call's beginning. -/

def tab0 (cs : List Cell) : Blk := { ct := .tab cs [] [] (List.replicate ((ownQs cs 1).length + 1) 0), gen := 0, frozen := false }

def putK : List (Option Blk) → List Nat → List Blk → List (Option Blk)
  | h, k :: ks, b :: bs => putK (h.set k (some b)) ks bs
  | h, _, _ => h

/-- the objects that a call sees (of other kinds: none) -/
def entryH (E : Env) (ks : List Nat) (bs : List Blk) : List (Option Blk) := putK (E.kinds.map fun cs => some (tab0 cs)) ks bs

theorem putK_length : ∀ (h : List (Option Blk)) (ks : List Nat) (bs : List Blk), (putK h ks bs).length = h.length
  | h, [], _ => by simp [putK]
  | h, _ :: _, [] => by simp [putK]
  | h, k :: ks, b :: bs => by simp only [putK]; rw [putK_length]; simp

theorem putK_other : ∀ (h : List (Option Blk)) (ks : List Nat) (bs : List Blk) (k : Nat), k ∉ ks → (putK h ks bs)[k]? = h[k]?
  | h, [], _, _, _ => by simp [putK]
  | h, _ :: _, [], _, _ => by simp [putK]
  | h, k' :: ks, b :: bs, k, hn => by
    simp only [List.mem_cons, not_or] at hn
    simp only [putK]
    rw [putK_other _ ks bs k hn.2, List.getElem?_set_ne (fun e => hn.1 e.symm)]

theorem putK_at : ∀ (h : List (Option Blk)) (ks : List Nat) (bs : List Blk) (j k : Nat) (b : Blk), ks.Nodup → (∀ k, k ∈ ks → k < h.length) → ks[j]? = some k → bs[j]? = some b → (putK h ks bs)[k]? = some (some b)
  | h, [], _, j, k, b, _, _, hk, _ => by simp at hk
  | h, _ :: _, [], j, k, b, _, _, _, hb => by simp at hb
  | h, k' :: ks, b' :: bs, 0, k, b, hn, hl, hk, hb => by
    simp only [List.getElem?_cons_zero, Option.some.injEq] at hk hb
    subst hk; subst hb
    simp only [List.nodup_cons] at hn
    simp only [putK]
    rw [putK_other _ ks bs k' hn.1, List.getElem?_set_self (hl k' (by simp))]
  | h, k' :: ks, b' :: bs, j + 1, k, b, hn, hl, hk, hb => by
    simp only [List.nodup_cons] at hn
    simp only [putK]
    exact putK_at _ ks bs j k b hn.2 (fun x hx => by simpa using hl x (by simp [hx])) (by simpa using hk) (by simpa using hb)

theorem entryH_length (E : Env) (ks : List Nat) (bs : List Blk) : (entryH E ks bs).length = E.kinds.length := by simp [entryH, putK_length]

end Go.Eng
