/-
  The abstract machine, part 3: what plain values stand for in a world.
-/
import Derived.Test.YtnbpgehpjhifgaaDoorLxEngB
namespace Go.Eng

/-- A reading: what a world's cells hold, which blocks nobody changes any more, where the program's errors lie. -/
structure Stat where
  S : Nat → Addr        -- where the error lies that a variable holds
  N : Names
  V : Nat → Prop        -- which variables hold an error of their own

structure RC where
  C : Nat → Nat → Option Value
  I : Nat → Prop
  T : Stat
  H : Nat → Nat → Option Nat   -- where the objects of each kind lie

def RepE (R : RC) : Er → Value → Prop
  | .nil, y => y = .nilIface
  | .s g, y => R.T.V g ∧ y = .iface R.T.N.errT (.pointer (some (R.T.S g)))
  | .at p g, y => ∃ b o, y = .iface R.T.N.atT (.pointer (some ⟨b, o, none⟩)) ∧ R.I b ∧ R.C b o = some (.int .i64 p) ∧
      R.T.V g ∧ R.C b (o + 1) = some (.iface R.T.N.errT (.pointer (some (R.T.S g))))

/-- cells lie at a place -/
def At (R : RC) (cs : List Value) (b o : Nat) : Prop := ∀ j v, cs[j]? = some v → R.C b (o + j) = some v

def RepT (R : RC) : (t : Ty) → Val t → List Value → Prop
  | .int k, n, cs => cs = [.int k n]
  | .bool, b, cs => cs = [.bool b]
  | .str, s, cs => cs = [.string s]
  | .flt, b, cs => cs = [.float .f64 b]
  | .err, e, cs => ∃ y, cs = [y] ∧ RepE R e y
  | .unit, _, cs => cs = []
  | .nat, _, cs => cs = []
  | .pair a b, p, cs => ∃ c d, cs = c ++ d ∧ RepT R a p.1 c ∧ RepT R b p.2 d
  | .st a, x, cs => RepT R a x cs
  | .sl a, l, cs => ∃ ad cap, cs = [.slice ad l.length cap] ∧ l.length ≤ cap ∧
      (l.length ≠ 0 → ∃ b o, ad = some ⟨b, o, none⟩ ∧ R.I b ∧ ∀ i, i < l.length → ∃ c, RepT R a (l.getD i (dfl a)) c ∧ At R c b (o + i * a.size)) ∧ (ad = none → cap = 0)
  | .ref a, x, cs => ∃ b o, cs = [.pointer (some ⟨b, o, none⟩)] ∧ R.I b ∧ ∃ c, RepT R a x c ∧ At R c b o
  | .clo f c, x, cs => ∃ cap : Array Value, cs = [.func (.func f) #[] cap] ∧ RepT R c x cap.toList
  | .hd k, x, cs => match x with
    | none => cs = [.pointer none]
    | some i => ∃ b, R.H k i = some b ∧ cs = [.pointer (some ⟨b, 0, none⟩)]

/-- where a block of the call's own lies -/
structure Pl where
  b : Nat
  o : Nat
  w : Nat
  gen : Nat
  size : Nat
  virt : Bool

mutual
def Rep (R : RC) (L : Ref → Option Pl) : AV → Value → Prop
  | .v x, y => y = x
  | .er e, y => RepE R e y
  | .agg l, y => ∃ cs : Array Value, y = .agg cs ∧ RepL R L l cs.toList
  | .tup l, y => ∃ cs : Array Value, y = .tuple cs ∧ RepL R L l cs.toList
  | .isl t l, y => RepT R (.sl t) l [y]
  | .nsl t l, y => RepT R (.sl t) l [y] ∧ ∃ a n k, y = .slice (some a) n k
  | .iptr row j, y => ∃ b o, y = .pointer (some ⟨b, o + j, none⟩) ∧ R.I b ∧ ∃ cs, RepL R (fun _ => none) row cs ∧ At R cs b o
  | .gptr g j, y => y = .pointer (some ⟨g, j, none⟩)
  | .lsl t id i n gen, y => ∃ p, L id = some p ∧ p.w = t.size ∧ gen ≤ p.gen ∧ ∃ ad cap, y = .slice ad n cap ∧ n ≤ cap ∧ (n ≠ 0 → ad.isSome = true) ∧
      (p.gen = gen → cap = 0 ∨ (p.virt = false ∧ ad = some ⟨p.b, p.o + i * p.w, none⟩ ∧ p.o + (i + cap) * p.w ≤ p.size))
  | .lptr id i j gen, y => ∃ p, L id = some p ∧ gen ≤ p.gen ∧ ∃ q : Addr, y = .pointer (some q) ∧ (p.gen = gen → q = ⟨p.b, p.o + i * p.w + j, none⟩)
  | .iface t x, y => ∃ z, y = .iface t z ∧ Rep R L x z
  | .fn f a c, y => ∃ a' c' : Array Value, y = .func f a' c' ∧ RepL R L a a'.toList ∧ RepL R L c c'.toList
  | .hd k x, y => RepT R (.hd k) x [y]
  | .top, _ => True
def RepL (R : RC) (L : Ref → Option Pl) : List AV → List Value → Prop
  | [], ys => ys = []
  | x :: r, ys => ∃ y t, ys = y :: t ∧ Rep R L x y ∧ RepL R L r t
end

/-- a reading that goes on: what nobody changes is as it was -/
structure RLe (R R' : RC) : Prop where
  i : ∀ b, R.I b → R'.I b
  c : ∀ b o, R.I b → R'.C b o = R.C b o
  t : R'.T = R.T
  h : ∀ k i b, R.H k i = some b → R'.H k i = some b

theorem RLe.refl (R : RC) : RLe R R := ⟨fun _ h => h, fun _ _ _ => rfl, rfl, fun _ _ _ h => h⟩
theorem RLe.trans {R R' R'' : RC} (h : RLe R R') (g : RLe R' R'') : RLe R R'' :=
  ⟨fun b hb => g.i b (h.i b hb), fun b o hb => (g.c b o (h.i b hb)).trans (h.c b o hb), g.t.trans h.t, fun k i b hb => g.h k i b (h.h k i b hb)⟩

/-- places that go on: each stays, or is left for a later one; an object's variable stays -/
def LLe (L L' : Ref → Option Pl) : Prop := ∀ id p, L id = some p → ∃ p', L' id = some p' ∧ p'.w = p.w ∧ (p' = p ∨ (p.gen < p'.gen ∧ ¬ id.isBox))

theorem LLe.refl (L : Ref → Option Pl) : LLe L L := fun _ p h => ⟨p, h, rfl, .inl rfl⟩
theorem LLe.trans {L L' L'' : Ref → Option Pl} (h : LLe L L') (g : LLe L' L'') : LLe L L'' := by
  intro id p hp
  obtain ⟨p', hp', ew, e⟩ := h id p hp
  obtain ⟨p'', hp'', ew', e'⟩ := g id p' hp'
  refine ⟨p'', hp'', ew'.trans ew, ?_⟩
  rcases e with rfl | ⟨e, hb⟩
  · exact e'
  · rcases e' with rfl | ⟨e', _⟩
    · exact .inr ⟨e, hb⟩
    · exact .inr ⟨Nat.lt_trans e e', hb⟩

/-- where objects lie, by their places -/
def hOf (L : Ref → Option Pl) (k i : Nat) : Option Nat := (L (.o k i 0)).map (·.b)

theorem LLe.box {L L' : Ref → Option Pl} (h : LLe L L') {k i : Nat} {p : Pl} (e : L (.o k i 0) = some p) : L' (.o k i 0) = some p := by
  obtain ⟨p', hp', _, rfl | ⟨_, hb⟩⟩ := h _ p e
  · exact hp'
  · exact absurd trivial hb

theorem LLe.hOf {L L' : Ref → Option Pl} (h : LLe L L') {k i b : Nat} (e : hOf L k i = some b) : hOf L' k i = some b := by
  simp only [Go.Eng.hOf, Option.map_eq_some_iff] at e ⊢
  obtain ⟨p, hp, rfl⟩ := e
  exact ⟨p, h.box hp, rfl⟩

theorem At.mono {R R' : RC} (h : RLe R R') {cs : List Value} {b o : Nat} (hb : R.I b) (ha : At R cs b o) : At R' cs b o :=
  fun j v hj => by rw [h.c b _ hb]; exact ha j v hj

theorem RepE.mono {R R' : RC} (h : RLe R R') {e : Er} {y : Value} (he : RepE R e y) : RepE R' e y := by
  cases e with
  | nil => exact he
  | s g => unfold RepE at *; rw [h.t]; exact he
  | «at» p g =>
    unfold RepE at *
    obtain ⟨b, o, rfl, hb, h1, hv, h2⟩ := he
    rw [h.t]
    exact ⟨b, o, rfl, h.i b hb, by rw [h.c b _ hb]; exact h1, hv, by rw [h.c b _ hb]; exact h2⟩

theorem RepT.mono {R R' : RC} (h : RLe R R') : ∀ (t : Ty) {x : Val t} {cs : List Value}, RepT R t x cs → RepT R' t x cs
  | .int _, _, _, hx | .bool, _, _, hx | .str, _, _, hx | .flt, _, _, hx | .unit, _, _, hx | .nat, _, _, hx => hx
  | .err, _, _, ⟨y, e, hy⟩ => ⟨y, e, hy.mono h⟩
  | .pair a b, _, _, ⟨c, d, e, hc, hd⟩ => ⟨c, d, e, RepT.mono h a hc, RepT.mono h b hd⟩
  | .st a, _, _, hx => RepT.mono h a hx
  | .sl a, _, _, ⟨ad, cap, e, hl, hr, hz⟩ => ⟨ad, cap, e, hl, fun hn => by
      obtain ⟨b, o, ea, hb, hi⟩ := hr hn
      refine ⟨b, o, ea, h.i b hb, fun i hlt => ?_⟩
      obtain ⟨c, hc, hat⟩ := hi i hlt
      exact ⟨c, RepT.mono h a hc, hat.mono h hb⟩, hz⟩
  | .ref a, _, _, ⟨b, o, e, hb, c, hc, hat⟩ => ⟨b, o, e, h.i b hb, c, RepT.mono h a hc, hat.mono h hb⟩
  | .clo _ c, _, _, ⟨cap, e, hc⟩ => ⟨cap, e, RepT.mono h c hc⟩
  | .hd k, x, _, hx => by
    cases x with
    | none => exact hx
    | some i =>
      obtain ⟨b, hb, e⟩ := hx
      exact ⟨b, h.h k i b hb, e⟩

mutual
theorem Rep.mono {R R' : RC} {L L' : Ref → Option Pl} (h : RLe R R') (g : LLe L L') : ∀ {x : AV} {y : Value}, Rep R L x y → Rep R' L' x y
  | .v _, _, hx => by simpa only [Rep] using hx
  | .er _, _, hx => by simp only [Rep] at *; exact hx.mono h
  | .agg l, _, hx => by
    simp only [Rep] at *
    obtain ⟨cs, e, hl⟩ := hx
    exact ⟨cs, e, RepL.mono h g hl⟩
  | .tup l, _, hx => by
    simp only [Rep] at *
    obtain ⟨cs, e, hl⟩ := hx
    exact ⟨cs, e, RepL.mono h g hl⟩
  | .isl t l, _, hx => by simp only [Rep] at *; exact RepT.mono h (.sl t) hx
  | .nsl t l, _, hx => by simp only [Rep] at *; exact ⟨RepT.mono h (.sl t) hx.1, hx.2⟩
  | .iptr row j, _, hx => by
    simp only [Rep] at *
    obtain ⟨b, o, e, hb, cs, hr, ha⟩ := hx
    exact ⟨b, o, e, h.i b hb, cs, RepL.mono h (LLe.refl _) hr, ha.mono h hb⟩
  | .gptr _ _, _, hx => by simpa only [Rep] using hx
  | .lsl t id i n gen, _, hx => by
    simp only [Rep] at *
    obtain ⟨p, hp, hw, hg, ad, cap, e, hl, ha, hc⟩ := hx
    obtain ⟨p', hp', ew, e'⟩ := g id p hp
    rcases e' with rfl | ⟨hlt, _⟩
    · exact ⟨p', hp', hw, hg, ad, cap, e, hl, ha, hc⟩
    · exact ⟨p', hp', ew.trans hw, by omega, ad, cap, e, hl, ha, fun he => by omega⟩
  | .lptr id i j gen, _, hx => by
    simp only [Rep] at *
    obtain ⟨p, hp, hg, q, e, hc⟩ := hx
    obtain ⟨p', hp', ew, e'⟩ := g id p hp
    rcases e' with rfl | ⟨hlt, _⟩
    · exact ⟨p', hp', hg, q, e, hc⟩
    · exact ⟨p', hp', by omega, q, e, fun he => by omega⟩
  | .iface t x, _, hx => by
    simp only [Rep] at *
    obtain ⟨z, e, hz⟩ := hx
    exact ⟨z, e, Rep.mono h g hz⟩
  | .fn f a c, _, hx => by
    simp only [Rep] at *
    obtain ⟨a', c', e, ha, hc⟩ := hx
    exact ⟨a', c', e, RepL.mono h g ha, RepL.mono h g hc⟩
  | .hd k x, _, hx => by simp only [Rep] at *; exact RepT.mono h (.hd k) hx
  | .top, _, _ => by simp only [Rep]
theorem RepL.mono {R R' : RC} {L L' : Ref → Option Pl} (h : RLe R R') (g : LLe L L') : ∀ {l : List AV} {ys : List Value}, RepL R L l ys → RepL R' L' l ys
  | [], _, hx => by simpa only [RepL] using hx
  | x :: r, _, hx => by
    simp only [RepL] at *
    obtain ⟨y, t, e, hy, ht⟩ := hx
    exact ⟨y, t, e, Rep.mono h g hy, RepL.mono h g ht⟩
end

theorem RepL.length {R : RC} {L : Ref → Option Pl} : ∀ {l : List AV} {ys : List Value}, RepL R L l ys → ys.length = l.length
  | [], _, h => by simp only [RepL] at h; simp [h]
  | _ :: _, _, h => by
    simp only [RepL] at h
    obtain ⟨y, t, rfl, _, ht⟩ := h
    simp [ht.length]

theorem RepL.get {R : RC} {L : Ref → Option Pl} : ∀ {l : List AV} {ys : List Value} (_ : RepL R L l ys) (i : Nat) (x : AV), l[i]? = some x → ∃ y, ys[i]? = some y ∧ Rep R L x y
  | [], _, _, i, x, hi => by simp at hi
  | a :: r, _, h, i, x, hi => by
    simp only [RepL] at h
    obtain ⟨y, t, rfl, hy, ht⟩ := h
    cases i with
    | zero => simp at hi; subst hi; exact ⟨y, rfl, hy⟩
    | succ i => simp at hi; obtain ⟨z, hz, hr⟩ := ht.get i x hi; exact ⟨z, by simpa using hz, hr⟩

theorem RepL.mk {R : RC} {L : Ref → Option Pl} : ∀ {l : List AV} {ys : List Value}, ys.length = l.length → (∀ (i : Nat) (x : AV) (y : Value), l[i]? = some x → ys[i]? = some y → Rep R L x y) → RepL R L l ys
  | [], ys, hl, _ => by simp only [RepL]; exact List.length_eq_zero_iff.1 (by simpa using hl)
  | x :: r, ys, hl, h => by
    cases ys with
    | nil => simp at hl
    | cons y t =>
      simp only [RepL]
      exact ⟨y, t, rfl, h 0 x y rfl rfl, RepL.mk (by simpa using hl) fun i a b ha hb => h (i + 1) a b (by simpa using ha) (by simpa using hb)⟩

theorem RepL.append {R : RC} {L : Ref → Option Pl} : ∀ {l m : List AV} {xs ys : List Value}, RepL R L l xs → RepL R L m ys → RepL R L (l ++ m) (xs ++ ys)
  | [], _, _, _, h, g => by simp only [RepL] at h; subst h; simpa using g
  | a :: r, _, _, _, h, g => by
    simp only [RepL] at h
    obtain ⟨y, t, rfl, hy, ht⟩ := h
    simp only [List.cons_append, RepL]
    exact ⟨y, _, rfl, hy, ht.append g⟩

/-- what is plain data: the cells are those of its values -/
theorem RepL.ofT {R : RC} {L : Ref → Option Pl} : ∀ (t : Ty) {x : Val t} {cs : List Value}, RepT R t x cs → RepL R L (cellsT t x) cs
  | .int k, _, _, h => by simp only [RepT] at h; subst h; simp [cellsT, RepL, Rep]
  | .bool, _, _, h => by simp only [RepT] at h; subst h; simp [cellsT, RepL, Rep]
  | .str, _, _, h => by simp only [RepT] at h; subst h; simp [cellsT, RepL, Rep]
  | .flt, _, _, h => by simp only [RepT] at h; subst h; simp [cellsT, RepL, Rep]
  | .err, _, _, h => by
    simp only [RepT] at h
    obtain ⟨y, rfl, he⟩ := h
    simp only [cellsT, RepL, Rep]
    exact ⟨y, [], rfl, he, rfl⟩
  | .unit, _, _, h => by simp only [RepT] at h; subst h; simp [cellsT, RepL]
  | .nat, _, _, h => by simp only [RepT] at h; subst h; simp [cellsT, RepL]
  | .pair a b, _, _, h => by
    simp only [RepT] at h
    obtain ⟨c, d, rfl, hc, hd⟩ := h
    simp only [cellsT]
    exact (RepL.ofT a hc).append (RepL.ofT b hd)
  | .st a, _, _, h => by simp only [RepT] at h; simp only [cellsT]; exact RepL.ofT a h
  | .sl a, l, _, h => by
    have h' := h
    simp only [RepT] at h
    obtain ⟨ad, cap, rfl, _⟩ := h
    simp only [cellsT, RepL, Rep]
    exact ⟨_, [], rfl, h', rfl⟩
  | .ref a, x, _, h => by
    simp only [RepT] at h
    obtain ⟨b, o, rfl, hb, c, hc, hat⟩ := h
    simp only [cellsT, RepL, Rep]
    exact ⟨_, [], rfl, ⟨b, o, rfl, hb, c, RepL.ofT a hc, hat⟩, rfl⟩
  | .clo f c, x, _, h => by
    simp only [RepT] at h
    obtain ⟨cap, rfl, hc⟩ := h
    simp only [cellsT, RepL, Rep]
    exact ⟨_, [], rfl, ⟨#[], cap, rfl, rfl, RepL.ofT c hc⟩, rfl⟩
  | .hd k, x, cs, h => by
    have : ∃ y, cs = [y] := by
      cases x with
      | none => exact ⟨_, h⟩
      | some i => obtain ⟨b, _, e⟩ := h; exact ⟨_, e⟩
    obtain ⟨y, rfl⟩ := this
    simp only [cellsT, RepL, Rep]
    exact ⟨y, [], rfl, h, rfl⟩


theorem RepL.split {R : RC} {L : Ref → Option Pl} : ∀ {l m : List AV} {ys : List Value}, RepL R L (l ++ m) ys → ∃ c d, ys = c ++ d ∧ RepL R L l c ∧ RepL R L m d
  | [], _, ys, h => ⟨[], ys, rfl, by simp [RepL], by simpa using h⟩
  | x :: r, m, ys, h => by
    simp only [List.cons_append, RepL] at h
    obtain ⟨y, t, rfl, hy, ht⟩ := h
    obtain ⟨c, d, rfl, hc, hd⟩ := ht.split
    exact ⟨y :: c, d, rfl, by simp only [RepL]; exact ⟨y, c, rfl, hy, hc⟩, hd⟩

theorem RepL.toT {R : RC} {L : Ref → Option Pl} : ∀ (t : Ty) {x : Val t} {cs : List Value}, RepL R L (cellsT t x) cs → RepT R t x cs
  | .int k, _, _, h => by simp only [cellsT, RepL, Rep] at h; obtain ⟨y, t, rfl, rfl, rfl⟩ := h; rfl
  | .bool, _, _, h => by simp only [cellsT, RepL, Rep] at h; obtain ⟨y, t, rfl, rfl, rfl⟩ := h; rfl
  | .str, _, _, h => by simp only [cellsT, RepL, Rep] at h; obtain ⟨y, t, rfl, rfl, rfl⟩ := h; rfl
  | .flt, _, _, h => by simp only [cellsT, RepL, Rep] at h; obtain ⟨y, t, rfl, rfl, rfl⟩ := h; rfl
  | .err, _, _, h => by simp only [cellsT, RepL, Rep] at h; obtain ⟨y, t, rfl, he, rfl⟩ := h; exact ⟨y, rfl, he⟩
  | .unit, _, _, h => by simp only [cellsT, RepL] at h; exact h
  | .nat, _, _, h => by simp only [cellsT, RepL] at h; exact h
  | .pair a b, _, _, h => by
    simp only [cellsT] at h
    obtain ⟨c, d, rfl, hc, hd⟩ := h.split
    exact ⟨c, d, rfl, RepL.toT a hc, RepL.toT b hd⟩
  | .st a, _, _, h => by simp only [cellsT] at h; simp only [RepT]; exact RepL.toT a h
  | .sl a, l, _, h => by simp only [cellsT, RepL, Rep] at h; obtain ⟨y, t, rfl, he, rfl⟩ := h; exact he
  | .ref a, x, _, h => by
    simp only [cellsT, RepL, Rep] at h
    obtain ⟨y, t, rfl, ⟨b, o, rfl, hb, cs, hr, ha⟩, rfl⟩ := h
    exact ⟨b, o, rfl, hb, cs, RepL.toT a hr, ha⟩
  | .clo f c, x, _, h => by
    simp only [cellsT, RepL, Rep] at h
    obtain ⟨y, t, rfl, ⟨a', c', rfl, ha, hc⟩, rfl⟩ := h
    refine ⟨c', ?_, RepL.toT c hc⟩
    have : a' = #[] := by simpa using ha
    subst this
    rfl
  | .hd k, x, _, h => by simp only [cellsT, RepL, Rep] at h; obtain ⟨y, t, rfl, he, rfl⟩ := h; exact he

theorem RepT.length {R : RC} : ∀ (t : Ty) {x : Val t} {cs : List Value}, RepT R t x cs → cs.length = t.size
  | .int k, _, _, h => by simp only [RepT] at h; subst h; rfl
  | .bool, _, _, h => by simp only [RepT] at h; subst h; rfl
  | .str, _, _, h => by simp only [RepT] at h; subst h; rfl
  | .flt, _, _, h => by simp only [RepT] at h; subst h; rfl
  | .err, _, _, h => by obtain ⟨y, rfl, _⟩ := h; rfl
  | .unit, _, _, h => by simp only [RepT] at h; subst h; rfl
  | .nat, _, _, h => by simp only [RepT] at h; subst h; rfl
  | .pair a b, _, _, h => by
    obtain ⟨c, d, rfl, hc, hd⟩ := h
    simp [Ty.size, hc.length, hd.length]
  | .st a, _, _, h => by simp only [RepT] at h; simp only [Ty.size]; exact RepT.length a h
  | .sl a, l, _, h => by obtain ⟨_, _, rfl, _⟩ := h; rfl
  | .ref a, x, _, h => by obtain ⟨b, o, rfl, _⟩ := h; rfl
  | .clo f c, x, _, h => by obtain ⟨cap, rfl, _⟩ := h; rfl
  | .hd k, x, _, h => by
    cases x with
    | none => have h : _ = _ := h; rw [h]; rfl
    | some i => obtain ⟨b, _, rfl⟩ := h; rfl

theorem cellsT_length : ∀ (t : Ty) (x : Val t), (cellsT t x).length = t.size
  | .int _, _ | .bool, _ | .str, _ | .flt, _ | .err, _ | .unit, _ | .nat, _ | .sl _, _ | .ref _, _ | .clo _ _, _ | .hd _, _ => rfl
  | .pair a b, x => by simp [cellsT, Ty.size, cellsT_length a, cellsT_length b]
  | .st a, x => by simp only [cellsT, Ty.size]; exact cellsT_length a x

theorem sameK_eq {a b : IntKind} (h : sameK a b = true) : a = b := by
  cases a <;> cases b <;> first | rfl | cases h

theorem decE_sound {R : RC} {L : Ref → Option Pl} {x : AV} {e : Er} {y : Value} (h : decE R.T.N x = some e) (hx : Rep R L x y) : RepE R e y := by
  unfold decE at h
  split at h
  · injection h with h; subst h; simpa only [Rep] using hx
  · injection h with h; subst h; simpa only [Rep, RepE] using hx
  · rename_i t p g
    split at h
    · rename_i ht
      injection h with h; subst h; subst ht
      simp only [Rep, RepL, RepE] at hx
      obtain ⟨z, rfl, b, o, rfl, hb, cs, ⟨y1, t1, rfl, rfl, y2, t2, rfl, ⟨hv, rfl⟩, rfl⟩, hat⟩ := hx
      exact ⟨b, o, rfl, hb, hat 0 _ rfl, hv, hat 1 _ rfl⟩
    · cases h
  · cases h

theorem decI_sound {R : RC} {L : Ref → Option Pl} {k : IntKind} {l : List AV} {x : Int} {r : List AV} {ys : List Value} (h : decI k l = some (x, r)) (hl : RepL R L l ys) :
    ∃ d, ys = .int k x :: d ∧ RepL R L r d := by
  unfold decI at h
  split at h
  · split at h
    · rename_i hk
      have := sameK_eq hk
      simp only [Option.some.injEq, Prod.mk.injEq] at h
      obtain ⟨rfl, rfl⟩ := h
      subst this
      simp only [RepL, Rep] at hl
      obtain ⟨y, t, rfl, rfl, ht⟩ := hl
      exact ⟨t, rfl, ht⟩
    · cases h
  · cases h

theorem decB_sound {R : RC} {L : Ref → Option Pl} {l : List AV} {x : Bool} {r : List AV} {ys : List Value} (h : decB l = some (x, r)) (hl : RepL R L l ys) :
    ∃ d, ys = .bool x :: d ∧ RepL R L r d := by
  unfold decB at h
  split at h
  · simp only [Option.some.injEq, Prod.mk.injEq] at h
    obtain ⟨rfl, rfl⟩ := h
    simp only [RepL, Rep] at hl
    obtain ⟨y, t, rfl, rfl, ht⟩ := hl
    exact ⟨t, rfl, ht⟩
  · cases h

theorem decS_sound {R : RC} {L : Ref → Option Pl} {l : List AV} {x : ByteArray} {r : List AV} {ys : List Value} (h : decS l = some (x, r)) (hl : RepL R L l ys) :
    ∃ d, ys = .string x :: d ∧ RepL R L r d := by
  unfold decS at h
  split at h
  · simp only [Option.some.injEq, Prod.mk.injEq] at h
    obtain ⟨rfl, rfl⟩ := h
    simp only [RepL, Rep] at hl
    obtain ⟨y, t, rfl, rfl, ht⟩ := hl
    exact ⟨t, rfl, ht⟩
  · cases h

theorem decF_sound {R : RC} {L : Ref → Option Pl} {l : List AV} {x : Nat} {r : List AV} {ys : List Value} (h : decF l = some (x, r)) (hl : RepL R L l ys) :
    ∃ d, ys = .float .f64 x :: d ∧ RepL R L r d := by
  unfold decF at h
  split at h
  · simp only [Option.some.injEq, Prod.mk.injEq] at h
    obtain ⟨rfl, rfl⟩ := h
    simp only [RepL, Rep] at hl
    obtain ⟨y, t, rfl, rfl, ht⟩ := hl
    exact ⟨t, rfl, ht⟩
  · cases h

theorem decEr_sound {R : RC} {L : Ref → Option Pl} {l : List AV} {x : Er} {r : List AV} {ys : List Value} (h : decEr R.T.N l = some (x, r)) (hl : RepL R L l ys) :
    ∃ y d, ys = y :: d ∧ RepE R x y ∧ RepL R L r d := by
  unfold decEr at h
  split at h
  · split at h
    · rename_i hk
      simp only [Option.some.injEq, Prod.mk.injEq] at h
      obtain ⟨rfl, rfl⟩ := h
      simp only [RepL] at hl
      obtain ⟨y, t, rfl, hy, ht⟩ := hl
      exact ⟨y, t, rfl, decE_sound hk hy, ht⟩
    · cases h
  · cases h

theorem decSl_sound {R : RC} {L : Ref → Option Pl} {a : Ty} {l : List AV} {x : List (Val a)} {r : List AV} {ys : List Value} (h : decSl a l = some (x, r)) (hl : RepL R L l ys) :
    ∃ y d, ys = y :: d ∧ RepT R (.sl a) x [y] ∧ RepL R L r d := by
  unfold decSl at h
  split at h
  · split at h
    · rename_i hk
      subst hk
      simp only [Option.some.injEq, Prod.mk.injEq] at h
      obtain ⟨rfl, rfl⟩ := h
      simp only [RepL, Rep] at hl
      obtain ⟨y, t, rfl, hy, ht⟩ := hl
      exact ⟨y, t, rfl, hy, ht⟩
    · cases h
  · simp only [Option.some.injEq, Prod.mk.injEq] at h
    obtain ⟨rfl, rfl⟩ := h
    simp only [RepL, Rep] at hl
    obtain ⟨y, t, rfl, rfl, ht⟩ := hl
    exact ⟨_, t, rfl, ⟨none, 0, rfl, Nat.le_refl _, fun hn => absurd rfl hn, fun _ => rfl⟩, ht⟩
  · cases h

theorem decT_sound {R : RC} {L : Ref → Option Pl} : ∀ (t : Ty) {l : List AV} {x : Val t} {r : List AV} {ys : List Value}, decT R.T.N t l = some (x, r) → RepL R L l ys →
    ∃ c d, ys = c ++ d ∧ RepT R t x c ∧ RepL R L r d
  | .int k, l, x, r, ys, h, hl => by
    obtain ⟨d, rfl, hd⟩ := decI_sound (by simpa only [decT] using h) hl
    exact ⟨[_], d, rfl, rfl, hd⟩
  | .bool, l, x, r, ys, h, hl => by
    obtain ⟨d, rfl, hd⟩ := decB_sound (by simpa only [decT] using h) hl
    exact ⟨[_], d, rfl, rfl, hd⟩
  | .str, l, x, r, ys, h, hl => by
    obtain ⟨d, rfl, hd⟩ := decS_sound (by simpa only [decT] using h) hl
    exact ⟨[_], d, rfl, rfl, hd⟩
  | .flt, l, x, r, ys, h, hl => by
    obtain ⟨d, rfl, hd⟩ := decF_sound (by simpa only [decT] using h) hl
    exact ⟨[_], d, rfl, rfl, hd⟩
  | .err, l, x, r, ys, h, hl => by
    obtain ⟨y, d, rfl, hy, hd⟩ := decEr_sound (by simpa only [decT] using h) hl
    exact ⟨[y], d, rfl, ⟨y, rfl, hy⟩, hd⟩
  | .unit, l, x, r, ys, h, hl => by
    simp only [decT, Option.some.injEq, Prod.mk.injEq] at h
    obtain ⟨_, rfl⟩ := h
    exact ⟨[], ys, rfl, rfl, hl⟩
  | .nat, l, x, r, ys, h, hl => by simp only [decT] at h; cases h
  | .pair a b, l, x, r, ys, h, hl => by
    simp only [decT] at h
    split at h
    · rename_i x1 r1 h1
      split at h
      · rename_i y1 r2 h2
        simp only [Option.some.injEq, Prod.mk.injEq] at h
        obtain ⟨rfl, rfl⟩ := h
        obtain ⟨c, d, rfl, hc, hd⟩ := decT_sound a h1 hl
        obtain ⟨c', d', rfl, hc', hd'⟩ := decT_sound b h2 hd
        exact ⟨c ++ c', d', by simp, ⟨c, c', rfl, hc, hc'⟩, hd'⟩
      · cases h
    · cases h
  | .st a, l, x, r, ys, h, hl => by
    simp only [decT] at h
    exact decT_sound a h hl
  | .sl a, l, x, r, ys, h, hl => by
    obtain ⟨y, d, rfl, hy, hd⟩ := decSl_sound (by simpa only [decT] using h) hl
    exact ⟨[y], d, rfl, hy, hd⟩
  | .ref a, l, x, r, ys, h, hl => by
    simp only [decT] at h
    split at h
    · rename_i row r1 h1
      split at h
      · rename_i x1 h2
        simp only [Option.some.injEq, Prod.mk.injEq] at h
        obtain ⟨rfl, rfl⟩ := h
        unfold decRef at h1
        split at h1
        · simp only [Option.some.injEq, Prod.mk.injEq] at h1
          obtain ⟨rfl, rfl⟩ := h1
          simp only [RepL, Rep] at hl
          obtain ⟨y, t, rfl, ⟨b, o, rfl, hb, cs, hr, ha⟩, ht⟩ := hl
          obtain ⟨c, d, rfl, hc, hd⟩ := decT_sound a h2 hr
          simp only [RepL] at hd
          subst hd
          exact ⟨[_], t, rfl, ⟨b, o, rfl, hb, c, hc, by simpa using ha⟩, ht⟩
        · cases h1
      · cases h
    · cases h
  | .clo f cp, l, x, r, ys, h, hl => by
    simp only [decT] at h
    split at h
    · rename_i row r1 h1
      split at h
      · rename_i x1 h2
        simp only [Option.some.injEq, Prod.mk.injEq] at h
        obtain ⟨rfl, rfl⟩ := h
        unfold decClo at h1
        split at h1
        · split at h1
          · rename_i hg
            subst hg
            simp only [Option.some.injEq, Prod.mk.injEq] at h1
            obtain ⟨rfl, rfl⟩ := h1
            simp only [RepL, Rep] at hl
            obtain ⟨y, t, rfl, ⟨a', c', rfl, ha, hc'⟩, ht⟩ := hl
            obtain ⟨c, d, e, hc, hd⟩ := decT_sound cp h2 hc'
            simp only [RepL] at hd
            subst hd
            have : a' = #[] := by simpa using ha
            subst this
            exact ⟨[_], t, rfl, ⟨c', rfl, by rw [e]; simpa using hc⟩, ht⟩
          · cases h1
        · cases h1
      · cases h
    · cases h
  | .hd k, l, x, r, ys, h, hl => by
    simp only [decT] at h
    unfold decHd at h
    split at h
    · split at h
      · rename_i hk
        have hk := of_decide_eq_true hk
        subst hk
        simp only [Option.some.injEq, Prod.mk.injEq] at h
        obtain ⟨rfl, rfl⟩ := h
        simp only [RepL, Rep] at hl
        obtain ⟨y, t, rfl, he, ht⟩ := hl
        exact ⟨[_], t, rfl, he, ht⟩
      · cases h
    · simp only [Option.some.injEq, Prod.mk.injEq] at h
      obtain ⟨rfl, rfl⟩ := h
      simp only [RepL, Rep] at hl
      obtain ⟨y, t, rfl, rfl, ht⟩ := hl
      exact ⟨[_], t, rfl, rfl, ht⟩
    · cases h

end Go.Eng
