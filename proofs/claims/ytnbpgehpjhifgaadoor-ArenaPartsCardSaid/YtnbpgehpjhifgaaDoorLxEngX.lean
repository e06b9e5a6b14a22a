/-
  The abstract machine, part 23: the state at a loop's head, told as plain data.
-/
import Derived.Test.YtnbpgehpjhifgaaDoorLxEngW
namespace Go.Eng

inductive Slot where
  | dead
  | data (t : Ty)      -- plain data
  | sl (t : Ty)        -- a slice of the call's own
  | box (r : List Cell)  -- a variable of the call's own
  | ag (r : List Cell)   -- an aggregate
  | bor (t : Ty) (k q : Nat)   -- a piece of a slice of an object's own

/-- how many slices lie there -/
def rowsN : List Cell → Nat
  | [] => 0
  | .d _ :: r => rowsN r
  | .sl _ :: r => rowsN r + 1

def encRow : (cs : List Cell) → Nat → Val (rowsTy cs) → List AV
  | [], _, _ => []
  | .d t :: r, b, x => cellsT t x.1 ++ encRow r b x.2
  | .sl t :: r, b, x => .lsl t (.l b) 0 (List.length x.1) 0 :: encRow r (b + 1) x.2

def encRowH : (cs : List Cell) → Val (rowsTy cs) → List (Option Blk)
  | [], _ => []
  | .d _ :: r, x => encRowH r x.2
  | .sl t :: r, x => some { ct := .sl t x.1, gen := 0, frozen := false } :: encRowH r x.2

def slotsTy : List Slot → Ty
  | [] => .unit
  | .dead :: r => slotsTy r
  | .data t :: r => .pair t (slotsTy r)
  | .sl t :: r => .pair (.sl t) (slotsTy r)
  | .box cs :: r => .pair (rowsTy cs) (slotsTy r)
  | .ag cs :: r => .pair (rowsTy cs) (slotsTy r)
  | .bor _ _ _ :: r => .pair (.pair .nat (.pair .nat .nat)) (slotsTy r)

def encEnv : (sl : List Slot) → Nat → Val (slotsTy sl) → List AV
  | [], _, _ => []
  | .dead :: r, b, x => .top :: encEnv r b x
  | .data t :: r, b, x => encA t x.1 :: encEnv r b x.2
  | .sl t :: r, b, x => .lsl t (.l b) 0 (List.length x.1) 0 :: encEnv r (b + 1) x.2
  | .box cs :: r, b, x => .lptr (.l b) 0 0 0 :: encEnv r (b + 1 + rowsN cs) x.2
  | .ag cs :: r, b, x => .agg (encRow cs b x.1) :: encEnv r (b + rowsN cs) x.2
  | .bor t k q :: r, b, x => .lsl t (.o k x.1.1 q) x.1.2.1 x.1.2.2 0 :: encEnv r b x.2

def encHeap : (sl : List Slot) → Nat → Val (slotsTy sl) → List (Option Blk)
  | [], _, _ => []
  | .dead :: r, b, x => encHeap r b x
  | .data _ :: r, b, x => encHeap r b x.2
  | .sl t :: r, b, x => some { ct := .sl t x.1, gen := 0, frozen := false } :: encHeap r (b + 1) x.2
  | .box cs :: r, b, x => some { ct := .box (encRow cs (b + 1) x.1), gen := 0, frozen := false } :: (encRowH cs x.1 ++ encHeap r (b + 1 + rowsN cs) x.2)
  | .ag cs :: r, b, x => encRowH cs x.1 ++ encHeap r (b + rowsN cs) x.2
  | .bor _ _ _ :: r, b, x => encHeap r b x.2

/-- a row's data told as values; its slices stay -/
def expRow : List Cell → List AV → HM (List AV × List Ref)
  | [], row => .ret (row, [])
  | .d t :: cs, row => (exportN.exportL 8 (row.take t.size)).bind fun (y, f) => (expRow cs (row.drop t.size)).bind fun (r, f') => .ret (y ++ r, f ++ f')
  | .sl _ :: cs, row => match row with
    | x :: r => (expRow cs r).bind fun (r', f) => .ret (x :: r', f)
    | [] => .fail

/-- an aggregate's data told as values -/
def expAg (cs : List Cell) : AV → HM (AV × List Ref)
  | .agg row => (expRow cs row).bind fun (r, f) => .ret (.agg r, f)
  | _ => .fail

/-- what a variable's data come to -/
def expBox (cs : List Cell) : AV → HM (List Ref)
  | .lptr (.l id) _ _ _ => .rd (.l id) fun b => match b.ct with
    | .box row => (expRow cs row).bind fun (_, f) => .ret f
    | _ => .fail
  | _ => .fail

def expA : List Slot → List AV → HM (List AV × List Ref)
  | [], [] => .ret ([], [])
  | .data _ :: sl, x :: env => (exportN 8 x).bind fun (y, f) => (expA sl env).bind fun (r, f') => .ret (y :: r, f ++ f')
  | .dead :: sl, _ :: env => (expA sl env).bind fun (r, f) => .ret (.top :: r, f)
  | .sl _ :: sl, x :: env => (expA sl env).bind fun (r, f) => .ret (x :: r, f)
  | .bor _ _ _ :: sl, x :: env => (expA sl env).bind fun (r, f) => .ret (x :: r, f)
  | .box cs :: sl, x :: env => (expBox cs x).bind fun f => (expA sl env).bind fun (r, f') => .ret (x :: r, f ++ f')
  | .ag cs :: sl, x :: env => (expAg cs x).bind fun (y, f) => (expA sl env).bind fun (r, f') => .ret (y :: r, f ++ f')
  | _, _ => .fail

/-- a slice of the call's own: its elements; the blocks that are taken -/
def takeSl (t : Ty) (u : List Nat) : AV → HM (List (Val t) × List Nat)
  | .v (.slice none 0 0) => .ret ([], u)
  | .lsl _ (.l id) i n g => match u.contains id with
    | true => .fail
    | false => .rd (.l id) fun b => if g = b.gen ∧ b.frozen = false ∧ i = 0 then (match b.ct with
      | .sl t' l => if h : t' = t then .chk (decide (n = l.length)) (.ret (castL h l, id :: u)) else .fail
      | _ => .fail) else .fail
  | _ => .fail

/-- a piece of a slice of an object's own (of nothing: one of no length) -/
def takeBor (t : Ty) (k q : Nat) : AV → HM (Nat × Nat × Nat)
  | .lsl _ (.o k' i q') lo n g => match Nat.beq k' k && Nat.beq q' q && Nat.blt 0 q with
    | true => .rd (.o k' i q') fun b => if g = b.gen then (match b.ct with
      | .sl t' _ => if t' = t then .ret (i, lo, n) else .fail
      | _ => .fail) else .fail
    | false => .fail
  | .v (.slice none 0 0) => .rd (.l k) fun b => match b.ct with
    | .tab cs l _ _ => match Nat.blt 0 q, slO q cs 1 (dfl (rowsTy cs)) with
      | true, some ⟨t', _⟩ => if t' = t then .chk (decide (0 < l.length)) (.ret (0, 0, 0)) else .fail
      | _, _ => .fail
    | _ => .fail
  | _ => .fail

/-- what lies in a variable -/
def takeRow (N : Names) : (cs : List Cell) → List Nat → List AV → HM (Val (rowsTy cs) × List Nat)
  | [], u, row => match row with
    | [] => .ret ((), u)
    | _ => .fail
  | .d t :: cs, u, row => match decT N t row with
    | some (y, r) => (takeRow N cs u r).bind fun (z, u') => .ret ((y, z), u')
    | none => .fail
  | .sl t :: cs, u, row => match row with
    | x :: r => (takeSl t u x).bind fun (l, u1) => (takeRow N cs u1 r).bind fun (z, u') => .ret ((l, z), u')
    | [] => .fail

/-- a variable of the call's own -/
def takeBox (N : Names) (cs : List Cell) (hd : List Ref) (u : List Nat) : AV → HM (Val (rowsTy cs) × List Nat)
  | .lptr (.l id) i j g => match u.contains id with
    | true => .fail
    | false => .rd (.l id) fun b => if g = b.gen ∧ b.frozen = false ∧ i = 0 ∧ j = 0 then (match b.ct with
      | .box row => (expRow cs row).bind fun (row', f) => match f.all hd.contains with
        | true => takeRow N cs (id :: u) row'
        | false => .fail
      | _ => .fail) else .fail
  | _ => .fail

/-- an aggregate -/
def takeAg (N : Names) (cs : List Cell) (u : List Nat) : AV → HM (Val (rowsTy cs) × List Nat)
  | .agg row => takeRow N cs u row
  | _ => .fail

def nextA {α : Type} (k : AV → List AV → HM α) : List AV → HM α
  | [] => .fail
  | x :: r => k x r

def decE' (N : Names) (hd : List Ref) : (sl : List Slot) → List Nat → List AV → HM (Val (slotsTy sl))
  | [], _ => fun env => match env with
    | [] => .ret ()
    | _ => .fail
  | .dead :: sl, u => nextA fun _ env => decE' N hd sl u env
  | .data t :: sl, u => nextA fun x env => match decV N t x with
    | some y => (decE' N hd sl u env).bind fun r => .ret (y, r)
    | none => .fail
  | .sl t :: sl, u => nextA fun x env => (takeSl t u x).bind fun (l, u') => (decE' N hd sl u' env).bind fun r => .ret (l, r)
  | .box cs :: sl, u => nextA fun x env => (takeBox N cs hd u x).bind fun (y, u') => (decE' N hd sl u' env).bind fun r => .ret (y, r)
  | .ag cs :: sl, u => nextA fun x env => (takeAg N cs u x).bind fun (y, u') => (decE' N hd sl u' env).bind fun r => .ret (y, r)
  | .bor t k q :: sl, u => nextA fun x env => (takeBor t k q x).bind fun y => (decE' N hd sl u env).bind fun r => .ret (y, r)

/-! The objects. -/

/-- they are told as lists of rows -/
def tabsTy (ks : List (List Cell)) : List Nat → Ty
  | [] => .unit
  | k :: r => .pair (.sl (rowsTy (ks.getD k []))) (tabsTy ks r)

def tabB (cs : List Cell) (l : List (Val (rowsTy cs))) : Blk := { ct := .tab cs l [] (List.replicate ((ownQs cs 1).length + 1) 0), gen := 0, frozen := false }

def encTabs (ks : List (List Cell)) : (tk : List Nat) → Val (tabsTy ks tk) → List Blk
  | [], _ => []
  | k :: r, x => tabB (ks.getD k []) x.1 :: encTabs ks r x.2

def castR {a b : List Cell} (h : a = b) (l : List (Val (rowsTy a))) : List (Val (rowsTy b)) := h ▸ l

/-- a kind's objects -/
def tabOf (cs : List Cell) (b : Blk) : HM (List (Val (rowsTy cs))) := match b.ct with
  | .tab cs' l st _ => if h : cs' = cs then (match st.isEmpty with
    | true => .ret (castR h l)
    | false => .fail) else .fail
  | _ => .fail

def decTabs (ks : List (List Cell)) : (tk : List Nat) → HM (Val (tabsTy ks tk))
  | [] => .ret ()
  | k :: r => .rd (.l k) fun b => (tabOf (ks.getD k []) b).bind fun l => (decTabs ks r).bind fun z => .ret (l, z)

/-- of these there are none -/
def noTabs : List Nat → HM Unit
  | [] => .ret ()
  | k :: r => .rd (.l k) fun b => match b.ct with
    | .tab _ l _ _ => (match l with
      | [] => noTabs r
      | _ => .fail)
    | _ => .fail

def others (n : Nat) (tk : List Nat) : List Nat := (List.range n).filter fun k => !(tk.any (Nat.beq k))

def Ref.isL : Ref → Bool
  | .l _ => true
  | .o _ _ _ => false

def lids : List Ref → List Nat
  | [] => []
  | .l id :: r => id :: lids r
  | .o _ _ _ :: r => lids r

def noTab : Option Blk → Bool
  | some b => !b.isTab
  | none => true

/-- a state: objects, and what the variables bear -/
abbrev StV (E : Env) (tk : List Nat) (sl : List Slot) : Type := Val (tabsTy E.kinds tk) × Val (slotsTy sl)

def decSlots (E : Env) (tk : List Nat) (sl : List Slot) (s : St) : HM (StV E tk sl) :=
  (expA sl s.env).bind fun (env, ids) => match ids.all Ref.isL && (s.heap.drop E.kinds.length).all noTab with
    | true => (noTabs (others E.kinds.length tk)).bind fun _ => (decTabs E.kinds tk).bind fun t => (decE' E.toNames ids sl (lids ids) env).bind fun y => .ret (t, y)
    | false => .fail

/-- … new blocks from a number on -/
def encAt (E : Env) (tk : List Nat) (sl : List Slot) (b0 : Nat) (x : StV E tk sl) : St := ⟨encEnv sl b0 x.2, outH E tk (encTabs E.kinds tk x.1) b0 (encHeap sl b0 x.2)⟩

def encSlots (E : Env) (tk : List Nat) (sl : List Slot) (x : StV E tk sl) : St := encAt E tk sl E.kinds.length x

section
variable {c : Ctx} {I : Nat → Prop} {L : Ref → Option Pl} {s : St} {a : Act} {w : World} {call : CallF}

theorem expRow_sound (h : Sim c I L s a w) : ∀ {cs : List Cell} {row y : List AV} {ids : List Ref} {rs : List Nat} {v : List Value}, (expRow cs row).run call s.rd = some ((y, ids), rs) → RepL (c.rc I L w) L row v →
    (∀ id, id ∈ ids → ∃ p, L id = some p) ∧
    ∀ I' : Nat → Prop, (∀ b, I b → I' b) → (∀ id, id ∈ ids → ∀ p, L id = some p → p.virt = false → I' p.b) → RepL (c.rc I' L w) L y v
  | [], row, y, ids, rs, v, e, hx => by
    obtain ⟨h1, rfl⟩ := HM.run_ret e
    simp only [Prod.mk.injEq] at h1
    obtain ⟨rfl, rfl⟩ := h1
    exact ⟨fun id hid => (by simp at hid), fun I' hi _ => hx.mono (rle_of_heap hi (fun _ _ => rfl) (LLe.refl L)) (LLe.refl L)⟩
  | .d t :: cs, row, y, ids, rs, v, e, hx => by
    simp only [expRow] at e
    obtain ⟨⟨y1, f1⟩, r1, r2, e1, e2, rfl⟩ := HM.run_bind e
    obtain ⟨⟨y2, f2⟩, r3, r4, e3, e4, rfl⟩ := HM.run_bind e2
    obtain ⟨h1, rfl⟩ := HM.run_ret e4
    simp only [Prod.mk.injEq] at h1
    obtain ⟨rfl, rfl⟩ := h1
    rw [← List.take_append_drop t.size row] at hx
    obtain ⟨v1, v2, rfl, hv1, hv2⟩ := hx.split
    obtain ⟨g1, g2⟩ := exportL_sound h 8 e1 hv1
    obtain ⟨g3, g4⟩ := expRow_sound h e3 hv2
    refine ⟨fun id hid => ?_, fun I' hi hh => ?_⟩
    · rcases List.mem_append.1 hid with hid | hid
      · obtain ⟨p, hp, _⟩ := (g1 id hid).2; exact ⟨p, hp⟩
      · exact g3 id hid
    · exact (g2 I' hi fun id hid => hh id (List.mem_append_left _ hid)).noL.append (g4 I' hi fun id hid => hh id (List.mem_append_right _ hid))
  | .sl t :: cs, [], y, ids, rs, v, e, hx => by cases e
  | .sl t :: cs, x :: row, y, ids, rs, v, e, hx => by
    simp only [expRow] at e
    obtain ⟨⟨y2, f2⟩, r3, r4, e3, e4, rfl⟩ := HM.run_bind e
    obtain ⟨h1, rfl⟩ := HM.run_ret e4
    simp only [Prod.mk.injEq] at h1
    obtain ⟨rfl, rfl⟩ := h1
    simp only [RepL] at hx
    obtain ⟨z, tl, rfl, hz, ht⟩ := hx
    obtain ⟨g3, g4⟩ := expRow_sound h e3 ht
    refine ⟨g3, fun I' hi hh => ?_⟩
    simp only [RepL]
    exact ⟨z, tl, rfl, hz.mono (rle_of_heap hi (fun _ _ => rfl) (LLe.refl L)) (LLe.refl L), g4 I' hi hh⟩

theorem expA_sound (h : Sim c I L s a w) : ∀ {sl : List Slot} {x y : List AV} {ids : List Ref} {rs : List Nat} {v : List Value}, (expA sl x).run call s.rd = some ((y, ids), rs) → RepL (c.rc I L w) L x v →
    (∀ id, id ∈ ids → ∃ p, L id = some p) ∧
    ∀ I' : Nat → Prop, (∀ b, I b → I' b) → (∀ id, id ∈ ids → ∀ p, L id = some p → p.virt = false → I' p.b) → RepL (c.rc I' L w) L y v
  | [], [], y, ids, rs, v, e, hx => by
    obtain ⟨h1, rfl⟩ := HM.run_ret e
    simp only [Prod.mk.injEq] at h1
    obtain ⟨rfl, rfl⟩ := h1
    exact ⟨fun id hid => (by simp at hid), fun I' _ _ => by simpa only [RepL] using hx⟩
  | .data t :: sl, x :: env, y, ids, rs, v, e, hx => by
    simp only [expA] at e
    obtain ⟨⟨y1, f1⟩, r1, r2, e1, e2, rfl⟩ := HM.run_bind e
    obtain ⟨⟨y2, f2⟩, r3, r4, e3, e4, rfl⟩ := HM.run_bind e2
    obtain ⟨h1, rfl⟩ := HM.run_ret e4
    simp only [Prod.mk.injEq] at h1
    obtain ⟨rfl, rfl⟩ := h1
    simp only [RepL] at hx
    obtain ⟨z, tl, rfl, hz, ht⟩ := hx
    obtain ⟨g1, g2⟩ := exportN_sound h 8 e1 hz
    obtain ⟨g3, g4⟩ := expA_sound h e3 ht
    refine ⟨fun id hid => ?_, fun I' hi hh => ?_⟩
    · rcases List.mem_append.1 hid with hid | hid
      · obtain ⟨p, hp, _⟩ := (g1 id hid).2; exact ⟨p, hp⟩
      · exact g3 id hid
    · simp only [RepL]
      exact ⟨z, tl, rfl, (g2 I' hi fun id hid => hh id (List.mem_append_left _ hid)).noL, g4 I' hi fun id hid => hh id (List.mem_append_right _ hid)⟩
  | .dead :: sl, x :: env, y, ids, rs, v, e, hx => by
    simp only [expA] at e
    obtain ⟨⟨y2, f2⟩, r3, r4, e3, e4, rfl⟩ := HM.run_bind e
    obtain ⟨h1, rfl⟩ := HM.run_ret e4
    simp only [Prod.mk.injEq] at h1
    obtain ⟨rfl, rfl⟩ := h1
    simp only [RepL] at hx
    obtain ⟨z, tl, rfl, hz, ht⟩ := hx
    obtain ⟨g3, g4⟩ := expA_sound h e3 ht
    refine ⟨g3, fun I' hi hh => ?_⟩
    simp only [RepL]
    exact ⟨z, tl, rfl, by simp [Rep], g4 I' hi hh⟩
  | .sl t :: sl, x :: env, y, ids, rs, v, e, hx => by
    simp only [expA] at e
    obtain ⟨⟨y2, f2⟩, r3, r4, e3, e4, rfl⟩ := HM.run_bind e
    obtain ⟨h1, rfl⟩ := HM.run_ret e4
    simp only [Prod.mk.injEq] at h1
    obtain ⟨rfl, rfl⟩ := h1
    simp only [RepL] at hx
    obtain ⟨z, tl, rfl, hz, ht⟩ := hx
    obtain ⟨g3, g4⟩ := expA_sound h e3 ht
    refine ⟨g3, fun I' hi hh => ?_⟩
    simp only [RepL]
    exact ⟨z, tl, rfl, hz.mono (rle_of_heap hi (fun _ _ => rfl) (LLe.refl L)) (LLe.refl L), g4 I' hi hh⟩
  | .bor t k q :: sl, x :: env, y, ids, rs, v, e, hx => by
    simp only [expA] at e
    obtain ⟨⟨y2, f2⟩, r3, r4, e3, e4, rfl⟩ := HM.run_bind e
    obtain ⟨h1, rfl⟩ := HM.run_ret e4
    simp only [Prod.mk.injEq] at h1
    obtain ⟨rfl, rfl⟩ := h1
    simp only [RepL] at hx
    obtain ⟨z, tl, rfl, hz, ht⟩ := hx
    obtain ⟨g3, g4⟩ := expA_sound h e3 ht
    refine ⟨g3, fun I' hi hh => ?_⟩
    simp only [RepL]
    exact ⟨z, tl, rfl, hz.mono (rle_of_heap hi (fun _ _ => rfl) (LLe.refl L)) (LLe.refl L), g4 I' hi hh⟩
  | .box cs :: sl, x :: env, y, ids, rs, v, e, hx => by
    simp only [expA] at e
    obtain ⟨f1, r1, r2, e1, e2, rfl⟩ := HM.run_bind e
    obtain ⟨⟨y2, f2⟩, r3, r4, e3, e4, rfl⟩ := HM.run_bind e2
    obtain ⟨h1, rfl⟩ := HM.run_ret e4
    simp only [Prod.mk.injEq] at h1
    obtain ⟨rfl, rfl⟩ := h1
    simp only [RepL] at hx
    obtain ⟨z, tl, rfl, hz, ht⟩ := hx
    obtain ⟨g3, g4⟩ := expA_sound h e3 ht
    refine ⟨fun id hid => ?_, fun I' hi hh => ?_⟩
    · rcases List.mem_append.1 hid with hid | hid
      · unfold expBox at e1
        split at e1
        · obtain ⟨b, l', hb, e1', rfl⟩ := HM.run_rd e1
          clear e1
          split at e1'
          · rename_i row hct
            obtain ⟨⟨y3, f3⟩, r5, r6, e5, e6, rfl⟩ := HM.run_bind e1'
            obtain ⟨rfl, rfl⟩ := HM.run_ret e6
            obtain ⟨p, hp, hk, _⟩ := h.blk (.l _) b hb
            obtain ⟨_, hk⟩ := hk
            rw [hct] at hk
            obtain ⟨_, _, cells, T, _, hrow⟩ := hk
            exact (expRow_sound h e5 hrow).1 id hid
          · cases e1'
        · cases e1
      · exact g3 id hid
    · simp only [RepL]
      exact ⟨z, tl, rfl, hz.mono (rle_of_heap hi (fun _ _ => rfl) (LLe.refl L)) (LLe.refl L), g4 I' hi fun id hid => hh id (List.mem_append_right _ hid)⟩
  | .ag cs :: sl, x :: env, y, ids, rs, v, e, hx => by
    simp only [expA] at e
    obtain ⟨⟨y1, f1⟩, r1, r2, e1, e2, rfl⟩ := HM.run_bind e
    obtain ⟨⟨y2, f2⟩, r3, r4, e3, e4, rfl⟩ := HM.run_bind e2
    obtain ⟨h1, rfl⟩ := HM.run_ret e4
    simp only [Prod.mk.injEq] at h1
    obtain ⟨rfl, rfl⟩ := h1
    simp only [RepL] at hx
    obtain ⟨z, tl, rfl, hz, ht⟩ := hx
    obtain ⟨g3, g4⟩ := expA_sound h e3 ht
    unfold expAg at e1
    split at e1
    · rename_i row
      obtain ⟨⟨y3, f3⟩, r5, r6, e5, e6, rfl⟩ := HM.run_bind e1
      obtain ⟨h1, rfl⟩ := HM.run_ret e6
      simp only [Prod.mk.injEq] at h1
      obtain ⟨rfl, rfl⟩ := h1
      simp only [Rep] at hz
      obtain ⟨cs', rfl, hrow⟩ := hz
      obtain ⟨g1, g2⟩ := expRow_sound h e5 hrow
      refine ⟨fun id hid => ?_, fun I' hi hh => ?_⟩
      · rcases List.mem_append.1 hid with hid | hid
        · exact g1 id hid
        · exact g3 id hid
      · simp only [RepL, Rep]
        exact ⟨_, tl, rfl, ⟨cs', rfl, g2 I' hi fun id hid => hh id (List.mem_append_left _ hid)⟩, g4 I' hi fun id hid => hh id (List.mem_append_right _ hid)⟩
    · cases e1
  | [], _ :: _, _, _, _, _, e, _ => by simp [expA, HM.run] at e
  | .data _ :: _, [], _, _, _, _, e, _ => by simp [expA, HM.run] at e
  | .dead :: _, [], _, _, _, _, e, _ => by simp [expA, HM.run] at e
  | .sl _ :: _, [], _, _, _, _, e, _ => by simp [expA, HM.run] at e
  | .bor _ _ _ :: _, [], _, _, _, _, e, _ => by simp [expA, HM.run] at e
  | .box _ :: _, [], _, _, _, _, e, _ => by simp [expA, HM.run] at e
  | .ag _ :: _, [], _, _, _, _, e, _ => by simp [expA, HM.run] at e

end

/-- places as they are told -/
def Agree (L' : Ref → Option Pl) (b0 : Nat) (pls : List Pl) : Prop := ∀ j p, pls[j]? = some p → L' (.l (b0 + j)) = some p

/-- an object's slices are as new -/
def Fresh (L L' : Ref → Option Pl) : Prop := ∀ k i q p, L (.o k i q) = some p → L' (.o k i q) = some { p with gen := 0 }

theorem Agree.tail {L' : Ref → Option Pl} {b0 : Nat} {q : Pl} {pls : List Pl} (h : Agree L' b0 (q :: pls)) : Agree L' (b0 + 1) pls := fun j p hj => by
  have := h (j + 1) p (by simpa using hj)
  rw [Nat.add_assoc, Nat.add_comm 1 j]
  exact this
theorem Agree.head {L' : Ref → Option Pl} {b0 : Nat} {q : Pl} {pls : List Pl} (h : Agree L' b0 (q :: pls)) : L' (.l b0) = some q := h 0 q rfl
theorem Agree.left {L' : Ref → Option Pl} {b0 : Nat} {p1 p2 : List Pl} (h : Agree L' b0 (p1 ++ p2)) : Agree L' b0 p1 := fun j p hj => h j p (by
  rw [List.getElem?_append_left (List.getElem?_eq_some_iff.1 hj).1]
  exact hj)
theorem Agree.right {L' : Ref → Option Pl} {b0 : Nat} {p1 p2 : List Pl} (h : Agree L' b0 (p1 ++ p2)) : Agree L' (b0 + p1.length) p2 := fun j p hj => by
  have := h (p1.length + j) p (by
    rw [List.getElem?_append_right (by omega), Nat.add_sub_cancel_left]
    exact hj)
  rw [Nat.add_assoc]
  exact this

/-- what is kept of the call's own blocks -/
structure Kept (R : RC) (L : Ref → Option Pl) (I : Nat → Prop) (w : World) (b0 : Nat) (used used' : List Nat) (hp : List (Option Blk)) (src : List (Option Nat)) (pls : List Pl) : Prop where
  len : pls.length = src.length ∧ src.length = hp.length
  sub : ∀ i, i ∈ used → i ∈ used'
  blk : ∀ (j : Nat) (x : Option Blk), hp[j]? = some x → ∃ B p, x = some B ∧ B.frozen = false ∧ B.isTab = false ∧ pls[j]? = some p ∧ ∀ L', Agree L' b0 pls → BlkOK R L' w p B
  own : ∀ (j id : Nat), src[j]? = some (some id) → id ∉ used ∧ id ∈ used' ∧ ∃ p q, L (.l id) = some p ∧ pls[j]? = some q ∧ q.b = p.b ∧ q.virt = p.virt ∧ (p.virt = false → ¬ I p.b)
  virt : ∀ (j : Nat), src[j]? = some none → ∃ q, pls[j]? = some q ∧ q.virt = true
  inj : ∀ (i j id : Nat), src[i]? = some (some id) → src[j]? = some (some id) → i = j

section
variable {R : RC} {L : Ref → Option Pl} {I : Nat → Prop} {w : World}

theorem Kept.nil {b0 : Nat} {used : List Nat} : Kept R L I w b0 used used [] [] [] :=
  ⟨⟨rfl, rfl⟩, fun _ h => h, by simp, by simp, by simp, by simp⟩

theorem Kept.cons {b0 : Nat} {used used' : List Nat} {hp : List (Option Blk)} {src : List (Option Nat)} {pls : List Pl} {id : Nat} (h : Kept R L I w (b0 + 1) (id :: used) used' hp src pls) {p q : Pl} {B : Blk}
    (hid : id ∉ used) (hp' : L (.l id) = some p) (hq : q.b = p.b ∧ q.virt = p.virt) (hI : p.virt = false → ¬ I p.b) (hz : B.frozen = false) (hnt : B.isTab = false) (hB : ∀ L', Agree L' (b0 + 1) pls → BlkOK R L' w q B) : Kept R L I w b0 used used' (some B :: hp) (some id :: src) (q :: pls) := by
  refine ⟨⟨by simp [h.len.1], by simp [h.len.2]⟩, fun i hi => h.sub i (by simp [hi]), fun j x hx => ?_, fun j i hj => ?_, fun j hj => ?_, fun i j k hi hj => ?_⟩
  · cases j with
    | zero => simp only [List.getElem?_cons_zero, Option.some.injEq] at hx; exact ⟨B, q, hx.symm, hz, hnt, rfl, fun L' ha => hB L' ha.tail⟩
    | succ j =>
      obtain ⟨B', p', h1, h2, h2', h3, h4⟩ := h.blk j x (by simpa using hx)
      exact ⟨B', p', h1, h2, h2', by simpa using h3, fun L' ha => h4 L' ha.tail⟩
  · cases j with
    | zero =>
      simp only [List.getElem?_cons_zero, Option.some.injEq] at hj
      subst hj
      exact ⟨hid, h.sub _ (by simp), p, q, hp', rfl, hq.1, hq.2, hI⟩
    | succ j =>
      obtain ⟨h1, h2, h3⟩ := h.own j i (by simpa using hj)
      exact ⟨fun hm => h1 (by simp [hm]), h2, by simpa using h3⟩
  · cases j with
    | zero => simp at hj
    | succ j => exact h.virt j (by simpa using hj)
  · cases i with
    | zero =>
      cases j with
      | zero => rfl
      | succ j =>
        simp only [List.getElem?_cons_zero, Option.some.injEq] at hi
        subst hi
        exact absurd (List.mem_cons_self) (h.own j id (by simpa using hj)).1
    | succ i =>
      cases j with
      | zero =>
        simp only [List.getElem?_cons_zero, Option.some.injEq] at hj
        subst hj
        exact absurd (List.mem_cons_self) (h.own i id (by simpa using hi)).1
      | succ j => rw [h.inj i j k (by simpa using hi) (by simpa using hj)]

theorem Kept.consV {b0 : Nat} {used used' : List Nat} {hp : List (Option Blk)} {src : List (Option Nat)} {pls : List Pl} (h : Kept R L I w (b0 + 1) used used' hp src pls) {q : Pl} {B : Blk}
    (hq : q.virt = true) (hz : B.frozen = false) (hnt : B.isTab = false) (hB : ∀ L', BlkOK R L' w q B) : Kept R L I w b0 used used' (some B :: hp) (none :: src) (q :: pls) := by
  refine ⟨⟨by simp [h.len.1], by simp [h.len.2]⟩, h.sub, fun j x hx => ?_, fun j i hj => ?_, fun j hj => ?_, fun i j k hi hj => ?_⟩
  · cases j with
    | zero => simp only [List.getElem?_cons_zero, Option.some.injEq] at hx; exact ⟨B, q, hx.symm, hz, hnt, rfl, fun L' _ => hB L'⟩
    | succ j =>
      obtain ⟨B', p', h1, h2, h2', h3, h4⟩ := h.blk j x (by simpa using hx)
      exact ⟨B', p', h1, h2, h2', by simpa using h3, fun L' ha => h4 L' ha.tail⟩
  · cases j with
    | zero => simp at hj
    | succ j => exact h.own j i (by simpa using hj)
  · cases j with
    | zero => exact ⟨q, rfl, hq⟩
    | succ j => exact h.virt j (by simpa using hj)
  · cases i with
    | zero => simp at hi
    | succ i =>
      cases j with
      | zero => simp at hj
      | succ j => rw [h.inj i j k (by simpa using hi) (by simpa using hj)]

theorem get_app {α : Type} {l m : List α} {j : Nat} {x : α} (h : (l ++ m)[j]? = some x) : (j < l.length ∧ l[j]? = some x) ∨ (l.length ≤ j ∧ m[j - l.length]? = some x) := by
  rcases Nat.lt_or_ge j l.length with hl | hl
  · rw [List.getElem?_append_left hl] at h; exact .inl ⟨hl, h⟩
  · rw [List.getElem?_append_right hl] at h; exact .inr ⟨hl, h⟩

theorem app_l {α : Type} {l m : List α} {j : Nat} {x : α} (h : l[j]? = some x) : (l ++ m)[j]? = some x := by
  rw [List.getElem?_append_left (List.getElem?_eq_some_iff.1 h).1]; exact h
theorem app_r {α : Type} {l m : List α} {j : Nat} {x : α} (hl : l.length ≤ j) (h : m[j - l.length]? = some x) : (l ++ m)[j]? = some x := by
  rw [List.getElem?_append_right hl]; exact h

theorem Kept.append {b0 : Nat} {u u1 u2 : List Nat} {h1 h2 : List (Option Blk)} {s1 s2 : List (Option Nat)} {p1 p2 : List Pl} (k1 : Kept R L I w b0 u u1 h1 s1 p1) (k2 : Kept R L I w (b0 + p1.length) u1 u2 h2 s2 p2) :
    Kept R L I w b0 u u2 (h1 ++ h2) (s1 ++ s2) (p1 ++ p2) := by
  have e1 : h1.length = p1.length := by rw [k1.len.1, k1.len.2]
  have e2 : s1.length = p1.length := k1.len.1.symm
  refine ⟨⟨by simp [k1.len.1, k2.len.1], by simp [k1.len.2, k2.len.2]⟩, fun i hi => k2.sub i (k1.sub i hi), fun j x hx => ?_, fun j i hj => ?_, fun j hj => ?_, fun i j k hi hj => ?_⟩
  · rcases get_app hx with ⟨hl, hx⟩ | ⟨hl, hx⟩
    · obtain ⟨B, p, g1, g2, g2', g3, g4⟩ := k1.blk j x hx
      exact ⟨B, p, g1, g2, g2', app_l g3, fun L' ha => g4 L' ha.left⟩
    · obtain ⟨B, p, g1, g2, g2', g3, g4⟩ := k2.blk _ x hx
      exact ⟨B, p, g1, g2, g2', app_r (by omega) (by rw [← e1]; exact g3), fun L' ha => g4 L' ha.right⟩
  · rcases get_app hj with ⟨hl, hj⟩ | ⟨hl, hj⟩
    · obtain ⟨g1, g2, p, q, g3, g4, g5⟩ := k1.own j i hj
      exact ⟨g1, k2.sub _ g2, p, q, g3, app_l g4, g5⟩
    · obtain ⟨g1, g2, p, q, g3, g4, g5⟩ := k2.own _ i hj
      exact ⟨fun hm => g1 (k1.sub _ hm), g2, p, q, g3, app_r (by omega) (by rw [← e2]; exact g4), g5⟩
  · rcases get_app hj with ⟨hl, hj⟩ | ⟨hl, hj⟩
    · obtain ⟨q, g1, g2⟩ := k1.virt j hj
      exact ⟨q, app_l g1, g2⟩
    · obtain ⟨q, g1, g2⟩ := k2.virt _ hj
      exact ⟨q, app_r (by omega) (by rw [← e2]; exact g1), g2⟩
  · rcases get_app hi with ⟨hl, hi⟩ | ⟨hl, hi⟩ <;> rcases get_app hj with ⟨hm, hj⟩ | ⟨hm, hj⟩
    · exact k1.inj i j k hi hj
    · exact absurd (k1.own i k hi).2.1 (k2.own _ k hj).1
    · exact absurd (k1.own j k hj).2.1 (k2.own _ k hi).1
    · have := k2.inj _ _ k hi hj
      omega

end

end Go.Eng
