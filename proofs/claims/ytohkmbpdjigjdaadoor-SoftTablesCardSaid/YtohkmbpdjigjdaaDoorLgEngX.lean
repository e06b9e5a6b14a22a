/-
  The abstract machine, part 23: the state at a loop's head, told as plain data.
-/
import Derived.Test.YtohkmbpdjigjdaaDoorLgEngW
namespace Go.Eng

/-- what lies in a variable of the call's own -/
inductive Cell where
  | d (t : Ty)         -- plain data
  | sl (t : Ty)        -- a slice of the call's own

inductive Slot where
  | dead
  | data (t : Ty)      -- plain data
  | sl (t : Ty)        -- a slice of the call's own
  | box (r : List Cell)  -- a variable of the call's own
  | ag (r : List Cell)   -- an aggregate

def rowsTy : List Cell → Ty
  | [] => .unit
  | .d t :: r => .pair t (rowsTy r)
  | .sl t :: r => .pair (.sl t) (rowsTy r)

/-- how many slices lie there -/
def rowsN : List Cell → Nat
  | [] => 0
  | .d _ :: r => rowsN r
  | .sl _ :: r => rowsN r + 1

def encRow : (cs : List Cell) → Nat → Val (rowsTy cs) → List AV
  | [], _, _ => []
  | .d t :: r, b, x => cellsT t x.1 ++ encRow r b x.2
  | .sl t :: r, b, x => .lsl t b 0 (List.length x.1) 0 :: encRow r (b + 1) x.2

def encRowH : (cs : List Cell) → Val (rowsTy cs) → List (Option Blk)
  | [], _ => []
  | .d _ :: r, x => encRowH r x.2
  | .sl t :: r, x => some { ct := .sl t x.1, gen := 0, frozen := false } :: encRowH r x.2

def slotsTy : List Slot → Ty
  | [] => .unit
  | .dead :: r => slotsTy r
  | .data t :: r => .pair t (slotsTy r)
  | .sl t :: r => .pair (.sl t) (slotsTy r)
  | .box cs :: r => .pair (rowsTy cs) (slotsTy r)
  | .ag cs :: r => .pair (rowsTy cs) (slotsTy r)

def encEnv : (sl : List Slot) → Nat → Val (slotsTy sl) → List AV
  | [], _, _ => []
  | .dead :: r, b, x => .top :: encEnv r b x
  | .data t :: r, b, x => encA t x.1 :: encEnv r b x.2
  | .sl t :: r, b, x => .lsl t b 0 (List.length x.1) 0 :: encEnv r (b + 1) x.2
  | .box cs :: r, b, x => .lptr b 0 0 0 :: encEnv r (b + 1 + rowsN cs) x.2
  | .ag cs :: r, b, x => .agg (encRow cs b x.1) :: encEnv r (b + rowsN cs) x.2

def encHeap : (sl : List Slot) → Nat → Val (slotsTy sl) → List (Option Blk)
  | [], _, _ => []
  | .dead :: r, b, x => encHeap r b x
  | .data _ :: r, b, x => encHeap r b x.2
  | .sl t :: r, b, x => some { ct := .sl t x.1, gen := 0, frozen := false } :: encHeap r (b + 1) x.2
  | .box cs :: r, b, x => some { ct := .box (encRow cs (b + 1) x.1), gen := 0, frozen := false } :: (encRowH cs x.1 ++ encHeap r (b + 1 + rowsN cs) x.2)
  | .ag cs :: r, b, x => encRowH cs x.1 ++ encHeap r (b + rowsN cs) x.2

def encSlots (sl : List Slot) (x : Val (slotsTy sl)) : St := ⟨encEnv sl 0 x, encHeap sl 0 x⟩

/-- a row's data told as values; its slices stay -/
def expRow : List Cell → List AV → HM (List AV × List Nat)
  | [], row => .ret (row, [])
  | .d t :: cs, row => (exportN.exportL 8 (row.take t.size)).bind fun (y, f) => (expRow cs (row.drop t.size)).bind fun (r, f') => .ret (y ++ r, f ++ f')
  | .sl _ :: cs, row => match row with
    | x :: r => (expRow cs r).bind fun (r', f) => .ret (x :: r', f)
    | [] => .fail

/-- an aggregate's data told as values -/
def expAg (cs : List Cell) : AV → HM (AV × List Nat)
  | .agg row => (expRow cs row).bind fun (r, f) => .ret (.agg r, f)
  | _ => .fail

/-- what a variable's data come to -/
def expBox (cs : List Cell) : AV → HM (List Nat)
  | .lptr id _ _ _ => .rd id fun b => match b.ct with
    | .box row => (expRow cs row).bind fun (_, f) => .ret f
    | .sl _ _ => .fail
  | _ => .fail

def expA : List Slot → List AV → HM (List AV × List Nat)
  | [], [] => .ret ([], [])
  | .data _ :: sl, x :: env => (exportN 8 x).bind fun (y, f) => (expA sl env).bind fun (r, f') => .ret (y :: r, f ++ f')
  | .dead :: sl, _ :: env => (expA sl env).bind fun (r, f) => .ret (.top :: r, f)
  | .sl _ :: sl, x :: env => (expA sl env).bind fun (r, f) => .ret (x :: r, f)
  | .box cs :: sl, x :: env => (expBox cs x).bind fun f => (expA sl env).bind fun (r, f') => .ret (x :: r, f ++ f')
  | .ag cs :: sl, x :: env => (expAg cs x).bind fun (y, f) => (expA sl env).bind fun (r, f') => .ret (y :: r, f ++ f')
  | _, _ => .fail

/-- a slice of the call's own: its elements; the blocks that are taken -/
def takeSl (t : Ty) (u : List Nat) : AV → HM (List (Val t) × List Nat)
  | .v (.slice none 0 0) => .ret ([], u)
  | .lsl _ id i n g => match u.contains id with
    | true => .fail
    | false => .rd id fun b => if g = b.gen ∧ b.frozen = false ∧ i = 0 then (match b.ct with
      | .sl t' l => if h : t' = t then .chk (decide (n = l.length)) (.ret (castL h l, id :: u)) else .fail
      | .box _ => .fail) else .fail
  | _ => .fail

/-- what lies in a variable -/
def takeRow (N : Names) : (cs : List Cell) → List Nat → List AV → HM (Val (rowsTy cs) × List Nat)
  | [], u, row => match row with
    | [] => .ret ((), u)
    | _ => .fail
  | .d t :: cs, u, row => match decT N t row with
    | some (y, r) => (takeRow N cs u r).bind fun (z, u') => .ret ((y, z), u')
    | none => .fail
  | .sl t :: cs, u, row => match row with
    | x :: r => (takeSl t u x).bind fun (l, u1) => (takeRow N cs u1 r).bind fun (z, u') => .ret ((l, z), u')
    | [] => .fail

/-- a variable of the call's own -/
def takeBox (N : Names) (cs : List Cell) (hd u : List Nat) : AV → HM (Val (rowsTy cs) × List Nat)
  | .lptr id i j g => match u.contains id with
    | true => .fail
    | false => .rd id fun b => if g = b.gen ∧ b.frozen = false ∧ i = 0 ∧ j = 0 then (match b.ct with
      | .box row => (expRow cs row).bind fun (row', f) => match f.all hd.contains with
        | true => takeRow N cs (id :: u) row'
        | false => .fail
      | .sl _ _ => .fail) else .fail
  | _ => .fail

/-- an aggregate -/
def takeAg (N : Names) (cs : List Cell) (u : List Nat) : AV → HM (Val (rowsTy cs) × List Nat)
  | .agg row => takeRow N cs u row
  | _ => .fail

def nextA {α : Type} (k : AV → List AV → HM α) : List AV → HM α
  | [] => .fail
  | x :: r => k x r

def decE' (N : Names) (hd : List Nat) : (sl : List Slot) → List Nat → List AV → HM (Val (slotsTy sl))
  | [], _ => fun env => match env with
    | [] => .ret ()
    | _ => .fail
  | .dead :: sl, u => nextA fun _ env => decE' N hd sl u env
  | .data t :: sl, u => nextA fun x env => match decV N t x with
    | some y => (decE' N hd sl u env).bind fun r => .ret (y, r)
    | none => .fail
  | .sl t :: sl, u => nextA fun x env => (takeSl t u x).bind fun (l, u') => (decE' N hd sl u' env).bind fun r => .ret (l, r)
  | .box cs :: sl, u => nextA fun x env => (takeBox N cs hd u x).bind fun (y, u') => (decE' N hd sl u' env).bind fun r => .ret (y, r)
  | .ag cs :: sl, u => nextA fun x env => (takeAg N cs u x).bind fun (y, u') => (decE' N hd sl u' env).bind fun r => .ret (y, r)

def decSlots (N : Names) (sl : List Slot) (s : St) : HM (Val (slotsTy sl)) :=
  (expA sl s.env).bind fun (env, ids) => decE' N ids sl ids env

section
variable {c : Ctx} {I : Nat → Prop} {L : Nat → Option Pl} {s : St} {a : Act} {w : World} {call : CallF}

theorem expRow_sound (h : Sim c I L s a w) : ∀ {cs : List Cell} {row y : List AV} {ids rs : List Nat} {v : List Value}, (expRow cs row).run call s.rd = some ((y, ids), rs) → RepL (c.rc I w) L row v →
    (∀ id, id ∈ ids → ∃ b, s.heap[id]? = some (some b)) ∧
    ∀ I' : Nat → Prop, (∀ b, I b → I' b) → (∀ id, id ∈ ids → ∀ p, L id = some p → p.virt = false → I' p.b) → RepL (c.rc I' w) L y v
  | [], row, y, ids, rs, v, e, hx => by
    obtain ⟨h1, rfl⟩ := HM.run_ret e
    simp only [Prod.mk.injEq] at h1
    obtain ⟨rfl, rfl⟩ := h1
    exact ⟨fun id hid => (by simp at hid), fun I' hi _ => hx.mono (rle_of_heap hi fun _ _ => rfl) (LLe.refl L)⟩
  | .d t :: cs, row, y, ids, rs, v, e, hx => by
    simp only [expRow] at e
    obtain ⟨⟨y1, f1⟩, r1, r2, e1, e2, rfl⟩ := HM.run_bind e
    obtain ⟨⟨y2, f2⟩, r3, r4, e3, e4, rfl⟩ := HM.run_bind e2
    obtain ⟨h1, rfl⟩ := HM.run_ret e4
    simp only [Prod.mk.injEq] at h1
    obtain ⟨rfl, rfl⟩ := h1
    rw [← List.take_append_drop t.size row] at hx
    obtain ⟨v1, v2, rfl, hv1, hv2⟩ := hx.split
    obtain ⟨g1, g2⟩ := exportL_sound h 8 e1 hv1
    obtain ⟨g3, g4⟩ := expRow_sound h e3 hv2
    refine ⟨fun id hid => ?_, fun I' hi hh => ?_⟩
    · rcases List.mem_append.1 hid with hid | hid
      · exact (g1 id hid).2
      · exact g3 id hid
    · exact (g2 I' hi fun id hid => hh id (List.mem_append_left _ hid)).noL.append (g4 I' hi fun id hid => hh id (List.mem_append_right _ hid))
  | .sl t :: cs, [], y, ids, rs, v, e, hx => by cases e
  | .sl t :: cs, x :: row, y, ids, rs, v, e, hx => by
    simp only [expRow] at e
    obtain ⟨⟨y2, f2⟩, r3, r4, e3, e4, rfl⟩ := HM.run_bind e
    obtain ⟨h1, rfl⟩ := HM.run_ret e4
    simp only [Prod.mk.injEq] at h1
    obtain ⟨rfl, rfl⟩ := h1
    simp only [RepL] at hx
    obtain ⟨z, tl, rfl, hz, ht⟩ := hx
    obtain ⟨g3, g4⟩ := expRow_sound h e3 ht
    refine ⟨g3, fun I' hi hh => ?_⟩
    simp only [RepL]
    exact ⟨z, tl, rfl, hz.mono (rle_of_heap hi fun _ _ => rfl) (LLe.refl L), g4 I' hi hh⟩

theorem expA_sound (h : Sim c I L s a w) : ∀ {sl : List Slot} {x y : List AV} {ids rs : List Nat} {v : List Value}, (expA sl x).run call s.rd = some ((y, ids), rs) → RepL (c.rc I w) L x v →
    (∀ id, id ∈ ids → ∃ b, s.heap[id]? = some (some b)) ∧
    ∀ I' : Nat → Prop, (∀ b, I b → I' b) → (∀ id, id ∈ ids → ∀ p, L id = some p → p.virt = false → I' p.b) → RepL (c.rc I' w) L y v
  | [], [], y, ids, rs, v, e, hx => by
    obtain ⟨h1, rfl⟩ := HM.run_ret e
    simp only [Prod.mk.injEq] at h1
    obtain ⟨rfl, rfl⟩ := h1
    exact ⟨fun id hid => (by simp at hid), fun I' _ _ => by simpa only [RepL] using hx⟩
  | .data t :: sl, x :: env, y, ids, rs, v, e, hx => by
    simp only [expA] at e
    obtain ⟨⟨y1, f1⟩, r1, r2, e1, e2, rfl⟩ := HM.run_bind e
    obtain ⟨⟨y2, f2⟩, r3, r4, e3, e4, rfl⟩ := HM.run_bind e2
    obtain ⟨h1, rfl⟩ := HM.run_ret e4
    simp only [Prod.mk.injEq] at h1
    obtain ⟨rfl, rfl⟩ := h1
    simp only [RepL] at hx
    obtain ⟨z, tl, rfl, hz, ht⟩ := hx
    obtain ⟨g1, g2⟩ := exportN_sound h 8 e1 hz
    obtain ⟨g3, g4⟩ := expA_sound h e3 ht
    refine ⟨fun id hid => ?_, fun I' hi hh => ?_⟩
    · rcases List.mem_append.1 hid with hid | hid
      · exact (g1 id hid).2
      · exact g3 id hid
    · simp only [RepL]
      exact ⟨z, tl, rfl, (g2 I' hi fun id hid => hh id (List.mem_append_left _ hid)).noL, g4 I' hi fun id hid => hh id (List.mem_append_right _ hid)⟩
  | .dead :: sl, x :: env, y, ids, rs, v, e, hx => by
    simp only [expA] at e
    obtain ⟨⟨y2, f2⟩, r3, r4, e3, e4, rfl⟩ := HM.run_bind e
    obtain ⟨h1, rfl⟩ := HM.run_ret e4
    simp only [Prod.mk.injEq] at h1
    obtain ⟨rfl, rfl⟩ := h1
    simp only [RepL] at hx
    obtain ⟨z, tl, rfl, hz, ht⟩ := hx
    obtain ⟨g3, g4⟩ := expA_sound h e3 ht
    refine ⟨g3, fun I' hi hh => ?_⟩
    simp only [RepL]
    exact ⟨z, tl, rfl, by simp [Rep], g4 I' hi hh⟩
  | .sl t :: sl, x :: env, y, ids, rs, v, e, hx => by
    simp only [expA] at e
    obtain ⟨⟨y2, f2⟩, r3, r4, e3, e4, rfl⟩ := HM.run_bind e
    obtain ⟨h1, rfl⟩ := HM.run_ret e4
    simp only [Prod.mk.injEq] at h1
    obtain ⟨rfl, rfl⟩ := h1
    simp only [RepL] at hx
    obtain ⟨z, tl, rfl, hz, ht⟩ := hx
    obtain ⟨g3, g4⟩ := expA_sound h e3 ht
    refine ⟨g3, fun I' hi hh => ?_⟩
    simp only [RepL]
    exact ⟨z, tl, rfl, hz.mono (rle_of_heap hi fun _ _ => rfl) (LLe.refl L), g4 I' hi hh⟩
  | .box cs :: sl, x :: env, y, ids, rs, v, e, hx => by
    simp only [expA] at e
    obtain ⟨f1, r1, r2, e1, e2, rfl⟩ := HM.run_bind e
    obtain ⟨⟨y2, f2⟩, r3, r4, e3, e4, rfl⟩ := HM.run_bind e2
    obtain ⟨h1, rfl⟩ := HM.run_ret e4
    simp only [Prod.mk.injEq] at h1
    obtain ⟨rfl, rfl⟩ := h1
    simp only [RepL] at hx
    obtain ⟨z, tl, rfl, hz, ht⟩ := hx
    obtain ⟨g3, g4⟩ := expA_sound h e3 ht
    refine ⟨fun id hid => ?_, fun I' hi hh => ?_⟩
    · rcases List.mem_append.1 hid with hid | hid
      · unfold expBox at e1
        split at e1
        · obtain ⟨b, l', hb, e1', rfl⟩ := HM.run_rd e1
          clear e1
          split at e1'
          · rename_i row hct
            obtain ⟨⟨y3, f3⟩, r5, r6, e5, e6, rfl⟩ := HM.run_bind e1'
            obtain ⟨rfl, rfl⟩ := HM.run_ret e6
            obtain ⟨p, hp, hk, _⟩ := h.blk _ b (St.rd_some hb)
            obtain ⟨_, hk⟩ := hk
            rw [hct] at hk
            obtain ⟨_, _, cells, T, _, hrow⟩ := hk
            exact (expRow_sound h e5 hrow).1 id hid
          · cases e1'
        · cases e1
      · exact g3 id hid
    · simp only [RepL]
      exact ⟨z, tl, rfl, hz.mono (rle_of_heap hi fun _ _ => rfl) (LLe.refl L), g4 I' hi fun id hid => hh id (List.mem_append_right _ hid)⟩
  | .ag cs :: sl, x :: env, y, ids, rs, v, e, hx => by
    simp only [expA] at e
    obtain ⟨⟨y1, f1⟩, r1, r2, e1, e2, rfl⟩ := HM.run_bind e
    obtain ⟨⟨y2, f2⟩, r3, r4, e3, e4, rfl⟩ := HM.run_bind e2
    obtain ⟨h1, rfl⟩ := HM.run_ret e4
    simp only [Prod.mk.injEq] at h1
    obtain ⟨rfl, rfl⟩ := h1
    simp only [RepL] at hx
    obtain ⟨z, tl, rfl, hz, ht⟩ := hx
    obtain ⟨g3, g4⟩ := expA_sound h e3 ht
    unfold expAg at e1
    split at e1
    · rename_i row
      obtain ⟨⟨y3, f3⟩, r5, r6, e5, e6, rfl⟩ := HM.run_bind e1
      obtain ⟨h1, rfl⟩ := HM.run_ret e6
      simp only [Prod.mk.injEq] at h1
      obtain ⟨rfl, rfl⟩ := h1
      simp only [Rep] at hz
      obtain ⟨cs', rfl, hrow⟩ := hz
      obtain ⟨g1, g2⟩ := expRow_sound h e5 hrow
      refine ⟨fun id hid => ?_, fun I' hi hh => ?_⟩
      · rcases List.mem_append.1 hid with hid | hid
        · exact g1 id hid
        · exact g3 id hid
      · simp only [RepL, Rep]
        exact ⟨_, tl, rfl, ⟨cs', rfl, g2 I' hi fun id hid => hh id (List.mem_append_left _ hid)⟩, g4 I' hi fun id hid => hh id (List.mem_append_right _ hid)⟩
    · cases e1
  | [], _ :: _, _, _, _, _, e, _ => by simp [expA, HM.run] at e
  | .data _ :: _, [], _, _, _, _, e, _ => by simp [expA, HM.run] at e
  | .dead :: _, [], _, _, _, _, e, _ => by simp [expA, HM.run] at e
  | .sl _ :: _, [], _, _, _, _, e, _ => by simp [expA, HM.run] at e
  | .box _ :: _, [], _, _, _, _, e, _ => by simp [expA, HM.run] at e
  | .ag _ :: _, [], _, _, _, _, e, _ => by simp [expA, HM.run] at e

end

theorem Agree.tail {L' : Nat → Option Pl} {b0 : Nat} {q : Pl} {pls : List Pl} (h : Agree L' b0 (q :: pls)) : Agree L' (b0 + 1) pls := fun j p hj => by
  have := h (j + 1) p (by simpa using hj)
  rw [Nat.add_assoc, Nat.add_comm 1 j]
  exact this
theorem Agree.head {L' : Nat → Option Pl} {b0 : Nat} {q : Pl} {pls : List Pl} (h : Agree L' b0 (q :: pls)) : L' b0 = some q := h 0 q rfl
theorem Agree.left {L' : Nat → Option Pl} {b0 : Nat} {p1 p2 : List Pl} (h : Agree L' b0 (p1 ++ p2)) : Agree L' b0 p1 := fun j p hj => h j p (by
  rw [List.getElem?_append_left (List.getElem?_eq_some_iff.1 hj).1]
  exact hj)
theorem Agree.right {L' : Nat → Option Pl} {b0 : Nat} {p1 p2 : List Pl} (h : Agree L' b0 (p1 ++ p2)) : Agree L' (b0 + p1.length) p2 := fun j p hj => by
  have := h (p1.length + j) p (by
    rw [List.getElem?_append_right (by omega), Nat.add_sub_cancel_left]
    exact hj)
  rw [Nat.add_assoc]
  exact this

/-- what is kept of the call's own blocks -/
structure Kept (R : RC) (L : Nat → Option Pl) (I : Nat → Prop) (w : World) (b0 : Nat) (used used' : List Nat) (hp : List (Option Blk)) (src : List (Option Nat)) (pls : List Pl) : Prop where
  len : pls.length = src.length ∧ src.length = hp.length
  sub : ∀ i, i ∈ used → i ∈ used'
  blk : ∀ (j : Nat) (x : Option Blk), hp[j]? = some x → ∃ B p, x = some B ∧ B.frozen = false ∧ pls[j]? = some p ∧ ∀ L', Agree L' b0 pls → BlkOK R L' w p B
  own : ∀ (j id : Nat), src[j]? = some (some id) → id ∉ used ∧ id ∈ used' ∧ ∃ p q, L id = some p ∧ pls[j]? = some q ∧ q.b = p.b ∧ q.virt = p.virt ∧ (p.virt = false → ¬ I p.b)
  virt : ∀ (j : Nat), src[j]? = some none → ∃ q, pls[j]? = some q ∧ q.virt = true
  inj : ∀ (i j id : Nat), src[i]? = some (some id) → src[j]? = some (some id) → i = j

section
variable {R : RC} {L : Nat → Option Pl} {I : Nat → Prop} {w : World}

theorem Kept.nil {b0 : Nat} {used : List Nat} : Kept R L I w b0 used used [] [] [] :=
  ⟨⟨rfl, rfl⟩, fun _ h => h, by simp, by simp, by simp, by simp⟩

theorem Kept.cons {b0 : Nat} {used used' : List Nat} {hp : List (Option Blk)} {src : List (Option Nat)} {pls : List Pl} {id : Nat} (h : Kept R L I w (b0 + 1) (id :: used) used' hp src pls) {p q : Pl} {B : Blk}
    (hid : id ∉ used) (hp' : L id = some p) (hq : q.b = p.b ∧ q.virt = p.virt) (hI : p.virt = false → ¬ I p.b) (hz : B.frozen = false) (hB : ∀ L', Agree L' (b0 + 1) pls → BlkOK R L' w q B) : Kept R L I w b0 used used' (some B :: hp) (some id :: src) (q :: pls) := by
  refine ⟨⟨by simp [h.len.1], by simp [h.len.2]⟩, fun i hi => h.sub i (by simp [hi]), fun j x hx => ?_, fun j i hj => ?_, fun j hj => ?_, fun i j k hi hj => ?_⟩
  · cases j with
    | zero => simp only [List.getElem?_cons_zero, Option.some.injEq] at hx; exact ⟨B, q, hx.symm, hz, rfl, fun L' ha => hB L' ha.tail⟩
    | succ j =>
      obtain ⟨B', p', h1, h2, h3, h4⟩ := h.blk j x (by simpa using hx)
      exact ⟨B', p', h1, h2, by simpa using h3, fun L' ha => h4 L' ha.tail⟩
  · cases j with
    | zero =>
      simp only [List.getElem?_cons_zero, Option.some.injEq] at hj
      subst hj
      exact ⟨hid, h.sub _ (by simp), p, q, hp', rfl, hq.1, hq.2, hI⟩
    | succ j =>
      obtain ⟨h1, h2, h3⟩ := h.own j i (by simpa using hj)
      exact ⟨fun hm => h1 (by simp [hm]), h2, by simpa using h3⟩
  · cases j with
    | zero => simp at hj
    | succ j => exact h.virt j (by simpa using hj)
  · cases i with
    | zero =>
      cases j with
      | zero => rfl
      | succ j =>
        simp only [List.getElem?_cons_zero, Option.some.injEq] at hi
        subst hi
        exact absurd (List.mem_cons_self) (h.own j id (by simpa using hj)).1
    | succ i =>
      cases j with
      | zero =>
        simp only [List.getElem?_cons_zero, Option.some.injEq] at hj
        subst hj
        exact absurd (List.mem_cons_self) (h.own i id (by simpa using hi)).1
      | succ j => rw [h.inj i j k (by simpa using hi) (by simpa using hj)]

theorem Kept.consV {b0 : Nat} {used used' : List Nat} {hp : List (Option Blk)} {src : List (Option Nat)} {pls : List Pl} (h : Kept R L I w (b0 + 1) used used' hp src pls) {q : Pl} {B : Blk}
    (hq : q.virt = true) (hz : B.frozen = false) (hB : ∀ L', BlkOK R L' w q B) : Kept R L I w b0 used used' (some B :: hp) (none :: src) (q :: pls) := by
  refine ⟨⟨by simp [h.len.1], by simp [h.len.2]⟩, h.sub, fun j x hx => ?_, fun j i hj => ?_, fun j hj => ?_, fun i j k hi hj => ?_⟩
  · cases j with
    | zero => simp only [List.getElem?_cons_zero, Option.some.injEq] at hx; exact ⟨B, q, hx.symm, hz, rfl, fun L' _ => hB L'⟩
    | succ j =>
      obtain ⟨B', p', h1, h2, h3, h4⟩ := h.blk j x (by simpa using hx)
      exact ⟨B', p', h1, h2, by simpa using h3, fun L' ha => h4 L' ha.tail⟩
  · cases j with
    | zero => simp at hj
    | succ j => exact h.own j i (by simpa using hj)
  · cases j with
    | zero => exact ⟨q, rfl, hq⟩
    | succ j => exact h.virt j (by simpa using hj)
  · cases i with
    | zero => simp at hi
    | succ i =>
      cases j with
      | zero => simp at hj
      | succ j => rw [h.inj i j k (by simpa using hi) (by simpa using hj)]

theorem get_app {α : Type} {l m : List α} {j : Nat} {x : α} (h : (l ++ m)[j]? = some x) : (j < l.length ∧ l[j]? = some x) ∨ (l.length ≤ j ∧ m[j - l.length]? = some x) := by
  rcases Nat.lt_or_ge j l.length with hl | hl
  · rw [List.getElem?_append_left hl] at h; exact .inl ⟨hl, h⟩
  · rw [List.getElem?_append_right hl] at h; exact .inr ⟨hl, h⟩

theorem app_l {α : Type} {l m : List α} {j : Nat} {x : α} (h : l[j]? = some x) : (l ++ m)[j]? = some x := by
  rw [List.getElem?_append_left (List.getElem?_eq_some_iff.1 h).1]; exact h
theorem app_r {α : Type} {l m : List α} {j : Nat} {x : α} (hl : l.length ≤ j) (h : m[j - l.length]? = some x) : (l ++ m)[j]? = some x := by
  rw [List.getElem?_append_right hl]; exact h

theorem Kept.append {b0 : Nat} {u u1 u2 : List Nat} {h1 h2 : List (Option Blk)} {s1 s2 : List (Option Nat)} {p1 p2 : List Pl} (k1 : Kept R L I w b0 u u1 h1 s1 p1) (k2 : Kept R L I w (b0 + p1.length) u1 u2 h2 s2 p2) :
    Kept R L I w b0 u u2 (h1 ++ h2) (s1 ++ s2) (p1 ++ p2) := by
  have e1 : h1.length = p1.length := by rw [k1.len.1, k1.len.2]
  have e2 : s1.length = p1.length := k1.len.1.symm
  refine ⟨⟨by simp [k1.len.1, k2.len.1], by simp [k1.len.2, k2.len.2]⟩, fun i hi => k2.sub i (k1.sub i hi), fun j x hx => ?_, fun j i hj => ?_, fun j hj => ?_, fun i j k hi hj => ?_⟩
  · rcases get_app hx with ⟨hl, hx⟩ | ⟨hl, hx⟩
    · obtain ⟨B, p, g1, g2, g3, g4⟩ := k1.blk j x hx
      exact ⟨B, p, g1, g2, app_l g3, fun L' ha => g4 L' ha.left⟩
    · obtain ⟨B, p, g1, g2, g3, g4⟩ := k2.blk _ x hx
      exact ⟨B, p, g1, g2, app_r (by omega) (by rw [← e1]; exact g3), fun L' ha => g4 L' ha.right⟩
  · rcases get_app hj with ⟨hl, hj⟩ | ⟨hl, hj⟩
    · obtain ⟨g1, g2, p, q, g3, g4, g5⟩ := k1.own j i hj
      exact ⟨g1, k2.sub _ g2, p, q, g3, app_l g4, g5⟩
    · obtain ⟨g1, g2, p, q, g3, g4, g5⟩ := k2.own _ i hj
      exact ⟨fun hm => g1 (k1.sub _ hm), g2, p, q, g3, app_r (by omega) (by rw [← e2]; exact g4), g5⟩
  · rcases get_app hj with ⟨hl, hj⟩ | ⟨hl, hj⟩
    · obtain ⟨q, g1, g2⟩ := k1.virt j hj
      exact ⟨q, app_l g1, g2⟩
    · obtain ⟨q, g1, g2⟩ := k2.virt _ hj
      exact ⟨q, app_r (by omega) (by rw [← e2]; exact g1), g2⟩
  · rcases get_app hi with ⟨hl, hi⟩ | ⟨hl, hi⟩ <;> rcases get_app hj with ⟨hm, hj⟩ | ⟨hm, hj⟩
    · exact k1.inj i j k hi hj
    · exact absurd (k1.own i k hi).2.1 (k2.own _ k hj).1
    · exact absurd (k1.own j k hj).2.1 (k2.own _ k hi).1
    · have := k2.inj _ _ k hi hj
      omega

end

def Shows (R : RC) (b0 : Nat) (env : List AV) (vs : List Value) (pls : List Pl) : Prop :=
  ∀ (L' : Nat → Option Pl), Agree L' b0 pls → RepL R L' env vs

section
variable {c : Ctx} {I I' : Nat → Prop} {L : Nat → Option Pl} {s : St} {a : Act} {w : World} {call : CallF}

theorem takeSl_kept (h : Sim c I L s a w) (hi : ∀ b, I b → I' b) {t : Ty} {u u' : List Nat} {y : AV} {z : Value} {l0 : List (Val t)} {rs : List Nat} (et : (takeSl t u y).run call s.rd = some ((l0, u'), rs)) (hz : Rep (c.rc I' w) L y z) (b0 : Nat) :
    ∃ o q, Kept (c.rc I' w) L I w b0 u u' [some { ct := .sl t l0, gen := 0, frozen := false }] [o] [q] ∧ ∀ L', L' b0 = some q → Rep (c.rc I' w) L' (.lsl t b0 0 l0.length 0) z := by
  unfold takeSl at et
  split at et
  · obtain ⟨h0, rfl⟩ := HM.run_ret et
    simp only [Prod.mk.injEq] at h0
    obtain ⟨rfl, rfl⟩ := h0
    refine ⟨none, ⟨0, 0, t.size, 0, 0, true⟩, Kept.nil.consV rfl rfl (fun L' => ⟨rfl, .inl ⟨rfl, rfl⟩⟩), fun L' hp => ?_⟩
    simp only [Rep] at hz ⊢
    exact ⟨_, hp, rfl, Nat.le_refl _, none, 0, by simpa using hz, by simp, fun hne => absurd rfl hne, fun _ => .inl rfl⟩
  · rename_i t0 id i n g
    split at et
    · cases et
    · rename_i hu
      have hu : id ∉ u := by
        intro hm
        have : u.contains id = true := by simpa using hm
        rw [this] at hu
        cases hu
      obtain ⟨b, l', hb, et1, rfl⟩ := HM.run_rd et
      split at et1
      · rename_i hc
        obtain ⟨hg, hf, rfl⟩ := hc
        split at et1
        · rename_i t' l hct
          split at et1
          · rename_i htt
            subst htt
            obtain ⟨hn, et2⟩ := HM.run_chk et1
            have hn := of_decide_eq_true hn
            obtain ⟨h0, rfl⟩ := HM.run_ret et2
            simp only [Prod.mk.injEq] at h0
            obtain ⟨h0, rfl⟩ := h0
            have h0 : l = l0 := h0.symm
            subst h0
            obtain ⟨p, hp, hk, hfr, _⟩ := h.get hb
            have hk' := hk.mono (R' := c.rc I' w) (L' := L) (rle_of_heap hi fun _ _ => rfl) (LLe.refl L) (w' := w) (fun _ => rfl) (fun _ _ => rfl)
            simp only [Rep] at hz
            obtain ⟨p', hp', hpw, hge, ad, cap, hv, hcap, hsome, hcur⟩ := hz
            rw [hp] at hp'
            injection hp' with hp'
            subst hp'
            have hpg : p.gen = g := by rw [hk.1, hg]
            by_cases hvirt : p.virt = true ∨ cap = 0 ∧ l = []
            · have hl0 : l = [] ∧ cap = 0 := by
                rcases hvirt with hvt | ⟨h0, h1⟩
                · obtain ⟨_, hk⟩ := hk
                  rw [hct] at hk
                  rcases hk with ⟨_, h0⟩ | ⟨h0, _⟩
                  · refine ⟨h0, ?_⟩
                    rcases hcur hpg with hc | ⟨hc, _⟩
                    · exact hc
                    · rw [hvt] at hc; cases hc
                  · rw [hvt] at h0; cases h0
                · exact ⟨h1, h0⟩
              obtain ⟨rfl, rfl⟩ := hl0
              refine ⟨some id, { p with gen := 0, w := t'.size, virt := p.virt }, ?_, ?_⟩
              · refine Kept.cons (p := p) Kept.nil hu hp ⟨rfl, rfl⟩ (fun hv => hfr hf hv) rfl fun L' _ => ⟨rfl, ?_⟩
                cases hv' : p.virt with
                | true => exact .inl ⟨rfl, rfl⟩
                | false =>
                  obtain ⟨_, hk⟩ := hk'
                  rw [hct] at hk
                  rcases hk with ⟨h0, _⟩ | ⟨_, hpw2, cs, T, hh, hps, hle, _⟩
                  · rw [hv'] at h0; cases h0
                  · refine .inr ⟨rfl, rfl, cs, T, hh, hps, ?_, fun i hi => by simp at hi⟩
                    simpa using hle
              · intro L' hpl
                simp only [Rep]
                exact ⟨_, hpl, rfl, Nat.le_refl _, ad, 0, by rw [hv, hn], Nat.zero_le _, fun hne => absurd rfl hne, fun _ => .inl rfl⟩
            · have hvf : p.virt = false := by
                cases hv' : p.virt with
                | true => exact absurd (.inl hv') hvirt
                | false => rfl
              obtain ⟨_, hk2⟩ := hk'
              rw [hct] at hk2
              rcases hk2 with ⟨h0, _⟩ | ⟨_, hpw2, cs, T, hh, hps, hle, hrow⟩
              · rw [hvf] at h0; cases h0
              refine ⟨some id, { p with gen := 0 }, ?_, ?_⟩
              · exact Kept.cons (p := p) Kept.nil hu hp ⟨rfl, rfl⟩ (fun hv => hfr hf hv) rfl fun L' _ => ⟨rfl, .inr ⟨hvf, hpw2, cs, T, hh, hps, hle, hrow⟩⟩
              · intro L' hpl
                simp only [Rep]
                refine ⟨_, hpl, hpw2, Nat.le_refl _, ad, cap, by rw [hv, hn], ?_, ?_, fun _ => hcur hpg⟩
                · rw [hn] at hcap; exact hcap
                · rw [hn] at hsome; exact hsome
          · cases et1
        · cases et1
      · cases et1
  · cases et

theorem takeRow_kept (h : Sim c I L s a w) (hi : ∀ b, I b → I' b) : ∀ (cs : List Cell) (u u' : List Nat) (row : List AV) (x : Val (rowsTy cs)) (rs : List Nat) (vs : List Value) (b0 : Nat), (takeRow c.E.toNames cs u row).run call s.rd = some ((x, u'), rs) → RepL (c.rc I' w) L row vs →
    ∃ src pls, Kept (c.rc I' w) L I w b0 u u' (encRowH cs x) src pls ∧ pls.length = rowsN cs ∧ Shows (c.rc I' w) b0 (encRow cs b0 x) vs pls
  | [], u, u', row, x, rs, vs, b0, e, hr => by
    simp only [takeRow] at e
    split at e
    · obtain ⟨h0, rfl⟩ := HM.run_ret e
      have h1 : u' = u := congrArg Prod.snd h0
      subst h1
      exact ⟨[], [], Kept.nil, rfl, fun L' _ => by simpa only [encRow, RepL] using hr⟩
    · cases e
  | .d t :: cs, u, u', row, x, rs, vs, b0, e, hr => by
    simp only [takeRow] at e
    split at e
    · rename_i y r hd
      obtain ⟨⟨z, u1⟩, r1, r2, e1, e2, rfl⟩ := HM.run_bind e
      obtain ⟨h0, rfl⟩ := HM.run_ret e2
      injection h0 with h0 h00
      subst h0 h00
      obtain ⟨d, v2, rfl, hT, hr2⟩ := decT_sound (R := c.rc I' w) t hd hr
      obtain ⟨src, pls, k1, k2, k3⟩ := takeRow_kept h hi cs u _ r z _ v2 b0 e1 hr2
      refine ⟨src, pls, k1, k2, fun L' ha => ?_⟩
      simp only [encRow]
      exact (RepL.ofT t hT).append (k3 L' ha)
    · cases e
  | .sl t :: cs, u, u', row, x, rs, vs, b0, e, hr => by
    simp only [takeRow] at e
    split at e
    · rename_i y r
      obtain ⟨⟨l, u1⟩, r1, r2, e1, e2, rfl⟩ := HM.run_bind e
      obtain ⟨⟨z, u2⟩, r3, r4, e3, e4, rfl⟩ := HM.run_bind e2
      obtain ⟨h0, rfl⟩ := HM.run_ret e4
      injection h0 with h0 h00
      subst h0 h00
      simp only [RepL] at hr
      obtain ⟨v, tl, rfl, hv, ht⟩ := hr
      obtain ⟨o, q, k1, k2⟩ := takeSl_kept h hi e1 hv b0
      obtain ⟨src, pls, k3, k4, k5⟩ := takeRow_kept h hi cs u1 _ r z _ tl (b0 + 1) e3 ht
      refine ⟨[o] ++ src, [q] ++ pls, k1.append k3, by simp [k4, rowsN, Nat.add_comm], fun L' ha => ?_⟩
      simp only [encRow, RepL]
      exact ⟨v, tl, rfl, k2 L' (Agree.head ha), k5 L' (Agree.tail ha)⟩
    · cases e

theorem takeBox_kept (h : Sim c I L s a w) (hi : ∀ b, I b → I' b) {hd : List Nat} (hh : ∀ id, id ∈ hd → ∀ p, L id = some p → p.virt = false → I' p.b) {cs : List Cell} {u u' : List Nat} {y : AV} {z : Value} {x : Val (rowsTy cs)} {rs : List Nat} (et : (takeBox c.E.toNames cs hd u y).run call s.rd = some ((x, u'), rs)) (hz : Rep (c.rc I' w) L y z) (b0 : Nat) :
    ∃ src pls, Kept (c.rc I' w) L I w b0 u u' (some { ct := .box (encRow cs (b0 + 1) x), gen := 0, frozen := false } :: encRowH cs x) src pls ∧ pls.length = rowsN cs + 1 ∧ ∀ L', Agree L' b0 pls → Rep (c.rc I' w) L' (.lptr b0 0 0 0) z := by
  unfold takeBox at et
  split at et
  · rename_i id i j0 g
    split at et
    · cases et
    · rename_i hu
      have hu : id ∉ u := by
        intro hm
        have : u.contains id = true := by simpa using hm
        rw [this] at hu
        cases hu
      obtain ⟨b, l', hb, et1, rfl⟩ := HM.run_rd et
      split at et1
      · rename_i hc
        obtain ⟨hg, hf, rfl, rfl⟩ := hc
        split at et1
        · rename_i row0 hct
          obtain ⟨⟨row, f⟩, r1, r2, ex, et2, rfl⟩ := HM.run_bind et1
          clear et1
          have et1 := et2
          clear et2
          simp only at et1
          split at et1
          case h_2 => cases et1
          rename_i hall
          obtain ⟨p, hp, hk, hfr, _⟩ := h.get hb
          have hpg : p.gen = g := by rw [hk.1, hg]
          obtain ⟨_, hk2⟩ := hk
          rw [hct] at hk2
          obtain ⟨hv, ho, cells, T, hcells, hrow0⟩ := hk2
          have hrow := (expRow_sound h ex hrow0).2 I' hi fun id hid => hh id (by
            rw [List.all_eq_true] at hall
            simpa using hall id hid)
          obtain ⟨src, pls, k1, k2, k3⟩ := takeRow_kept h hi cs _ _ row x _ _ (b0 + 1) et1 hrow
          simp only [Rep] at hz
          obtain ⟨p', hp', hge, q, hq, hcur⟩ := hz
          rw [hp] at hp'
          injection hp' with hp'
          subst hp'
          refine ⟨some id :: src, { p with gen := 0 } :: pls, ?_, by simp [k2], ?_⟩
          · exact k1.cons (p := p) hu hp ⟨rfl, rfl⟩ (fun hv => hfr hf hv) rfl fun L' ha => ⟨rfl, hv, ho, cells, T, hcells, k3 L' ha⟩
          · intro L' ha
            simp only [Rep]
            exact ⟨_, ha.head, Nat.le_refl _, q, hq, fun _ => hcur hpg⟩
        · cases et1
      · cases et1
  · cases et

theorem takeAg_kept (h : Sim c I L s a w) (hi : ∀ b, I b → I' b) {cs : List Cell} {u u' : List Nat} {y : AV} {z : Value} {x : Val (rowsTy cs)} {rs : List Nat} (et : (takeAg c.E.toNames cs u y).run call s.rd = some ((x, u'), rs)) (hz : Rep (c.rc I' w) L y z) (b0 : Nat) :
    ∃ src pls, Kept (c.rc I' w) L I w b0 u u' (encRowH cs x) src pls ∧ pls.length = rowsN cs ∧ ∀ L', Agree L' b0 pls → Rep (c.rc I' w) L' (.agg (encRow cs b0 x)) z := by
  unfold takeAg at et
  split at et
  · rename_i row
    simp only [Rep] at hz
    obtain ⟨cells, rfl, hrow⟩ := hz
    obtain ⟨src, pls, k1, k2, k3⟩ := takeRow_kept h hi cs _ _ row x _ _ b0 et hrow
    refine ⟨src, pls, k1, k2, fun L' ha => ?_⟩
    simp only [Rep]
    exact ⟨cells, rfl, k3 L' ha⟩
  · cases et

theorem decE_kept (h : Sim c I L s a w) (hi : ∀ b, I b → I' b) {hd : List Nat} (hh : ∀ id, id ∈ hd → ∀ p, L id = some p → p.virt = false → I' p.b) : ∀ (sl : List Slot) (env : List AV) (used : List Nat) (x : Val (slotsTy sl)) (rs : List Nat) (vs : List Value) (b0 : Nat), (decE' c.E.toNames hd sl used env).run call s.rd = some (x, rs) → RepL (c.rc I' w) L env vs →
    ∃ used' src pls, Kept (c.rc I' w) L I w b0 used used' (encHeap sl b0 x) src pls ∧ Shows (c.rc I' w) b0 (encEnv sl b0 x) vs pls
  | [], env, used, x, rs, vs, b0, e, hx => by
    cases env with
    | nil => exact ⟨used, [], [], Kept.nil, fun L' _ => by simpa only [encEnv, RepL] using hx⟩
    | cons y env => cases e
  | .dead :: sl, env, used, x, rs, vs, b0, e, hx => by
    cases env with
    | nil => cases e
    | cons y env =>
      simp only [decE', nextA] at e
      simp only [RepL] at hx
      obtain ⟨z, tl, rfl, hz, ht⟩ := hx
      obtain ⟨u', src, pls, h1, h2⟩ := decE_kept h hi hh sl env used x rs tl b0 e ht
      refine ⟨u', src, pls, h1, fun L' hp => ?_⟩
      simp only [encEnv, RepL]
      exact ⟨z, tl, rfl, by simp [Rep], h2 L' hp⟩
  | .data t :: sl, env, used, x, rs, vs, b0, e, hx => by
    cases env with
    | nil => cases e
    | cons y env =>
      simp only [decE', nextA] at e
      split at e
      · rename_i y' hy
        obtain ⟨r, r1, r2, e1, e2, rfl⟩ := HM.run_bind e
        obtain ⟨rfl, rfl⟩ := HM.run_ret e2
        simp only [RepL] at hx
        obtain ⟨z, tl, rfl, hz, ht⟩ := hx
        obtain ⟨u', src, pls, h1, h2⟩ := decE_kept h hi hh sl env used r _ tl b0 e1 ht
        refine ⟨u', src, pls, h1, fun L' hp => ?_⟩
        simp only [encEnv, RepL]
        exact ⟨z, tl, rfl, decV_sound (R := c.rc I' w) hy hz, h2 L' hp⟩
      · cases e
  | .sl t :: sl, env, used, x, rs, vs, b0, e, hx => by
    cases env with
    | nil => cases e
    | cons y env =>
      simp only [decE', nextA] at e
      simp only [RepL] at hx
      obtain ⟨z, tl, rfl, hz, ht⟩ := hx
      obtain ⟨⟨l0, u'⟩, q1, q2, et, ek, rfl⟩ := HM.run_bind e
      simp only at ek
      obtain ⟨r, r1, r2, e1, e2, rfl⟩ := HM.run_bind ek
      obtain ⟨rfl, rfl⟩ := HM.run_ret e2
      obtain ⟨o, q, k1, k2⟩ := takeSl_kept h hi et hz b0
      obtain ⟨u2, src, pls, k3, k4⟩ := decE_kept h hi hh sl env u' r _ tl (b0 + 1) e1 ht
      refine ⟨u2, [o] ++ src, [q] ++ pls, k1.append k3, fun L' ha => ?_⟩
      simp only [encEnv, RepL]
      exact ⟨z, tl, rfl, k2 L' (Agree.head ha), k4 L' (Agree.tail ha)⟩
  | .box cs :: sl, env, used, x, rs, vs, b0, e, hx => by
    cases env with
    | nil => cases e
    | cons y env =>
      simp only [decE', nextA] at e
      simp only [RepL] at hx
      obtain ⟨z, tl, rfl, hz, ht⟩ := hx
      obtain ⟨⟨l0, u'⟩, q1, q2, et, ek, rfl⟩ := HM.run_bind e
      simp only at ek
      obtain ⟨r, r1, r2, e1, e2, rfl⟩ := HM.run_bind ek
      obtain ⟨rfl, rfl⟩ := HM.run_ret e2
      obtain ⟨s1, p1, k1, kl, k2⟩ := takeBox_kept h hi hh et hz b0
      obtain ⟨u2, src, pls, k3, k4⟩ := decE_kept h hi hh sl env u' r _ tl (b0 + 1 + rowsN cs) e1 ht
      have hb : b0 + 1 + rowsN cs = b0 + p1.length := by rw [kl]; omega
      rw [hb] at k3 k4
      refine ⟨u2, s1 ++ src, p1 ++ pls, ?_, fun L' ha => ?_⟩
      · simp only [encHeap]
        rw [hb]
        exact k1.append k3
      · simp only [encEnv, RepL]
        rw [hb]
        exact ⟨z, tl, rfl, k2 L' ha.left, k4 L' ha.right⟩
  | .ag cs :: sl, env, used, x, rs, vs, b0, e, hx => by
    cases env with
    | nil => cases e
    | cons y env =>
      simp only [decE', nextA] at e
      simp only [RepL] at hx
      obtain ⟨z, tl, rfl, hz, ht⟩ := hx
      obtain ⟨⟨l0, u'⟩, q1, q2, et, ek, rfl⟩ := HM.run_bind e
      simp only at ek
      obtain ⟨r, r1, r2, e1, e2, rfl⟩ := HM.run_bind ek
      obtain ⟨rfl, rfl⟩ := HM.run_ret e2
      obtain ⟨s1, p1, k1, kl, k2⟩ := takeAg_kept h hi et hz b0
      obtain ⟨u2, src, pls, k3, k4⟩ := decE_kept h hi hh sl env u' r _ tl (b0 + rowsN cs) e1 ht
      rw [← kl] at k3 k4
      refine ⟨u2, s1 ++ src, p1 ++ pls, ?_, fun L' ha => ?_⟩
      · simp only [encHeap]
        rw [← kl]
        exact k1.append k3
      · simp only [encEnv, RepL]
        rw [← kl]
        exact ⟨z, tl, rfl, k2 L' ha.left, k4 L' ha.right⟩

end

/-- A STATE TOLD AS PLAIN DATA stands for all that it stood for. -/
theorem decSlots_ref {P : Program} {E : Env} {S : Nat → Addr} {sl : List Slot} {s : St} {x : Val (slotsTy sl)} {rs : List Nat} {call : CallF} (e : (decSlots E.toNames sl s).run call s.rd = some (x, rs)) : Ref P E S s (encSlots sl x) := by
  intro w0 I0 I L a w h
  unfold decSlots at e
  obtain ⟨⟨env, ids⟩, r1, r2, e1, e2, rfl⟩ := HM.run_bind e
  simp only at e2
  obtain ⟨g1, g2⟩ := expA_sound h e1 h.env
  have hi : ∀ b, I b → heldBy I L ids b := fun b hb => .inl hb
  have hrep := g2 (heldBy I L ids) hi (fun id hid p hp hv => .inr ⟨id, p, hid, hp, hv, rfl⟩)
  obtain ⟨used', src, pls, hk, hs⟩ := decE_kept (c := ⟨P, E, S, w0, I0⟩) h hi (fun id hid p hp hv => .inr ⟨id, p, hid, hp, hv, rfl⟩) sl _ _ _ _ _ 0 e2 hrep
  have hag : Agree (fun b => pls[b]?) 0 pls := fun j p hj => by simpa using hj
  have hsrc : ∀ (b : Nat) (q : Pl), pls[b]? = some q → q.virt = false → ∃ id p, src[b]? = some (some id) ∧ id ∉ ids ∧ L id = some p ∧ q.b = p.b ∧ p.virt = false ∧ ¬ I p.b := by
    intro b q hq hv
    have hlt : b < src.length := by rw [← hk.len.1]; exact (List.getElem?_eq_some_iff.1 hq).1
    cases hsb : src[b]? with
    | none => rw [List.getElem?_eq_none_iff] at hsb; omega
    | some o =>
      cases o with
      | none =>
        obtain ⟨q', hq', hv'⟩ := hk.virt b hsb
        rw [hq] at hq'
        injection hq' with hq'
        subst hq'
        rw [hv] at hv'
        cases hv'
      | some id =>
        obtain ⟨h1, _, p, q', h2, h3, h4, h5, h6⟩ := hk.own b id hsb
        rw [hq] at h3
        injection h3 with h3
        subst h3
        have hpv : p.virt = false := by rw [← h5]; exact hv
        exact ⟨id, p, rfl, h1, h2, h4, hpv, h6 hpv⟩
  refine ⟨heldBy I L ids, fun b => pls[b]?, ?_, h.defers, ?_, ?_, ?_, ?_, ?_, fun b hb => .inl (h.i0 b hb), ?_, h.same, h.grow, h.io⟩
  · exact hs (fun b => pls[b]?) hag
  · intro b B hB
    obtain ⟨B', p, hx, hz, hp, hB'⟩ := hk.blk b _ hB
    injection hx with hx
    subst hx
    refine ⟨p, hp, hB' _ hag, fun _ hv hI => ?_⟩
    obtain ⟨id, p0, _, hid, hp0, hb0, hv0, hI0⟩ := hsrc b p hp hv
    rcases hI with hI | ⟨id2, p2, hid2, hp2, hv2, hb2⟩
    · rw [hb0] at hI; exact hI0 hI
    · have := h.inj id id2 p0 p2 hp0 hp2 hv0 hv2 (by rw [← hb0]; exact hb2)
      rw [this] at hid
      exact hid hid2
  · intro b p hp
    have hlt : b < (encHeap sl 0 x).length := by rw [← hk.len.2, ← hk.len.1]; exact (List.getElem?_eq_some_iff.1 hp).1
    have hB := List.getElem?_eq_getElem hlt
    obtain ⟨B, p', hx, _⟩ := hk.blk b _ hB
    exact ⟨B, by rw [← hx]; exact hB⟩
  · intro b p hp hv
    obtain ⟨id, p0, _, _, hp0, hb0, hv0, _⟩ := hsrc b p hp hv
    rw [hb0]
    exact h.own id p0 hp0 hv0
  · intro b b' p p' hp hp' hv hv' hbb
    obtain ⟨id, p0, hs0, _, hp0, hb0, hv0, _⟩ := hsrc b p hp hv
    obtain ⟨id', p0', hs0', _, hp0', hb0', hv0', _⟩ := hsrc b' p' hp' hv'
    have := h.inj id id' p0 p0' hp0 hp0' hv0 hv0' (by rw [← hb0, ← hb0']; exact hbb)
    subst this
    exact hk.inj b b' id hs0 hs0'
  · intro b hb
    rcases hb with hb | ⟨id, p, _, hp, hv, rfl⟩
    · exact h.imm b hb
    · exact (h.own id p hp hv).2
  · intro b hb
    rcases hb with hb | ⟨id, p, _, hp, hv, rfl⟩
    · exact h.iN b hb
    · exact .inr (h.own id p hp hv).1

end Go.Eng
