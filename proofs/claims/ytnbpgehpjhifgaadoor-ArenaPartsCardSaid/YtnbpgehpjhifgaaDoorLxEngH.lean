/-
  The abstract machine, part 8: the rest of the operations that make a value alone.
-/
import Derived.Test.YtnbpgehpjhifgaaDoorLxEngG
namespace Go.Eng

section
variable {c : Ctx} {I : Nat → Prop} {L : Ref → Option Pl} {s : St} {a : Act} {w : World} {call : CallF}

theorem cells_sound {R : RC} {L : Ref → Option Pl} {x : AV} {v : Value} {cs : List AV} (h : x.cells = some cs) (hx : Rep R L x v) : RepL R L cs v.cells.toList := by
  have one : ∀ {x : AV} {v : Value}, Rep R L x v → (∀ l, v ≠ .agg l) → RepL R L [x] v.cells.toList := by
    intro x v hx hv
    cases v <;> first | (exact absurd rfl (hv _)) | (simp only [Value.cells, RepL]; exact ⟨_, [], rfl, hx, rfl⟩)
  unfold AV.cells at h
  split at h
  · injection h with h
    subst h
    simp only [Rep] at hx
    obtain ⟨cs, rfl, hl⟩ := hx
    exact hl
  · cases h
  · cases h
  · cases h
  · cases h
  · rename_i h1 h2 h3 h4 h5
    injection h with h
    subst h
    refine one hx fun l hv => ?_
    subst hv
    cases x with
    | v y => simp only [Rep] at hx; exact h4 _ (by rw [← hx])
    | er e => simp only [Rep] at hx; cases e with
      | nil => simp only [RepE] at hx; cases hx
      | s g => simp only [RepE] at hx; obtain ⟨_, hx⟩ := hx; cases hx
      | «at» p g => simp only [RepE] at hx; obtain ⟨_, _, hx, _⟩ := hx; cases hx
    | agg l => exact h1 _ rfl
    | tup l => exact h2 _ rfl
    | isl t l => simp only [Rep] at hx; obtain ⟨_, _, hx, _⟩ := hx; cases hx
    | nsl t l => simp only [Rep] at hx; obtain ⟨_, _, _, _, hx⟩ := hx; cases hx
    | iptr r j => simp only [Rep] at hx; obtain ⟨_, _, hx, _⟩ := hx; cases hx
    | gptr g j => simp only [Rep] at hx; cases hx
    | lsl t id i n g => simp only [Rep] at hx; obtain ⟨_, _, _, _, _, _, hx, _⟩ := hx; cases hx
    | lptr id i j g => simp only [Rep] at hx; obtain ⟨_, _, _, _, hx, _⟩ := hx; cases hx
    | iface t y => simp only [Rep] at hx; obtain ⟨_, hx, _⟩ := hx; cases hx
    | fn f a1 c1 => simp only [Rep] at hx; obtain ⟨_, _, hx, _⟩ := hx; cases hx
    | hd k x =>
      simp only [Rep] at hx
      cases x with
      | none => have hx : [_] = [_] := hx; cases hx
      | some i => obtain ⟨_, _, hx⟩ := hx; cases hx
    | top => exact h3 rfl

theorem isCell_sound {R : RC} {L : Ref → Option Pl} {x : AV} {v : Value} (h : x.isCell = true) (hx : Rep R L x v) : v.oneCell' = true := by
  cases x with
  | v y => simp only [Rep] at hx; subst hx; cases v <;> first | rfl | cases h
  | er e => simp only [Rep] at hx; cases e with
    | nil => simp only [RepE] at hx; subst hx; rfl
    | s g => simp only [RepE] at hx; obtain ⟨_, rfl⟩ := hx; rfl
    | «at» p g => simp only [RepE] at hx; obtain ⟨_, _, rfl, _⟩ := hx; rfl
  | agg l => cases h
  | tup l => cases h
  | isl t l => simp only [Rep] at hx; obtain ⟨_, _, hx, _⟩ := hx; simp only [List.cons.injEq, and_true] at hx; subst hx; rfl
  | nsl t l => simp only [Rep] at hx; obtain ⟨_, _, _, _, rfl⟩ := hx; rfl
  | iptr r j => simp only [Rep] at hx; obtain ⟨_, _, rfl, _⟩ := hx; rfl
  | gptr g j => simp only [Rep] at hx; subst hx; rfl
  | lsl t id i n g => simp only [Rep] at hx; obtain ⟨_, _, _, _, _, _, rfl, _⟩ := hx; rfl
  | lptr id i j g => simp only [Rep] at hx; obtain ⟨_, _, _, _, rfl, _⟩ := hx; rfl
  | iface t y => simp only [Rep] at hx; obtain ⟨_, rfl, _⟩ := hx; rfl
  | fn f a1 c1 => simp only [Rep] at hx; obtain ⟨_, _, rfl, _⟩ := hx; rfl
  | hd k x =>
    simp only [Rep] at hx
    cases x with
    | none => have hx : [_] = [_] := hx; injection hx with hx; subst hx; rfl
    | some i => obtain ⟨_, _, hx⟩ := hx; injection hx with hx; subst hx; rfl
  | top => cases h

/-- cells laid into cells -/
def wrAt (cs : Array Value) (j : Nat) : List Value → Array Value
  | [] => cs
  | v :: r => wrAt (cs.setIfInBounds j v) (j + 1) r

theorem wrAt_size : ∀ (vs : List Value) (cs : Array Value) (j : Nat), (wrAt cs j vs).size = cs.size
  | [], _, _ => rfl
  | v :: r, cs, j => by simp only [wrAt]; rw [wrAt_size r]; simp

theorem setRow_length : ∀ (cs row : List AV) (j : Nat), (setRow row j cs).length = row.length
  | [], _, _ => rfl
  | x :: r, row, j => by simp only [setRow]; rw [setRow_length r]; simp

theorem setRow_sound {R : RC} {L : Ref → Option Pl} : ∀ {cs : List AV} {vs : List Value} {row : List AV} {ys : Array Value} {j : Nat}, RepL R L row ys.toList → RepL R L cs vs → RepL R L (setRow row j cs) (wrAt ys j vs).toList
  | [], vs, row, ys, j, hr, hc => by simp only [RepL] at hc; subst hc; exact hr
  | x :: r, vs, row, ys, j, hr, hc => by
    simp only [RepL] at hc
    obtain ⟨y, t, rfl, hy, ht⟩ := hc
    simp only [setRow, wrAt]
    refine setRow_sound ?_ ht
    rw [Array.toList_setIfInBounds]
    exact hr.set j hy

theorem wrAt_fold : ∀ (vs : List Value) (cells : Array Value) (off k : Nat), (vs.zipIdx k).foldl (fun cs (x : Value × Nat) => cs.setIfInBounds (off + x.2) x.1) cells = wrAt cells (off + k) vs
  | [], _, _, _ => rfl
  | v :: r, cells, off, k => by
    simp only [List.zipIdx_cons, List.foldl_cons, wrAt]
    rw [wrAt_fold r _ off (k + 1)]
    rfl

theorem fill_sound {R : RC} {L : Ref → Option Pl} {place : Nat → Option (Nat × Nat)} : ∀ {parts : List (Nat × AV)} {vparts : List (Nat × Value)} {row out : List AV} {ys : Array Value},
    parts.map (·.1) = vparts.map (·.1) → RepL R L (parts.map (·.2)) (vparts.map (·.2)) → RepL R L row ys.toList → fillA place row parts = some out →
    ∃ zs, Instr.fill place ys vparts = some zs ∧ RepL R L out zs.toList
  | [], vparts, row, out, ys, h1, h2, hr, e => by
    have : vparts = [] := by cases vparts <;> simp at h1 ⊢
    subst this
    simp only [fillA, Option.some.injEq] at e
    subst e
    exact ⟨ys, rfl, hr⟩
  | (i, x) :: rest, vparts, row, out, ys, h1, h2, hr, e => by
    cases vparts with
    | nil => simp at h1
    | cons pv vrest =>
      obtain ⟨i', v⟩ := pv
      simp only [List.map_cons, List.cons.injEq] at h1
      obtain ⟨rfl, h1⟩ := h1
      simp only [List.map_cons, RepL] at h2
      obtain ⟨y, t, hyt, hy, ht⟩ := h2
      simp only [List.cons.injEq] at hyt
      obtain ⟨rfl, rfl⟩ := hyt
      simp only [fillA] at e
      split at e
      · rename_i off size cs hp hcs
        split at e
        · rename_i hc
          obtain ⟨hsz, hle⟩ := hc
          have hcell := cells_sound hcs hy
          have hlen := hcell.length
          have hrl := hr.length
          obtain ⟨zs, hz, ho⟩ := fill_sound (ys := wrAt ys off v.cells.toList) h1 ht (setRow_sound hr hcell) e
          refine ⟨zs, ?_, ho⟩
          have hsz' : v.cells.size = size := by simpa [hsz] using hlen
          have hle' : ¬ (ys.size < off + v.cells.size) := by
            have : ys.size = row.length := by simpa using hrl
            omega
          simp only [Instr.fill, hp, hsz', ne_eq, not_true_eq_false, decide_false, Bool.false_or, decide_eq_true_eq]
          rw [if_neg (by rw [← hsz']; simpa using hle')]
          have hf := wrAt_fold v.cells.toList ys off 0
          rw [Nat.add_zero] at hf
          rw [← hz, ← hf]
          congr 1
          rw [← Array.foldl_toList]
          simp
        · cases e
      · cases e

end
end Go.Eng
