/-
  Plain laws of numbers and lists that the proofs lean on.
-/
import Derived.Test.YtnbpgehpjhifgaaDoorLxEngZb
import Derived.IntWalk
namespace Go.Eng
open Go

theorem wi64_in {n : Int} (h : -9223372036854775808 ≤ n) (h' : n ≤ 9223372036854775807) : wi64 n = n := IntWalk.i64_in n ⟨h, h'⟩
theorem wi32_in {n : Int} (h : -2147483648 ≤ n) (h' : n ≤ 2147483647) : wi32 n = n := IntWalk.i32_in n ⟨h, h'⟩

theorem wi64_eq (n : Int) : wi64 n = (n + 9223372036854775808) % 18446744073709551616 - 9223372036854775808 := by
  show IntKind.wrap .i64 n = _
  rw [IntKind.wrap_i64]

theorem wi64_succ {i : Nat} (h : i < 9223372036854775807) : wi64 ((i : Int) + 1) = ((i + 1 : Nat) : Int) := by
  rw [wi64_in (by omega) (by omega)]
  omega

theorem cond_dec {α : Type} {p : Prop} [Decidable p] {a b : α} : cond (decide p) a b = @ite α p (Classical.propDecidable p) a b := by
  by_cases h : p <;> simp [h]

theorem drop_cons {α : Type} {l : List α} {i : Nat} (h : i < l.length) (d : α) : l.drop i = l.getD i d :: l.drop (i + 1) := by
  rw [List.drop_eq_getElem_cons h]
  congr 1
  rw [List.getD_eq_getElem?_getD, List.getElem?_eq_getElem h]
  rfl

theorem getD_lt {α : Type} {l : List α} {i : Nat} (h : i < l.length) (d : α) : l.getD i d = l[i] := by
  rw [List.getD_eq_getElem?_getD, List.getElem?_eq_getElem h]
  rfl

/-- (a list of its own, handed out whole) -/
theorem take_drop_zero {α : Type} (l : List α) : List.take (List.length l) (List.drop 0 l) = l := by simp

theorem isNil_iff (e : Er) : e.isNil = true ↔ e = .nil := by cases e <;> simp [Er.isNil]

/-- the sum of the first ones -/
def sumN (f : Nat → Int) : Nat → Int
  | 0 => 0
  | k + 1 => sumN f k + f k

theorem sumN_bound (f : Nat → Int) (B : Int) (h : ∀ i, -B ≤ f i ∧ f i ≤ B) : ∀ k : Nat, -(B * k) ≤ sumN f k ∧ sumN f k ≤ B * k
  | 0 => by simp [sumN]
  | k + 1 => by
    have := sumN_bound f B h k
    have h1 := h k
    have e : B * ((k + 1 : Nat) : Int) = B * k + B := by rw [Int.natCast_add, Int.mul_add]; simp
    simp only [sumN]
    rw [e]
    omega

/-- (a list whose first ones are done) -/
theorem set_upto {α : Type} (L q : Nat) (c d : Nat → α) (hq : q < L) :
    ((List.range L).map (fun p => if p < q then c p else d p)).set q (c q) = (List.range L).map (fun p => if p < q + 1 then c p else d p) := by
  apply List.ext_getElem
  · simp
  · intro p h1 h2
    simp only [List.getElem_set, List.getElem_map, List.getElem_range]
    by_cases h : q = p
    · subst h; simp
    · rw [if_neg h]
      by_cases h3 : p < q
      · rw [if_pos h3, if_pos (by omega)]
      · rw [if_neg h3, if_neg (by omega)]

theorem map_upto_zero {α : Type} (L : Nat) (c d : Nat → α) : (List.range L).map (fun p => if p < 0 then c p else d p) = (List.range L).map d := by
  apply List.map_congr_left
  intro p _
  simp

theorem map_upto_all {α : Type} (L : Nat) (c d : Nat → α) : (List.range L).map (fun p => if p < L then c p else d p) = (List.range L).map c := by
  apply List.map_congr_left
  intro p hp
  rw [if_pos (List.mem_range.1 hp)]

theorem replicate_range {α : Type} (L : Nat) (x : α) : List.replicate L x = (List.range L).map (fun _ => x) := by
  apply List.ext_getElem <;> simp

/-- a number cut to 32 bits, round -/
def round32 (n : Int) : Int := (n + 2147483648) % 4294967296 - 2147483648

theorem wide_chain (n : Int) : wi64 (wi32 (wu32 (wu64 n))) = round32 n := by
  show IntKind.wrap .i64 (IntKind.wrap .i32 (IntKind.wrap .u32 (IntKind.wrap .u64 n))) = _
  rw [IntKind.wrap_i64, IntKind.wrap_i32, IntKind.wrap_u32]
  have hu : IntKind.wrap .u64 n = n % 18446744073709551616 := by simp [IntKind.wrap, IntKind.bits, IntKind.signed]
  rw [hu]
  unfold round32
  omega

theorem mul_le_of {a b A B : Int} (h0 : 0 ≤ a) (h1 : a ≤ A) (h2 : 0 ≤ b) (h3 : b ≤ B) : a * b ≤ A * B := Int.mul_le_mul h1 h3 h2 (by omega)

theorem mul_abs {a b A B : Int} (h0 : -A ≤ a) (h1 : a ≤ A) (h2 : -B ≤ b) (h3 : b ≤ B) : -(A * B) ≤ a * b ∧ a * b ≤ A * B := by
  have hA : 0 ≤ A := by omega
  have hB : 0 ≤ B := by omega
  rcases Int.le_total 0 a with ha | ha <;> rcases Int.le_total 0 b with hb | hb
  · have := Int.mul_le_mul h1 h3 hb hA
    have := Int.mul_nonneg ha hb
    have := Int.mul_nonneg hA hB
    omega
  · have := Int.mul_le_mul h1 (show -b ≤ B by omega) (by omega) hA
    have := Int.mul_nonneg ha (show 0 ≤ -b by omega)
    rw [Int.mul_neg] at *
    have := Int.mul_nonneg hA hB
    omega
  · have := Int.mul_le_mul (show -a ≤ A by omega) h3 hb hA
    have := Int.mul_nonneg (show 0 ≤ -a by omega) hb
    rw [Int.neg_mul] at *
    have := Int.mul_nonneg hA hB
    omega
  · have := Int.mul_le_mul (show -a ≤ A by omega) (show -b ≤ B by omega) (by omega) hA
    have := Int.mul_nonneg (show 0 ≤ -a by omega) (show 0 ≤ -b by omega)
    rw [Int.neg_mul_neg] at *
    have := Int.mul_nonneg hA hB
    omega

/-- a place in rows -/
theorem wi64_mul {i k : Nat} (h : i * k ≤ 1099511627776) : wi64 ((i : Int) * k) = ((i * k : Nat) : Int) := by
  rw [show (i : Int) * k = ((i * k : Nat) : Int) by simp]
  generalize i * k = P at h
  rw [wi64_in (by omega) (by omega)]

theorem wi64_add {i k : Nat} (h : i + k ≤ 1099511627776) : wi64 ((i : Int) + k) = ((i + k : Nat) : Int) := by
  rw [wi64_in (by omega) (by omega)]
  omega

theorem wi64_row {i k x : Nat} (h : i * k + x ≤ 1099511627776) : wi64 (wi64 ((i : Int) * k) + x) = ((i * k + x : Nat) : Int) := by
  rw [wi64_mul (by omega), wi64_add h]

theorem tmod_below {n b : Int} (hb : 0 < b) : Int.tmod (Int.tmod n b + b) b = n % b := by
  have h1 := Int.emod_nonneg n (show b ≠ 0 by omega)
  have h2 := Int.emod_lt_of_pos n hb
  have key : ∀ r : Int, 0 ≤ r → r < b → Int.tmod (r + b) b = r := by
    intro r h0 h1
    rw [Int.tmod_eq_emod_of_nonneg (by omega), Int.add_emod_right, Int.emod_eq_of_lt h0 h1]
  have he : Int.tmod n b = n % b ∨ Int.tmod n b = n % b - b := by
    rw [Int.tmod_eq_emod]
    split
    · left; omega
    · right; omega
  rcases he with he | he <;> rw [he]
  · exact key _ h1 h2
  · rw [show n % b - b + b = n % b from by omega, Int.tmod_eq_emod_of_nonneg h1, Int.emod_eq_of_lt h1 h2]

theorem tmod_lt {n b : Int} (hb : 0 < b) : -b < Int.tmod n b ∧ Int.tmod n b < b := by
  have h1 := Int.emod_nonneg n (show b ≠ 0 by omega)
  have h2 := Int.emod_lt_of_pos n hb
  rw [Int.tmod_eq_emod]
  split
  · omega
  · rename_i h
    have : n % b ≠ 0 := fun e => h (.inr (Int.dvd_of_emod_eq_zero e))
    omega

theorem tmod_nat (i k : Nat) : Int.tmod (i : Int) (k : Int) = ((i % k : Nat) : Int) := (Int.ofNat_tmod i k).symm

theorem getD_append_left {α : Type} {l m : List α} {i : Nat} {d : α} (h : i < l.length) : (l ++ m).getD i d = l.getD i d := by
  rw [List.getD_eq_getElem?_getD, List.getD_eq_getElem?_getD, List.getElem?_append_left h]

/-! step by step -/
theorem bnd {α β : Type} {x : Option α} (a : α) {f : α → Option β} {r : Option β} (h : x = some a) (h2 : f a = r) : Option.bind x f = r := by rw [h]; exact h2
theorem cT {α : Type} {p : Prop} [Decidable p] {a b r : α} (h : p) (h2 : a = r) : cond (decide p) a b = r := by rw [decide_eq_true h]; exact h2
theorem cF {α : Type} {p : Prop} [Decidable p] {a b r : α} (h : ¬ p) (h2 : b = r) : cond (decide p) a b = r := by rw [decide_eq_false h]; exact h2
theorem bT {α : Type} {c : Bool} {a b r : α} (h : c = true) (h2 : a = r) : cond c a b = r := by rw [h]; exact h2
theorem bF {α : Type} {c : Bool} {a b r : α} (h : c = false) (h2 : b = r) : cond c a b = r := by rw [h]; exact h2

/-! what something comes to -/
def Yld {α : Type} (x : Option α) (P : α → Prop) : Prop := ∃ y, x = some y ∧ P y
namespace Yld
theorem ret {α : Type} {P : α → Prop} {a : α} (h : P a) : Yld (some a) P := ⟨a, rfl, h⟩
theorem eq {α : Type} {x : Option α} {P : α → Prop} (a : α) (h : x = some a) (h2 : P a) : Yld x P := ⟨a, h, h2⟩
theorem bnd {α β : Type} {x : Option α} (a : α) {f : α → Option β} {P : β → Prop} (h : x = some a) (h2 : Yld (f a) P) : Yld (Option.bind x f) P := by rw [h]; exact h2
theorem bind {α β : Type} {x : Option α} {Q : α → Prop} {f : α → Option β} {P : β → Prop} (h : Yld x Q) (h2 : ∀ a, Q a → Yld (f a) P) : Yld (Option.bind x f) P := by
  obtain ⟨a, rfl, ha⟩ := h
  exact h2 a ha
theorem mono {α : Type} {x : Option α} {P Q : α → Prop} (h : Yld x P) (h2 : ∀ a, P a → Q a) : Yld x Q := by
  obtain ⟨a, e, ha⟩ := h
  exact ⟨a, e, h2 a ha⟩
theorem cT {α : Type} {p : Prop} [Decidable p] {a b : Option α} {P : α → Prop} (h : p) (h2 : Yld a P) : Yld (cond (decide p) a b) P := by rw [decide_eq_true h]; exact h2
theorem cF {α : Type} {p : Prop} [Decidable p] {a b : Option α} {P : α → Prop} (h : ¬ p) (h2 : Yld b P) : Yld (cond (decide p) a b) P := by rw [decide_eq_false h]; exact h2
theorem bT {α : Type} {c : Bool} {a b : Option α} {P : α → Prop} (h : c = true) (h2 : Yld a P) : Yld (cond c a b) P := by rw [h]; exact h2
theorem bF {α : Type} {c : Bool} {a b : Option α} {P : α → Prop} (h : c = false) (h2 : Yld b P) : Yld (cond c a b) P := by rw [h]; exact h2
theorem ite {α : Type} {p : Prop} [Decidable p] {a b : Option α} {P : α → Prop} (h1 : p → Yld a P) (h2 : ¬ p → Yld b P) : Yld (cond (decide p) a b) P := by
  by_cases h : p
  · exact cT h (h1 h)
  · exact cF h (h2 h)
theorem cond {α : Type} {c : Bool} {a b : Option α} {P : α → Prop} (h1 : c = true → Yld a P) (h2 : c = false → Yld b P) : Yld (cond c a b) P := by
  cases c with
  | true => exact h1 rfl
  | false => exact h2 rfl
end Yld

end Go.Eng
