/-
  Texts of the proof, one behind the other.
-/
import Derived.Test.YtnbpgehpjhifgaaDoorLxPg
import Derived.IntWalk

/-
  Plain laws of numbers and lists that the proofs lean on.
-/
namespace Go.Eng
open Go

theorem wi64_in {n : Int} (h : -9223372036854775808 ≤ n) (h' : n ≤ 9223372036854775807) : wi64 n = n := IntWalk.i64_in n ⟨h, h'⟩
theorem wi32_in {n : Int} (h : -2147483648 ≤ n) (h' : n ≤ 2147483647) : wi32 n = n := IntWalk.i32_in n ⟨h, h'⟩

theorem wi64_eq (n : Int) : wi64 n = (n + 9223372036854775808) % 18446744073709551616 - 9223372036854775808 := by
  show IntKind.wrap .i64 n = _
  rw [IntKind.wrap_i64]

theorem wi64_succ {i : Nat} (h : i < 9223372036854775807) : wi64 ((i : Int) + 1) = ((i + 1 : Nat) : Int) := by
  rw [wi64_in (by omega) (by omega)]
  omega

theorem cond_dec {α : Type} {p : Prop} [Decidable p] {a b : α} : cond (decide p) a b = @ite α p (Classical.propDecidable p) a b := by
  by_cases h : p <;> simp [h]

theorem drop_cons {α : Type} {l : List α} {i : Nat} (h : i < l.length) (d : α) : l.drop i = l.getD i d :: l.drop (i + 1) := by
  rw [List.drop_eq_getElem_cons h]
  congr 1
  rw [List.getD_eq_getElem?_getD, List.getElem?_eq_getElem h]
  rfl

theorem getD_lt {α : Type} {l : List α} {i : Nat} (h : i < l.length) (d : α) : l.getD i d = l[i] := by
  rw [List.getD_eq_getElem?_getD, List.getElem?_eq_getElem h]
  rfl

/-- (a list of its own, handed out whole) -/
theorem take_drop_zero {α : Type} (l : List α) : List.take (List.length l) (List.drop 0 l) = l := by simp

theorem isNil_iff (e : Er) : e.isNil = true ↔ e = .nil := by cases e <;> simp [Er.isNil]

/-- the sum of the first ones -/
def sumN (f : Nat → Int) : Nat → Int
  | 0 => 0
  | k + 1 => sumN f k + f k

theorem sumN_bound (f : Nat → Int) (B : Int) (h : ∀ i, -B ≤ f i ∧ f i ≤ B) : ∀ k : Nat, -(B * k) ≤ sumN f k ∧ sumN f k ≤ B * k
  | 0 => by simp [sumN]
  | k + 1 => by
    have := sumN_bound f B h k
    have h1 := h k
    have e : B * ((k + 1 : Nat) : Int) = B * k + B := by rw [Int.natCast_add, Int.mul_add]; simp
    simp only [sumN]
    rw [e]
    omega

/-- (a list whose first ones are done) -/
theorem set_upto {α : Type} (L q : Nat) (c d : Nat → α) (hq : q < L) :
    ((List.range L).map (fun p => if p < q then c p else d p)).set q (c q) = (List.range L).map (fun p => if p < q + 1 then c p else d p) := by
  apply List.ext_getElem
  · simp
  · intro p h1 h2
    simp only [List.getElem_set, List.getElem_map, List.getElem_range]
    by_cases h : q = p
    · subst h; simp
    · rw [if_neg h]
      by_cases h3 : p < q
      · rw [if_pos h3, if_pos (by omega)]
      · rw [if_neg h3, if_neg (by omega)]

theorem map_upto_zero {α : Type} (L : Nat) (c d : Nat → α) : (List.range L).map (fun p => if p < 0 then c p else d p) = (List.range L).map d := by
  apply List.map_congr_left
  intro p _
  simp

theorem map_upto_all {α : Type} (L : Nat) (c d : Nat → α) : (List.range L).map (fun p => if p < L then c p else d p) = (List.range L).map c := by
  apply List.map_congr_left
  intro p hp
  rw [if_pos (List.mem_range.1 hp)]

theorem replicate_range {α : Type} (L : Nat) (x : α) : List.replicate L x = (List.range L).map (fun _ => x) := by
  apply List.ext_getElem <;> simp

/-- a number cut to 32 bits, round -/
def round32 (n : Int) : Int := (n + 2147483648) % 4294967296 - 2147483648

theorem wide_chain (n : Int) : wi64 (wi32 (wu32 (wu64 n))) = round32 n := by
  show IntKind.wrap .i64 (IntKind.wrap .i32 (IntKind.wrap .u32 (IntKind.wrap .u64 n))) = _
  rw [IntKind.wrap_i64, IntKind.wrap_i32, IntKind.wrap_u32]
  have hu : IntKind.wrap .u64 n = n % 18446744073709551616 := by simp [IntKind.wrap, IntKind.bits, IntKind.signed]
  rw [hu]
  unfold round32
  omega

theorem mul_le_of {a b A B : Int} (h0 : 0 ≤ a) (h1 : a ≤ A) (h2 : 0 ≤ b) (h3 : b ≤ B) : a * b ≤ A * B := Int.mul_le_mul h1 h3 h2 (by omega)

theorem mul_abs {a b A B : Int} (h0 : -A ≤ a) (h1 : a ≤ A) (h2 : -B ≤ b) (h3 : b ≤ B) : -(A * B) ≤ a * b ∧ a * b ≤ A * B := by
  have hA : 0 ≤ A := by omega
  have hB : 0 ≤ B := by omega
  rcases Int.le_total 0 a with ha | ha <;> rcases Int.le_total 0 b with hb | hb
  · have := Int.mul_le_mul h1 h3 hb hA
    have := Int.mul_nonneg ha hb
    have := Int.mul_nonneg hA hB
    omega
  · have := Int.mul_le_mul h1 (show -b ≤ B by omega) (by omega) hA
    have := Int.mul_nonneg ha (show 0 ≤ -b by omega)
    rw [Int.mul_neg] at *
    have := Int.mul_nonneg hA hB
    omega
  · have := Int.mul_le_mul (show -a ≤ A by omega) h3 hb hA
    have := Int.mul_nonneg (show 0 ≤ -a by omega) hb
    rw [Int.neg_mul] at *
    have := Int.mul_nonneg hA hB
    omega
  · have := Int.mul_le_mul (show -a ≤ A by omega) (show -b ≤ B by omega) (by omega) hA
    have := Int.mul_nonneg (show 0 ≤ -a by omega) (show 0 ≤ -b by omega)
    rw [Int.neg_mul_neg] at *
    have := Int.mul_nonneg hA hB
    omega

/-- a place in rows -/
theorem wi64_mul {i k : Nat} (h : i * k ≤ 1099511627776) : wi64 ((i : Int) * k) = ((i * k : Nat) : Int) := by
  rw [show (i : Int) * k = ((i * k : Nat) : Int) by simp]
  generalize i * k = P at h
  rw [wi64_in (by omega) (by omega)]

theorem wi64_add {i k : Nat} (h : i + k ≤ 1099511627776) : wi64 ((i : Int) + k) = ((i + k : Nat) : Int) := by
  rw [wi64_in (by omega) (by omega)]
  omega

theorem wi64_row {i k x : Nat} (h : i * k + x ≤ 1099511627776) : wi64 (wi64 ((i : Int) * k) + x) = ((i * k + x : Nat) : Int) := by
  rw [wi64_mul (by omega), wi64_add h]

theorem tmod_below {n b : Int} (hb : 0 < b) : Int.tmod (Int.tmod n b + b) b = n % b := by
  have h1 := Int.emod_nonneg n (show b ≠ 0 by omega)
  have h2 := Int.emod_lt_of_pos n hb
  have key : ∀ r : Int, 0 ≤ r → r < b → Int.tmod (r + b) b = r := by
    intro r h0 h1
    rw [Int.tmod_eq_emod_of_nonneg (by omega), Int.add_emod_right, Int.emod_eq_of_lt h0 h1]
  have he : Int.tmod n b = n % b ∨ Int.tmod n b = n % b - b := by
    rw [Int.tmod_eq_emod]
    split
    · left; omega
    · right; omega
  rcases he with he | he <;> rw [he]
  · exact key _ h1 h2
  · rw [show n % b - b + b = n % b from by omega, Int.tmod_eq_emod_of_nonneg h1, Int.emod_eq_of_lt h1 h2]

theorem tmod_lt {n b : Int} (hb : 0 < b) : -b < Int.tmod n b ∧ Int.tmod n b < b := by
  have h1 := Int.emod_nonneg n (show b ≠ 0 by omega)
  have h2 := Int.emod_lt_of_pos n hb
  rw [Int.tmod_eq_emod]
  split
  · omega
  · rename_i h
    have : n % b ≠ 0 := fun e => h (.inr (Int.dvd_of_emod_eq_zero e))
    omega

theorem tmod_nat (i k : Nat) : Int.tmod (i : Int) (k : Int) = ((i % k : Nat) : Int) := (Int.ofNat_tmod i k).symm

theorem getD_append_left {α : Type} {l m : List α} {i : Nat} {d : α} (h : i < l.length) : (l ++ m).getD i d = l.getD i d := by
  rw [List.getD_eq_getElem?_getD, List.getD_eq_getElem?_getD, List.getElem?_append_left h]

/-! step by step -/
theorem bnd {α β : Type} {x : Option α} (a : α) {f : α → Option β} {r : Option β} (h : x = some a) (h2 : f a = r) : Option.bind x f = r := by rw [h]; exact h2
theorem cT {α : Type} {p : Prop} [Decidable p] {a b r : α} (h : p) (h2 : a = r) : cond (decide p) a b = r := by rw [decide_eq_true h]; exact h2
theorem cF {α : Type} {p : Prop} [Decidable p] {a b r : α} (h : ¬ p) (h2 : b = r) : cond (decide p) a b = r := by rw [decide_eq_false h]; exact h2
theorem bT {α : Type} {c : Bool} {a b r : α} (h : c = true) (h2 : a = r) : cond c a b = r := by rw [h]; exact h2
theorem bF {α : Type} {c : Bool} {a b r : α} (h : c = false) (h2 : b = r) : cond c a b = r := by rw [h]; exact h2

/-! what something comes to -/
def Yld {α : Type} (x : Option α) (P : α → Prop) : Prop := ∃ y, x = some y ∧ P y
namespace Yld
theorem ret {α : Type} {P : α → Prop} {a : α} (h : P a) : Yld (some a) P := ⟨a, rfl, h⟩
theorem eq {α : Type} {x : Option α} {P : α → Prop} (a : α) (h : x = some a) (h2 : P a) : Yld x P := ⟨a, h, h2⟩
theorem bnd {α β : Type} {x : Option α} (a : α) {f : α → Option β} {P : β → Prop} (h : x = some a) (h2 : Yld (f a) P) : Yld (Option.bind x f) P := by rw [h]; exact h2
theorem bind {α β : Type} {x : Option α} {Q : α → Prop} {f : α → Option β} {P : β → Prop} (h : Yld x Q) (h2 : ∀ a, Q a → Yld (f a) P) : Yld (Option.bind x f) P := by
  obtain ⟨a, rfl, ha⟩ := h
  exact h2 a ha
theorem mono {α : Type} {x : Option α} {P Q : α → Prop} (h : Yld x P) (h2 : ∀ a, P a → Q a) : Yld x Q := by
  obtain ⟨a, e, ha⟩ := h
  exact ⟨a, e, h2 a ha⟩
theorem cT {α : Type} {p : Prop} [Decidable p] {a b : Option α} {P : α → Prop} (h : p) (h2 : Yld a P) : Yld (cond (decide p) a b) P := by rw [decide_eq_true h]; exact h2
theorem cF {α : Type} {p : Prop} [Decidable p] {a b : Option α} {P : α → Prop} (h : ¬ p) (h2 : Yld b P) : Yld (cond (decide p) a b) P := by rw [decide_eq_false h]; exact h2
theorem bT {α : Type} {c : Bool} {a b : Option α} {P : α → Prop} (h : c = true) (h2 : Yld a P) : Yld (cond c a b) P := by rw [h]; exact h2
theorem bF {α : Type} {c : Bool} {a b : Option α} {P : α → Prop} (h : c = false) (h2 : Yld b P) : Yld (cond c a b) P := by rw [h]; exact h2
theorem ite {α : Type} {p : Prop} [Decidable p] {a b : Option α} {P : α → Prop} (h1 : p → Yld a P) (h2 : ¬ p → Yld b P) : Yld (cond (decide p) a b) P := by
  by_cases h : p
  · exact cT h (h1 h)
  · exact cF h (h2 h)
theorem cond {α : Type} {c : Bool} {a b : Option α} {P : α → Prop} (h1 : c = true → Yld a P) (h2 : c = false → Yld b P) : Yld (cond c a b) P := by
  cases c with
  | true => exact h1 rfl
  | false => exact h2 rfl
end Yld

end Go.Eng

/-
  What the arena's functions come to, in plain words.
-/
namespace Go.Proofs.YtnbpgehpjhifgaaDoor.Lx
open Go Go.Eng Go.Proofs

abbrev B0 := List Int × (List (Option Nat) × Unit)
abbrev B1 := Int × (Int × (Int × (List (Int × Int) × Unit)))
abbrev TB0 := List B0
abbrev TB1 := List B1
def d0 : B0 := ([], ([], ()))
def d1 : B1 := (0, (0, (0, ([], ()))))

/-- a part: which object it is, and what it has -/
structure Pt where
  i : Nat
  id : Int
  off : Int
  size : Int
  l : List (Int × Int)

def Pt.row (p : Pt) : B1 := (p.id, (p.off, (p.size, (p.l, ()))))

/-- an arena: its bytes, its parts -/
structure Ar (T0 : TB0) (T1 : TB1) (a : Nat) (b : List Int) (ps : List Pt) : Prop where
  row : T0[a]? = some (b, (ps.map (fun p => some p.i), ()))
  part : ∀ p, p ∈ ps → T1[p.i]? = some p.row
  nodup : (ps.map (·.i)).Nodup

theorem getD_of {α : Type} {l : List α} {i : Nat} {x : α} (h : l[i]? = some x) (d : α) : l.getD i d = x := by
  rw [List.getD_eq_getElem?_getD, h]; rfl

section
variable {T0 : TB0} {T1 : TB1} {a : Nat} {b : List Int} {ps : List Pt}

theorem Ar.g0 (h : Ar T0 T1 a b ps) : List.getD T0 a (([] : List Int), (([] : List (Option Nat)), ())) = (b, (ps.map (fun p => some p.i), ())) := getD_of h.row _
theorem gi {k : Nat} (hk : k < ps.length) : List.getD (ps.map (fun p => some p.i)) k (@Option.none Nat) = some ps[k].i := by
  rw [List.getD_eq_getElem?_getD, List.getElem?_map, List.getElem?_eq_getElem hk]; rfl
theorem Ar.g1 (h : Ar T0 T1 a b ps) {p : Pt} (hp : p ∈ ps) : List.getD T1 p.i ((0 : Int), ((0 : Int), ((0 : Int), (([] : List (Int × Int)), ())))) = p.row := getD_of (h.part p hp) _
theorem Ar.len (h : Ar T0 T1 a b ps) : a < T0.length := (List.getElem?_eq_some_iff.1 h.row).1
theorem Ar.len1 (h : Ar T0 T1 a b ps) {p : Pt} (hp : p ∈ ps) : p.i < T1.length := (List.getElem?_eq_some_iff.1 (h.part p hp)).1

def findP (ps : List Pt) (id : Int) : Option Pt := ps.find? fun p => decide (p.id = id)

theorem loop_find {N : Nat} (h : Ar T0 T1 a b ps) (hl : ps.length < 1000000) (id : Int) : ∀ (n k : Nat), k ≤ ps.length → ps.length < n + k →
    g_arena_Arena_find_0 N n T0 T1 id (a, (0, ps.length)) (ps.length : Int) (k : Int) = match findP (ps.drop k) id with
      | some p => some (.inr ((T0, (T1, ())), (some p.i, ())))
      | none => some (.inl ((T0, (T1, ())), ()))
  | 0, k, _, h' => by omega
  | n + 1, k, hk, h' => by
    rw [g_arena_Arena_find_0]
    simp only [cond_dec, Int.ofNat_lt, Int.toNat_natCast, Int.natCast_nonneg, if_true, h.g0, List.length_map, Nat.zero_add]
    by_cases hi : k < ps.length
    · have hp : ps[k] ∈ ps := List.getElem_mem hi
      rw [if_pos hi, if_pos hi, if_pos hi, gi hi, Option.isSome_some, cond_true, Option.getD_some, h.g1 hp, wi64_succ (by omega), loop_find h hl id n (k + 1) hi (by omega)]
      unfold findP
      rw [List.drop_eq_getElem_cons hi, List.find?_cons]
      simp only [Pt.row]
      by_cases e : ps[k].id = id
      · simp only [e, decide_true, if_true]
      · simp only [e, decide_false, if_false]
    · rw [if_neg hi, List.drop_eq_nil_of_le (by omega)]
      rfl

theorem find_ok {N : Nat} (h : Ar T0 T1 a b ps) (hN : 1000 ≤ N) (hl : ps.length < 500) (id : Int) :
    F_arena_Arena_find N T0 T1 (some a) id = some ((T0, (T1, ())), ((findP ps id).map (·.i), ())) := by
  unfold F_arena_Arena_find
  rw [Option.isSome_some, cond_true]
  have := loop_find (N := N) h (by omega) id N 0 (by omega) (by omega)
  rw [show ((0 : Nat) : Int) = 0 from rfl, List.drop_zero] at this
  simp only [Option.getD_some, h.g0, List.length_map, this]
  cases findP ps id <;> rfl

/-- where there is room: ahead of which block; or where all end -/
def gapR : Int → Nat → List (Int × Int) → Int → Sum Int (Int × Nat)
  | e, _, [], _ => .inl e
  | e, i, x :: r, n => if n ≤ x.1 - e then .inr (e, i) else gapR (x.1 + x.2) (i + 1) r n

/-- no number is great -/
def Small (l : List (Int × Int)) : Prop := ∀ x, x ∈ l → 0 ≤ x.1 ∧ 0 ≤ x.2 ∧ x.1 + x.2 ≤ 1099511627776

theorem gapR_end : ∀ (l : List (Int × Int)), Small l → ∀ (e : Int) (i : Nat) (n : Int), 0 ≤ e → e ≤ 1099511627776 → ∀ e', gapR e i l n = .inl e' → 0 ≤ e' ∧ e' ≤ 1099511627776
  | [], _, e, i, n, h0, h1, e', h => by
    simp only [gapR, Sum.inl.injEq] at h
    subst h
    exact ⟨h0, h1⟩
  | x :: r, hs, e, i, n, h0, h1, e', h => by
    have hx := hs x (by simp)
    simp only [gapR] at h
    split at h
    · cases h
    · exact gapR_end r (fun y hy => hs y (by simp [hy])) _ _ _ (by omega) hx.2.2 _ h

theorem loop_gap {N : Nat} (l : List (Int × Int)) (hs : Small l) (hl : l.length < 1000000) (size n : Int) : ∀ (m k : Nat) (e : Int), 0 ≤ e → e ≤ 1099511627776 → k ≤ l.length → l.length < m + k →
    g_arena_gap_0 N m l size n e l (l.length : Int) (k : Int) = match gapR e k (l.drop k) n with
      | .inr (o, i) => some (.inr ((), (o, ((i : Int), (true, ())))))
      | .inl e' => some (.inl ((), (l, (size, (n, (e', ()))))))
  | 0, k, _, _, _, _, h' => by omega
  | m + 1, k, e, h0, h1, hk, h' => by
    rw [g_arena_gap_0]
    simp only [cond_dec, Int.ofNat_lt, Int.toNat_natCast, Int.natCast_nonneg, if_true]
    by_cases hi : k < l.length
    · have hx := hs l[k] (List.getElem_mem hi)
      rw [if_pos hi, if_pos hi, List.drop_eq_getElem_cons hi, gapR, getD_lt hi, wi64_in (n := l[k].1 - e) (by omega) (by omega), wi64_in (n := l[k].1 + l[k].2) (by omega) (by omega), wi64_succ (by omega)]
      by_cases hn : n ≤ l[k].1 - e
      · rw [if_pos hn, if_pos hn]
      · rw [if_neg hn, if_neg hn, loop_gap l hs hl size n m (k + 1) _ (by omega) hx.2.2 hi (by omega)]
    · rw [if_neg hi, List.drop_eq_nil_of_le (by omega)]
      rfl

/-- what gap answers -/
def gapA (l : List (Int × Int)) (size n : Int) : Int × Nat × Bool := match gapR 0 0 l n with
  | .inr (o, i) => (o, i, true)
  | .inl e => (e, l.length, decide (n ≤ size - e))

theorem gap_ok {N : Nat} (hN : 1000 ≤ N) (l : List (Int × Int)) (hs : Small l) (hl : l.length < 500) {size : Int} (h0 : 0 ≤ size) (h1 : size ≤ 1099511627776) (n : Int) :
    F_arena_gap N l size n = some ((), ((gapA l size n).1, (((gapA l size n).2.1 : Int), ((gapA l size n).2.2, ())))) := by
  unfold F_arena_gap gapA
  have := loop_gap (N := N) l hs (by omega) size n N 0 0 (by omega) (by omega) (by omega) (by omega)
  rw [show ((0 : Nat) : Int) = 0 from rfl, List.drop_zero] at this
  rw [this]
  cases hg : gapR 0 0 l n with
  | inr p => rfl
  | inl e =>
    have := gapR_end l hs 0 0 n (by omega) (by omega) e hg
    simp only [Option.bind_some, Sum.elim_inl]
    rw [wi64_in (by omega) (by omega)]

theorem gapR_le : ∀ (l : List (Int × Int)) (e : Int) (i : Nat) (n : Int) o j, gapR e i l n = .inr (o, j) → i ≤ j ∧ j < i + l.length
  | [], e, i, n, o, j, h => by cases h
  | x :: r, e, i, n, o, j, h => by
    simp only [gapR] at h
    split at h
    · injection h with h
      injection h with h1 h2
      subst h2
      simp
    · have := gapR_le r _ _ _ o j h
      simp only [List.length_cons]
      omega

theorem gapA_le (l : List (Int × Int)) (size n : Int) : (gapA l size n).2.1 ≤ l.length := by
  unfold gapA
  cases hg : gapR 0 0 l n with
  | inr p =>
    obtain ⟨o, j⟩ := p
    have := gapR_le l 0 0 n o j hg
    simp only
    omega
  | inl e => simp

/-- the parts' places -/
def areas (ps : List Pt) : List (Int × Int) := ps.map fun p => (p.off, p.size)

theorem loop_Add {N : Nat} (h : Ar T0 T1 a b ps) (hl : ps.length < 500) (id size : Int) (t : (Int × (Int × Int)) × Unit) : ∀ (n k : Nat), k ≤ ps.length → ps.length < n + k →
    g_arena_Arena_Add_0 N n T0 T1 (some a) id size t (areas (ps.take k)) (a, (0, ps.length)) (ps.length : Int) (k : Int) = some ((T0, (T1, ())), (some a, (id, (size, (t, (areas ps, ()))))))
  | 0, k, _, h' => by omega
  | n + 1, k, hk, h' => by
    rw [g_arena_Arena_Add_0]
    simp only [cond_dec, Int.ofNat_lt, Int.toNat_natCast, Int.natCast_nonneg, if_true, h.g0, List.length_map, Nat.zero_add]
    have hal : (areas (ps.take k)).length = k := by rw [areas, List.length_map, List.length_take]; omega
    by_cases hi : k < ps.length
    · have hp : ps[k] ∈ ps := List.getElem_mem hi
      have hmost : (k + 1) * (16 + 1) ≤ most := by unfold most; omega
      have ha : areas (ps.take k) ++ [(ps[k].off, ps[k].size)] = areas (ps.take (k + 1)) := by
        rw [List.take_succ_eq_append_getElem hi, areas, areas, List.map_append]; rfl
      rw [if_pos hi, if_pos hi, if_pos hi, gi hi, Option.isSome_some, cond_true, cond_true, Option.getD_some, h.g1 hp, wi64_succ (by omega)]
      simp only [Pt.row, List.take_length, hal, if_true, List.length_append, List.length_cons, List.length_nil, Nat.zero_add]
      rw [if_pos hmost, List.take_of_length_le (by omega), hal, if_pos rfl, ha]
      exact loop_Add h hl id size t n (k + 1) hi (by omega)
    · rw [if_neg hi, List.take_of_length_le (by omega)]

/-- the table of arenas with another one at a place -/
def setA (T0 : TB0) (a : Nat) (b : List Int) (ps : List Pt) : TB0 := T0.set a (b, (ps.map (fun p => some p.i), ()))

theorem Add_range {N : Nat} (h : Ar T0 T1 a b ps) (hN : 1000 ≤ N) (hl : ps.length < 500) {id size : Int} (hx : size < 1 ∨ (findP ps id).isSome = true) :
    F_arena_Arena_Add N T0 T1 (some a) id size = some ((T0, (T1, ())), ((0, (0, 0)), (.s ErrRange, ()))) := by
  unfold F_arena_Arena_Add
  by_cases h1 : size < 1
  · exact cT h1 rfl
  · refine cF h1 ?_
    refine bnd _ (find_ok h hN hl id) ?_
    obtain ⟨p, hp⟩ := Option.isSome_iff_exists.1 (hx.resolve_left h1)
    simp only [hp, Option.map_some, Option.isNone_some, Bool.not_false, cond_true]

theorem Add_go {N : Nat} (h : Ar T0 T1 a b ps) (hN : 1000 ≤ N) (hl : ps.length < 500) (hs : Small (areas ps)) (hb : b.length ≤ 1099511627776) {id size : Int} (h1 : ¬ size < 1) (hx : findP ps id = none) :
    F_arena_Arena_Add N T0 T1 (some a) id size = if (gapA (areas ps) b.length size).2.2 then
        some ((T0.set a (b, ((ps.map (fun p => some p.i)).take (gapA (areas ps) b.length size).2.1 ++ [some T1.length] ++ (ps.map (fun p => some p.i)).drop (gapA (areas ps) b.length size).2.1, ())), (T1 ++ [(id, ((gapA (areas ps) b.length size).1, (size, ([], ()))))], ())), ((id, ((gapA (areas ps) b.length size).1, size)), (.nil, ())))
      else some ((T0, (T1, ())), ((0, (0, 0)), (.s ErrRoom, ()))) := by
  unfold F_arena_Arena_Add
  refine cF h1 ?_
  refine bnd _ (find_ok h hN hl id) ?_
  simp only [hx, Option.map_none, Option.isNone_none, Bool.not_true, cond_false, Option.isSome_some, cond_true, Option.getD_some, h.g0, List.length_map]
  have h2 := loop_Add (N := N) h hl id size ((0, (0, 0)), ()) N 0 (by omega) (by omega)
  rw [show ((0 : Nat) : Int) = 0 from rfl, List.take_zero] at h2
  refine bnd _ h2 ?_
  have hal : (areas ps).length = ps.length := by rw [areas, List.length_map]
  have hg := gap_ok (N := N) hN (areas ps) hs (by omega) (size := b.length) (by omega) (by omega) size
  have hle := gapA_le (areas ps) b.length size
  generalize gapA (areas ps) b.length size = G at hg hle ⊢
  obtain ⟨o, k, is⟩ := G
  simp only [Option.isSome_some, cond_true, Option.getD_some, h.g0, List.length_map, Nat.zero_add, List.take_length]
  refine cT (Nat.le_refl _) ?_
  refine bnd _ hg ?_
  rw [hal] at hle
  have hmost : (ps.length + 1) * (8 + 1) ≤ most := by unfold most; omega
  have hall : ((ps.map (fun p => some p.i)).take k ++ [some T1.length] ++ (ps.map (fun p => some p.i)).drop k).length = ps.length + 1 := by
    simp only [List.length_append, List.length_take, List.length_drop, List.length_map, List.length_cons, List.length_nil]
    omega
  have htl : List.take ps.length (ps.map (fun p => some p.i)) = ps.map (fun p => some p.i) := List.take_of_length_le (by rw [List.length_map]; omega)
  cases is with
  | false => rfl
  | true =>
    simp only [Bool.not_true, cond_false, Int.toNat_natCast, htl, List.length_map, hall, if_true]
    refine cT True.intro ?_
    refine cT (Int.natCast_nonneg _) ?_
    refine cT hle ?_
    refine cT hmost ?_
    refine cT (Nat.le_refl _) ?_
    refine cT True.intro ?_
    rw [List.take_of_length_le (Nat.le_of_eq hall)]


theorem getD_set_self {α : Type} {l : List α} {i : Nat} (h : i < l.length) (x d : α) : List.getD (l.set i x) i d = x := by
  rw [List.getD_eq_getElem?_getD, List.getElem?_set_self h]; rfl

/-- a part's bytes made nothings -/
def clearB (b : List Int) (off n : Nat) : List Int := b.take off ++ List.replicate n 0 ++ b.drop (off + n)

theorem Remove_none {N : Nat} (h : Ar T0 T1 a b ps) (hN : 1000 ≤ N) (hl : ps.length < 500) {id : Int} (hx : findP ps id = none) :
    F_arena_Arena_Remove N T0 T1 (some a) id = some ((T0, (T1, ())), (false, ())) := by
  unfold F_arena_Arena_Remove
  refine bnd _ (find_ok h hN hl id) ?_
  simp only [hx, Option.map_none, Option.isNone_none, cond_true]

theorem Remove_some {N : Nat} (h : Ar T0 T1 a b ps) (hN : 1000 ≤ N) (hl : ps.length < 500) {id : Int} {p : Pt} (hx : findP ps id = some p) {off size : Nat} (ho : p.off = off) (hs : p.size = size) (hb : off + size ≤ b.length) (hbb : b.length ≤ 1099511627776) :
    F_arena_Arena_Remove N T0 T1 (some a) id = some ((T0.set a (clearB b off size, ((ps.map (fun p => some p.i)).filter (fun y => !decide (y = some p.i)), ())), (T1, ())), (true, ())) := by
  unfold F_arena_Arena_Remove
  refine bnd _ (find_ok h hN hl id) ?_
  have hp : p ∈ ps := List.mem_of_find?_eq_some hx
  have hlen := h.len
  have hpos : 0 < ps.length := List.length_pos_of_mem hp
  simp only [hx, Option.map_some, Option.isNone_some, cond_false, Option.isSome_some, cond_true, Option.getD_some, h.g0, h.g1 hp, Pt.row, ho, hs, wi64_add (i := off) (k := size) (by omega), Int.toNat_natCast, Nat.zero_add, Nat.add_sub_cancel_left, getD_set_self hlen, List.take_length, List.set_set, List.length_map]
  refine cT (Int.natCast_nonneg _) ?_
  refine cT (Int.natCast_nonneg _) ?_
  refine cT (Nat.le_add_right _ _) ?_
  refine cT hb ?_
  refine cT hb ?_
  refine cT True.intro ?_
  have hm : List.take ps.length (ps.map (fun p => some p.i)) = ps.map (fun p => some p.i) := List.take_of_length_le (by rw [List.length_map]; omega)
  simp only [hm, List.length_map]
  refine cT hpos ?_
  refine cT (by unfold most; omega) ?_
  refine cT (Nat.le_refl _) ?_
  refine cT True.intro ?_
  rfl


theorem New_ok {N : Nat} (T0 : TB0) (T1 : TB1) {size : Nat} (h1 : 1 ≤ size) (h2 : size ≤ 1048576) :
    F_arena_New N T0 T1 size = some ((T0 ++ [(List.replicate size 0, ([], ()))], (T1, ())), (some T0.length, (.nil, ()))) := by
  unfold F_arena_New
  refine cF (by omega) ?_
  refine cF (by omega) ?_
  refine cT (by omega) ?_
  refine cT (Int.le_refl _) ?_
  simp only [Int.toNat_natCast, Nat.zero_add, List.length_replicate]
  refine cT (show (size : Int) * ((1 : Nat) + 1) ≤ ((1099511627776 : Nat) : Int) by omega) ?_
  refine cT (Nat.le_refl _) ?_
  rw [List.take_of_length_le (by rw [List.length_replicate]; exact Nat.le_refl _)]

theorem Ar.new (T0 : TB0) (T1 : TB1) (b : List Int) : Ar (T0 ++ [(b, ([], ()))]) T1 T0.length b [] :=
  ⟨by rw [List.getElem?_append_right (Nat.le_refl _), Nat.sub_self]; rfl, (fun p hp => by cases hp), List.nodup_nil⟩

/-- a part more -/
def insP (ps : List Pt) (k : Nat) (p : Pt) : List Pt := ps.take k ++ [p] ++ ps.drop k

theorem Ar.add (h : Ar T0 T1 a b ps) {k : Nat} {id off size : Int} :
    Ar (T0.set a (b, ((ps.map (fun p => some p.i)).take k ++ [some T1.length] ++ (ps.map (fun p => some p.i)).drop k, ()))) (T1 ++ [(id, (off, (size, ([], ()))))]) a b (insP ps k ⟨T1.length, id, off, size, []⟩) := by
  refine ⟨?_, fun p hp => ?_, ?_⟩
  · rw [List.getElem?_set_self h.len]
    simp [insP]
  · simp only [insP, List.mem_append, List.mem_cons, List.not_mem_nil, or_false] at hp
    rcases hp with (hp | rfl) | hp
    · have hp := List.mem_of_mem_take hp
      rw [List.getElem?_append_left (h.len1 hp)]
      exact h.part p hp
    · rw [List.getElem?_append_right (Nat.le_refl _), Nat.sub_self]
      rfl
    · have hp := List.mem_of_mem_drop hp
      rw [List.getElem?_append_left (h.len1 hp)]
      exact h.part p hp
  · have hperm : (insP ps k ⟨T1.length, id, off, size, []⟩).Perm (⟨T1.length, id, off, size, []⟩ :: ps) := by
      unfold insP
      rw [List.append_assoc]
      refine List.perm_middle.trans ?_
      show (_ :: (List.take k ps ++ List.drop k ps)).Perm _
      rw [List.take_append_drop]
    refine (hperm.map (·.i)).nodup_iff.2 ?_
    rw [List.map_cons, List.nodup_cons]
    refine ⟨fun hm => ?_, h.nodup⟩
    obtain ⟨p, hp, e⟩ := List.mem_map.1 hm
    have := h.len1 hp
    simp only at e
    omega

theorem Ar.remove (h : Ar T0 T1 a b ps) (b' : List Int) (j : Nat) :
    Ar (T0.set a (b', ((ps.map (fun p => some p.i)).filter (fun y => !decide (y = some j)), ()))) T1 a b' (ps.filter fun p => !decide (p.i = j)) := by
  refine ⟨?_, fun p hp => h.part p (List.mem_filter.1 hp).1, ?_⟩
  · rw [List.getElem?_set_self h.len, List.filter_map]
    congr 3
    congr 1
    apply List.filter_congr
    intro p _
    simp
  · exact h.nodup.sublist (List.filter_sublist.map _)

/-- places one behind the other -/
def row (e : Int) : List Int → List (Int × Int)
  | [] => []
  | n :: r => (e, n) :: row (e + n) r
def tot : List Int → Int
  | [] => 0
  | n :: r => n + tot r

theorem row_append : ∀ (ns ms : List Int) (e : Int), row e (ns ++ ms) = row e ns ++ row (e + tot ns) ms
  | [], ms, e => by simp [row, tot]
  | n :: r, ms, e => by
    rw [List.cons_append, row, row, row_append r ms, tot, List.cons_append, Int.add_assoc]
theorem tot_append : ∀ (ns ms : List Int), tot (ns ++ ms) = tot ns + tot ms
  | [], ms => by simp [tot]
  | n :: r, ms => by rw [List.cons_append, tot, tot, tot_append r ms, Int.add_assoc]
theorem row_length : ∀ (ns : List Int) (e : Int), (row e ns).length = ns.length
  | [], _ => rfl
  | n :: r, e => by rw [row, List.length_cons, row_length r, List.length_cons]

theorem tot_bound (B : Int) : ∀ (ns : List Int), (∀ n, n ∈ ns → 0 ≤ n ∧ n ≤ B) → 0 ≤ tot ns ∧ tot ns ≤ B * ns.length
  | [], _ => by simp [tot]
  | n :: r, h => by
    have := tot_bound B r fun m hm => h m (by simp [hm])
    have := h n (by simp)
    simp only [tot, List.length_cons]
    rw [show B * ((r.length + 1 : Nat) : Int) = B * r.length + B by rw [Int.natCast_add, Int.mul_add]; simp]
    omega

theorem row_small : ∀ (ns : List Int) (e : Int), (∀ n, n ∈ ns → 0 ≤ n) → 0 ≤ e → e + tot ns ≤ 1099511627776 → Small (row e ns)
  | [], _, _, _, _ => fun x hx => by cases hx
  | n :: r, e, h, h0, h1 => fun x hx => by
    have hn := h n (by simp)
    have hr : 0 ≤ tot r := by
      have : ∀ r : List Int, (∀ n, n ∈ r → 0 ≤ n) → 0 ≤ tot r := by
        intro r
        induction r with
        | nil => intro _; exact Int.le_refl _
        | cons m r ih =>
          intro h
          have := ih fun n hn => h n (by simp [hn])
          have := h m (by simp)
          simp only [tot]
          omega
      exact this r fun m hm => h m (by simp [hm])
    simp only [tot] at h1
    simp only [row, List.mem_cons] at hx
    rcases hx with rfl | hx
    · simp only
      omega
    · exact row_small r (e + n) (fun m hm => h m (by simp [hm])) (by omega) (by omega) x hx

theorem gapR_row {n : Int} (hn : 1 ≤ n) : ∀ (ns : List Int) (e : Int) (i : Nat) (rest : List (Int × Int)), gapR e i (row e ns ++ rest) n = gapR (e + tot ns) (i + ns.length) rest n
  | [], e, i, rest => by simp [row, tot]
  | m :: r, e, i, rest => by
    rw [row, List.cons_append, gapR, if_neg (by simp only; omega), gapR_row hn r, tot, List.length_cons, Int.add_assoc, Nat.add_assoc, Nat.add_comm 1]

end
end Go.Proofs.YtnbpgehpjhifgaaDoor.Lx

/-
  What the arena's functions on blocks come to, in plain words.
-/
namespace Go.Proofs.YtnbpgehpjhifgaaDoor.Lx
open Go Go.Eng Go.Proofs Go.Proofs.LxArena

theorem inj_of_nodup : ∀ {l : List Pt}, (l.map (·.i)).Nodup → ∀ {p q : Pt}, p ∈ l → q ∈ l → p.i = q.i → p = q
  | [], _, _, _, hp, _, _ => by cases hp
  | x :: r, h, p, q, hp, hq, e => by
    rw [List.map_cons, List.nodup_cons] at h
    rcases List.mem_cons.1 hp with hp | hp <;> rcases List.mem_cons.1 hq with hq | hq
    · rw [hp, hq]
    · exact absurd (List.mem_map.2 ⟨q, hq, by rw [← e, hp]⟩) h.1
    · exact absurd (List.mem_map.2 ⟨p, hp, by rw [e, hq]⟩) h.1
    · exact inj_of_nodup h.2 hp hq e

/-- a part's blocks turned -/
def setL (ps : List Pt) (j : Nat) (l' : List (Int × Int)) : List Pt := ps.map fun q => if q.i = j then { q with l := l' } else q

section
variable {T0 : TB0} {T1 : TB1} {a : Nat} {b : List Int} {ps : List Pt}

theorem Ar.setL (h : Ar T0 T1 a b ps) {p : Pt} (hp : p ∈ ps) (l' : List (Int × Int)) : Ar T0 (T1.set p.i (p.id, (p.off, (p.size, (l', ()))))) a b (setL ps p.i l') := by
  have hi : (Lx.setL ps p.i l').map (·.i) = ps.map (·.i) := by
    unfold Lx.setL
    rw [List.map_map]
    apply List.map_congr_left
    intro q _
    simp only [Function.comp]
    split <;> rfl
  refine ⟨?_, fun q hq => ?_, ?_⟩
  · rw [h.row]
    have : (Lx.setL ps p.i l').map (fun p => some p.i) = ps.map (fun p => some p.i) := by
      have := congrArg (List.map (fun i : Nat => some i)) hi
      rw [List.map_map, List.map_map] at this
      exact this
    rw [this]
  · unfold Lx.setL at hq
    obtain ⟨q0, hq0, rfl⟩ := List.mem_map.1 hq
    by_cases e : q0.i = p.i
    · have hqp : q0 = p := inj_of_nodup h.nodup hq0 hp e
      subst hqp
      rw [if_pos rfl, List.getElem?_set_self (h.len1 hp)]
      rfl
    · rw [if_neg e, List.getElem?_set_ne (fun e' => e e'.symm)]
      exact h.part q0 hq0
  · rw [hi]; exact h.nodup

/-- the bytes turned -/
theorem Ar.setB (h : Ar T0 T1 a b ps) (b' : List Int) : Ar (T0.set a (b', (ps.map (fun p => some p.i), ()))) T1 a b' ps :=
  ⟨by rw [List.getElem?_set_self h.len], h.part, h.nodup⟩

theorem Take_none {N : Nat} (h : Ar T0 T1 a b ps) (hN : 1000 ≤ N) (hl : ps.length < 500) {id : Int} (hx : findP ps id = none) (n : Int) :
    F_arena_Arena_Take N T0 T1 (some a) id n = some ((T0, (T1, ())), (0, (.s ErrNone, ()))) := by
  unfold F_arena_Arena_Take
  refine bnd _ (find_ok h hN hl id) ?_
  simp only [hx, Option.map_none, Option.isNone_none, cond_true]

theorem Take_go {N : Nat} (h : Ar T0 T1 a b ps) (hN : 1000 ≤ N) (hl : ps.length < 500) {id : Int} {p : Pt} (hx : findP ps id = some p) (hs : Small p.l) (hpl : p.l.length < 500) (h0 : 0 ≤ p.size) (h1 : p.size ≤ 1099511627776) {n : Int} (hn : 1 ≤ n) :
    F_arena_Arena_Take N T0 T1 (some a) id n = if (gapA p.l p.size n).2.2 then
        some ((T0, (T1.set p.i (p.id, (p.off, (p.size, (p.l.take (gapA p.l p.size n).2.1 ++ [((gapA p.l p.size n).1, n)] ++ p.l.drop (gapA p.l p.size n).2.1, ())))), ())), ((gapA p.l p.size n).1, (.nil, ())))
      else some ((T0, (T1, ())), (0, (.s ErrRoom, ()))) := by
  have hp : p ∈ ps := List.mem_of_find?_eq_some hx
  unfold F_arena_Arena_Take
  refine bnd _ (find_ok h hN hl id) ?_
  simp only [hx, Option.map_some, Option.isNone_some, cond_false, Option.isSome_some, cond_true, Option.getD_some, h.g1 hp, Pt.row, Nat.zero_add, List.take_length]
  have hg := gap_ok (N := N) hN p.l hs hpl h0 h1 n
  have hle := gapA_le p.l p.size n
  generalize gapA p.l p.size n = G at hg hle ⊢
  obtain ⟨o, k, is⟩ := G
  simp only at hle
  refine cF (by omega) ?_
  refine cT (Nat.le_refl _) ?_
  refine bnd _ hg ?_
  cases is with
  | false => rfl
  | true =>
    have hmost : (p.l.length + 1) * (16 + 1) ≤ most := by unfold most; omega
    have hall : (p.l.take k ++ [(o, n)] ++ p.l.drop k).length = p.l.length + 1 := by
      simp only [List.length_append, List.length_take, List.length_drop, List.length_cons, List.length_nil]
      omega
    simp only [Bool.not_true, cond_false, Int.toNat_natCast, hall, if_true]
    refine cT True.intro ?_
    refine cT (Int.natCast_nonneg _) ?_
    refine cT hle ?_
    refine cT hmost ?_
    refine cT (Nat.le_refl _) ?_
    refine cT True.intro ?_
    rw [List.take_of_length_le (Nat.le_of_eq hall)]

theorem loop_index {N : Nat} (l : List (Int × Int)) (hl : l.length < 1000000) (o : Int) {j : Nat} (hj : j < l.length) (hjo : l[j].1 = o) (hn : ∀ i (hi : i < j), (l[i]'(Nat.lt_trans hi hj)).1 ≠ o) : ∀ (n k : Nat), k ≤ j → l.length < n + k →
    g_slices_IndexFunc_arena_block_0 N n l o (l.length : Int) (k : Int) = some (.inr ((), ((j : Int), ())))
  | 0, k, _, h' => by omega
  | n + 1, k, hk, h' => by
    rw [g_slices_IndexFunc_arena_block_0]
    refine cT (by omega) ?_
    refine cT (Int.natCast_nonneg _) ?_
    rw [Int.toNat_natCast]
    refine cT (by omega) ?_
    rw [getD_lt (by omega)]
    refine bnd _ rfl ?_
    by_cases e : k = j
    · subst e
      refine cT hjo ?_
      rfl
    · refine cF (hn k (by omega)) ?_
      rw [wi64_succ (by omega)]
      exact loop_index l hl o hj hjo hn n (k + 1) (by omega) (by omega)

theorem Drop_go {N : Nat} (h : Ar T0 T1 a b ps) (hN : 1000 ≤ N) (hl : ps.length < 500) {id : Int} {p : Pt} (hx : findP ps id = some p) (hpl : p.l.length < 500) {po oo mm j : Nat} (hpo : p.off = po)
    (hj : j < p.l.length) (hjo : p.l[j] = ((oo : Int), (mm : Int))) (hn : ∀ i (hi : i < j), (p.l[i]'(Nat.lt_trans hi hj)).1 ≠ (oo : Int)) (hb : po + oo + mm ≤ b.length) (hbb : b.length ≤ 1099511627776) :
    F_arena_Arena_Drop N T0 T1 (some a) id (oo : Int) = some ((T0.set a (clearB b (po + oo) mm, (ps.map (fun p => some p.i), ())), (T1.set p.i (p.id, (p.off, (p.size, (p.l.take j ++ p.l.drop (j + 1), ())))), ())), (true, ())) := by
  have hp : p ∈ ps := List.mem_of_find?_eq_some hx
  have hlen := h.len
  unfold F_arena_Arena_Drop
  refine bnd _ (find_ok h hN hl id) ?_
  simp only [hx, Option.map_some, Option.isNone_some, cond_false, Option.isSome_some, cond_true, Option.getD_some, h.g0, h.g1 hp, Pt.row, Nat.zero_add, List.take_length, hpo]
  have hidx : F_slices_IndexFunc_arena_block N p.l (oo : Int) = some ((), ((j : Int), ())) := by
    unfold F_slices_IndexFunc_arena_block
    have := loop_index (N := N) p.l (by omega) (oo : Int) hj (by rw [hjo]) hn N 0 (by omega) (by omega)
    rw [show ((0 : Nat) : Int) = 0 from rfl] at this
    exact bnd _ this rfl
  refine cT (Nat.le_refl _) ?_
  refine bnd _ hidx ?_
  have hg : List.getD p.l j ((0 : Int), (0 : Int)) = ((oo : Int), (mm : Int)) := by rw [getD_lt hj, hjo]
  have hall : (p.l.take j ++ p.l.drop (j + 1)).length = p.l.length - 1 := by
    simp only [List.length_append, List.length_take, List.length_drop]
    omega
  simp only [Int.toNat_natCast, hg, wi64_add (i := po) (k := oo) (by omega), wi64_add (i := po + oo) (k := mm) (by omega), wi64_succ (i := j) (by omega), Nat.add_sub_cancel_left, hall]
  refine cF (by omega) ?_
  refine cT (Int.natCast_nonneg _) ?_
  refine cT hj ?_
  refine cT hj ?_
  refine cT (Int.natCast_nonneg _) ?_
  refine cT (Int.natCast_nonneg _) ?_
  refine cT (Nat.le_add_right _ _) ?_
  refine cT hb ?_
  refine cT hb ?_
  refine cT True.intro ?_
  refine cT (by omega) ?_
  refine cT (Int.natCast_nonneg _) ?_
  refine cT (Nat.le_succ _) ?_
  refine cT (Int.natCast_nonneg _) ?_
  refine cT hj ?_
  refine cT (by omega) ?_
  refine cT True.intro ?_
  rw [List.take_of_length_le (l := p.l.take j ++ p.l.drop (j + 1)) (by rw [hall]; omega)]
  rfl

theorem Drop_none {N : Nat} (h : Ar T0 T1 a b ps) (hN : 1000 ≤ N) (hl : ps.length < 500) {id : Int} (hx : findP ps id = none) (o : Int) : F_arena_Arena_Drop N T0 T1 (some a) id o = some ((T0, (T1, ())), (false, ())) := by
  unfold F_arena_Arena_Drop
  refine bnd _ (find_ok h hN hl id) ?_
  simp only [hx, Option.map_none, Option.isNone_none, cond_true]

/-- does a block hold this? -/
def holds (x : Int × Int) (off n : Int) : Prop := x.1 ≤ off ∧ off ≤ x.1 + x.2 ∧ n ≤ x.1 + x.2 - off

theorem loop_within {N : Nat} (h : Ar T0 T1 a b ps) {p : Pt} (hp : p ∈ ps) (hs : Small p.l) (hpl : p.l.length < 500) {po oo nn j : Nat} (hpo : p.off = po) (hj : j < p.l.length) (hh : holds p.l[j] oo nn) (hn : ∀ i (hi : i < j), ¬ holds (p.l[i]'(Nat.lt_trans hi hj)) oo nn)
    (hb : po + oo + nn ≤ b.length) (hbb : b.length ≤ 1099511627776) : ∀ (n k : Nat), k ≤ j → p.l.length < n + k →
    g_arena_Arena_within_0 N n T0 T1 (some a) (oo : Int) (nn : Int) (some p.i) (p.i, (0, p.l.length)) (p.l.length : Int) (k : Int) = some (.inr ((T0, (T1, ())), ((a, (po + oo, nn)), (true, ()))))
  | 0, k, _, h' => by omega
  | n + 1, k, hk, h' => by
    have hkl : k < p.l.length := by omega
    have hx := hs p.l[k] (List.getElem_mem hkl)
    rw [g_arena_Arena_within_0]
    simp only [Option.isSome_some, cond_true, Option.getD_some, h.g0, h.g1 hp, Pt.row, Nat.zero_add, hpo, Int.toNat_natCast, getD_lt hkl, wi64_succ (i := k) (by omega), wi64_add (i := po) (k := oo) (by omega), wi64_add (i := po + oo) (k := nn) (by omega), wi64_in (n := p.l[k].1 + p.l[k].2) (by omega) (by omega), wi64_in (n := p.l[k].1 + p.l[k].2 - (oo : Int)) (by omega) (by omega), Nat.add_sub_cancel_left]
    refine cT (by omega) ?_
    refine cT (Int.natCast_nonneg _) ?_
    refine cT hkl ?_
    refine cT hkl ?_
    by_cases e : k = j
    · subst e
      obtain ⟨h1, h2, h3⟩ := hh
      refine cT h1 ?_
      refine cT h2 ?_
      refine cT h3 ?_
      refine cT (Int.natCast_nonneg _) ?_
      refine cT (Int.natCast_nonneg _) ?_
      refine cT (Nat.le_add_right _ _) ?_
      refine cT hb ?_
      rfl
    · have hnk := hn k (by omega)
      have ih := loop_within (N := N) h hp hs hpl hpo hj hh hn hb hbb n (k + 1) (by omega) (by omega)
      by_cases h1 : p.l[k].1 ≤ (oo : Int)
      · refine cT h1 ?_
        by_cases h2 : (oo : Int) ≤ p.l[k].1 + p.l[k].2
        · refine cT h2 ?_
          by_cases h3 : (nn : Int) ≤ p.l[k].1 + p.l[k].2 - (oo : Int)
          · exact absurd ⟨h1, h2, h3⟩ hnk
          · exact cF h3 ih
        · exact cF h2 ih
      · exact cF h1 ih

theorem within_hit {N : Nat} (h : Ar T0 T1 a b ps) (hN : 1000 ≤ N) (hl : ps.length < 500) {id : Int} {p : Pt} (hx : findP ps id = some p) (hs : Small p.l) (hpl : p.l.length < 500) {po oo nn j : Nat} (hpo : p.off = po) (hj : j < p.l.length) (hh : holds p.l[j] oo nn) (hn : ∀ i (hi : i < j), ¬ holds (p.l[i]'(Nat.lt_trans hi hj)) oo nn)
    (hb : po + oo + nn ≤ b.length) (hbb : b.length ≤ 1099511627776) :
    F_arena_Arena_within N T0 T1 (some a) id (oo : Int) (nn : Int) = some ((T0, (T1, ())), ((a, (po + oo, nn)), (true, ()))) := by
  have hp : p ∈ ps := List.mem_of_find?_eq_some hx
  unfold F_arena_Arena_within
  refine bnd _ (find_ok h hN hl id) ?_
  simp only [hx, Option.map_some, Option.isNone_some, cond_false, Option.isSome_some, cond_true, Option.getD_some, h.g1 hp, Pt.row]
  refine cF (by omega) ?_
  have := loop_within (N := N) h hp hs hpl hpo hj hh hn hb hbb N 0 (by omega) (by omega)
  rw [show ((0 : Nat) : Int) = 0 from rfl] at this
  exact bnd _ this rfl

theorem Write_hit {N : Nat} (h : Ar T0 T1 a b ps) (hN : 1000 ≤ N) (hl : ps.length < 500) {id : Int} {p : Pt} (hx : findP ps id = some p) (hs : Small p.l) (hpl : p.l.length < 500) {po oo j : Nat} (bs : List Int) (hpo : p.off = po) (hj : j < p.l.length) (hh : holds p.l[j] oo bs.length) (hn : ∀ i (hi : i < j), ¬ holds (p.l[i]'(Nat.lt_trans hi hj)) oo bs.length)
    (hb : po + oo + bs.length ≤ b.length) (hbb : b.length ≤ 1099511627776) :
    F_arena_Arena_Write N T0 T1 (some a) id (oo : Int) bs = some ((T0.set a (b.take (po + oo) ++ bs ++ b.drop (po + oo + bs.length), (ps.map (fun p => some p.i), ())), (T1, ())), (true, ())) := by
  unfold F_arena_Arena_Write
  refine bnd _ (within_hit h hN hl hx hs hpl hpo hj hh hn hb hbb) ?_
  simp only [h.g0]
  refine cT hb ?_
  rw [Nat.min_self, List.take_of_length_le (Nat.le_refl _)]

theorem Clone_ok {N : Nat} (l : List Int) (hl : l.length ≤ 1000000) : F_slices_Clone_byte N l = some ((), (l, ())) := by
  unfold F_slices_Clone_byte
  refine cT (by unfold most; omega) ?_
  refine cT (by simp) ?_
  rfl

theorem Read_hit {N : Nat} (h : Ar T0 T1 a b ps) (hN : 1000 ≤ N) (hl : ps.length < 500) {id : Int} {p : Pt} (hx : findP ps id = some p) (hs : Small p.l) (hpl : p.l.length < 500) {po oo nn j : Nat} (hpo : p.off = po) (hj : j < p.l.length) (hh : holds p.l[j] oo nn) (hn : ∀ i (hi : i < j), ¬ holds (p.l[i]'(Nat.lt_trans hi hj)) oo nn)
    (hb : po + oo + nn ≤ b.length) (hbb : b.length ≤ 1000000) :
    F_arena_Arena_Read N T0 T1 (some a) id (oo : Int) (nn : Int) = some ((T0, (T1, ())), ((b.drop (po + oo)).take nn, (true, ()))) := by
  unfold F_arena_Arena_Read
  refine bnd _ (within_hit h hN hl hx hs hpl hpo hj hh hn hb (by omega)) ?_
  simp only [h.g0]
  refine cT hb ?_
  refine bnd _ (Clone_ok _ (by rw [List.length_take, List.length_drop]; omega)) ?_
  exact cT True.intro rfl

/-- all of it -/
theorem Raw_all {N : Nat} (h : Ar T0 T1 a b ps) {n : Nat} (hb : b.length = n) (h0 : 1 ≤ n) (h1 : n ≤ 1000000) : F_arena_Arena_Raw N T0 T1 (some a) 0 n = some ((T0, (T1, ())), (b, ())) := by
  unfold F_arena_Arena_Raw
  simp only [Option.isSome_some, cond_true, Option.getD_some, h.g0, hb]
  have hw : wi64 ((n : Int) - 0) = n := by rw [wi64_in (by omega) (by omega)]; omega
  have hm : imin (n : Int) (n : Int) = n := by unfold imin; split <;> rfl
  have hw2 : wi64 (0 + (n : Int)) = n := by rw [wi64_in (by omega) (by omega)]; omega
  simp only [hw, hm, hw2, Int.toNat_natCast]
  refine cF (by omega) ?_
  refine cF (by omega) ?_
  refine cF (by omega) ?_
  refine cF (by omega) ?_
  refine cT (Int.le_refl _) ?_
  refine cT (Int.natCast_nonneg _) ?_
  refine cT (Nat.zero_le _) ?_
  refine cT (Nat.le_refl _) ?_
  refine cT (by simp) ?_
  refine bnd _ (Clone_ok _ (by rw [List.length_take, List.length_drop]; omega)) ?_
  refine cT True.intro ?_
  simp only [Int.toNat_zero, Nat.add_zero, List.drop_zero, Nat.sub_zero]
  rw [List.take_of_length_le (by omega)]


end
end Go.Proofs.YtnbpgehpjhifgaaDoor.Lx

/-
  The law ArenaParts, in plain words.
-/
namespace Go.Proofs.YtnbpgehpjhifgaaDoor.Lx
open Go Go.Eng Go.Proofs

theorem first_ok : ∃ t0 t1, F_lodgelaw13_first 100000 [] [] = some ((t0, (t1, ())), (true, ())) := by
  have h : (F_lodgelaw13_first 100000 [] []).map (fun x => x.2.1) = some true := by kernel_rfl
  obtain ⟨⟨⟨t0, t1, ⟨⟩⟩, b, ⟨⟩⟩, h1, h2⟩ := Option.map_eq_some_iff.1 h
  exact ⟨t0, t1, by rw [h1, show b = true from h2]⟩

theorem Number_ok (N : Nat) (n : Int) {b : Int} (h : 0 < b) (h' : b ≤ 1099511627776) : F_lodgeworld_Number N n b = some ((), (n % b, ())) := by
  unfold F_lodgeworld_Number
  have := tmod_lt (n := n) h
  refine cT (by omega) ?_
  refine cT (by omega) ?_
  rw [wi64_in (by omega) (by omega), tmod_below h]

/-- a part's length, of a number -/
def lenOf (n : Int) : Int := n % 50 + 1
theorem lenOf_in (n : Int) : 1 ≤ lenOf n ∧ lenOf n ≤ 50 := by unfold lenOf; omega

theorem gapA_end {ns : List Int} {size : Nat} {n : Int} (hn : 1 ≤ n) : gapA (row 0 ns) size n = (tot ns, ns.length, decide (n ≤ size - tot ns)) := by
  have := gapR_row hn ns 0 0 []
  rw [List.append_nil, gapR] at this
  unfold gapA
  rw [this]
  simp only [Int.zero_add, row_length]

theorem findP_none {ps : List Pt} {id : Int} (h : ∀ p, p ∈ ps → p.id ≠ id) : findP ps id = none := by
  unfold findP
  rw [List.find?_eq_none]
  intro p hp
  simpa using h p hp

/-- numbers from one on -/
def idsN (m : Nat) : List Int := (List.range m).map fun i : Nat => (i : Int)
theorem idsN_succ (m : Nat) : idsN (m + 1) = idsN m ++ [(m : Int)] := by simp [idsN, List.range_succ]

theorem ids_ne {ps : List Pt} {m : Nat} (h : ps.map (·.id) = idsN m) {id : Int} (hid : (m : Int) ≤ id) : findP ps id = none := findP_none fun p hp e => by
  have : p.id ∈ idsN m := by rw [← h]; exact List.mem_map.2 ⟨p, hp, rfl⟩
  simp only [idsN, List.mem_map, List.mem_range] at this
  obtain ⟨i, hi, e'⟩ := this
  omega

theorem insP_end {ps : List Pt} {k : Nat} (hk : k = ps.length) (p : Pt) : insP ps k p = ps ++ [p] := by
  subst hk
  simp [insP]

theorem row_take_drop (l : List Int) (k : Nat) (hk : k < l.length) : row 0 (l.map lenOf) = row 0 ((l.take k).map lenOf) ++ (tot ((l.take k).map lenOf), lenOf (l.getD k 0)) :: row (tot ((l.take k).map lenOf) + lenOf (l.getD k 0)) ((l.drop (k + 1)).map lenOf) := by
  have h : l.map lenOf = (l.take k).map lenOf ++ lenOf (l.getD k 0) :: (l.drop (k + 1)).map lenOf := by
    rw [getD_lt hk, ← List.map_cons, ← List.drop_eq_getElem_cons hk, ← List.map_append, List.take_append_drop]
  rw [h, row_append, row, Int.zero_add]

theorem areas_length (ps : List Pt) : (areas ps).length = ps.length := by rw [areas, List.length_map]

theorem findP_at {ps : List Pt} {k : Nat} (hk : k < ps.length) {id : Int} (h : ps[k].id = id) (hne : ∀ j (hj : j < k), (ps[j]'(Nat.lt_trans hj hk)).id ≠ id) : findP ps id = some ps[k] := by
  unfold findP
  rw [List.find?_eq_some_iff_getElem]
  refine ⟨by simpa using h, k, hk, rfl, fun j hj => ?_⟩
  simpa using hne j hj

theorem filter_at {ps : List Pt} (hn : (ps.map (·.i)).Nodup) {k : Nat} (hk : k < ps.length) : (ps.filter fun p => !decide (p.i = ps[k].i)) = ps.take k ++ ps.drop (k + 1) := by
  have e : ps = ps.take k ++ ps[k] :: ps.drop (k + 1) := by rw [← List.drop_eq_getElem_cons hk, List.take_append_drop]
  have hn2 := hn
  rw [e, List.map_append, List.map_cons, List.nodup_append, List.nodup_cons] at hn2
  obtain ⟨_, ⟨h2, _⟩, h3⟩ := hn2
  obtain ⟨x, hx⟩ : ∃ x, x = ps[k] := ⟨_, rfl⟩
  rw [← hx] at h2 h3 e ⊢
  have hl : (ps.take k).filter (fun p => !decide (p.i = x.i)) = ps.take k := List.filter_eq_self.2 fun p hp => by
    have := h3 p.i (List.mem_map.2 ⟨p, hp, rfl⟩) x.i (by simp)
    simpa using this
  have hr : (ps.drop (k + 1)).filter (fun p => !decide (p.i = x.i)) = ps.drop (k + 1) := List.filter_eq_self.2 fun p hp => by
    have : p.i ≠ x.i := fun e => h2 (e ▸ List.mem_map.2 ⟨p, hp, rfl⟩)
    simpa using this
  calc (ps.filter fun p => !decide (p.i = x.i)) = ((ps.take k ++ x :: ps.drop (k + 1)).filter fun p => !decide (p.i = x.i)) := by rw [← e]
    _ = ps.take k ++ ps.drop (k + 1) := by rw [List.filter_append, hl, List.filter_cons, if_neg (by simp), hr]

end Go.Proofs.YtnbpgehpjhifgaaDoor.Lx

/-
  The law ArenaFits, in plain words.
-/
namespace Go.Proofs.YtnbpgehpjhifgaaDoor.Lx
open Go Go.Eng Go.Proofs Go.Proofs.LxArena

/-- how much blocks have -/
def tot2 : List (Int × Int) → Int
  | [] => 0
  | x :: r => x.2 + tot2 r

theorem tot2_append : ∀ (l m : List (Int × Int)), tot2 (l ++ m) = tot2 l + tot2 m
  | [], m => by simp [tot2]
  | x :: r, m => by rw [List.cons_append, tot2, tot2, tot2_append r m, Int.add_assoc]
theorem tot2_row : ∀ (ns : List Int) (e : Int), tot2 (row e ns) = tot ns
  | [], _ => rfl
  | n :: r, e => by rw [row, tot2, tot, tot2_row r]

theorem tot2_nonneg : ∀ l : List (Int × Int), (∀ x, x ∈ l → 0 ≤ x.2) → 0 ≤ tot2 l
  | [], _ => Int.le_refl _
  | x :: r, h => by
    have := tot2_nonneg r fun y hy => h y (by simp [hy])
    have := h x (by simp)
    simp only [tot2]
    omega

theorem sumW_eq (l : List (Int × Int)) (h : ∀ x, x ∈ l → 0 ≤ x.2) (hb : tot2 l ≤ 1099511627776) : sumW l = tot2 l := by
  have key : ∀ (l : List (Int × Int)) (s : Int), (∀ x, x ∈ l → 0 ≤ x.2) → 0 ≤ s → s + tot2 l ≤ 1099511627776 → l.foldl (fun s x => Go.RowKit.wrap64 (s + x.2)) s = s + tot2 l := by
    intro l
    induction l with
    | nil => intro s _ _ _; simp [tot2]
    | cons x r ih =>
      intro s hx hs hb
      have h1 := hx x (by simp)
      have h2 := tot2_nonneg r fun y hy => hx y (by simp [hy])
      simp only [tot2] at hb
      rw [List.foldl_cons, show Go.RowKit.wrap64 (s + x.2) = s + x.2 from by unfold Go.RowKit.wrap64; omega, ih _ (fun y hy => hx y (by simp [hy])) (by omega) (by omega), tot2]
      omega
  unfold sumW
  rw [key l 0 h (Int.le_refl _) (by omega)]
  omega

section
variable {T0 : TB0} {T1 : TB1} {a : Nat} {b : List Int} {ps : List Pt}

def usedP (ps : List Pt) (id : Int) : Int := match findP ps id with
  | some p => sumW p.l
  | none => 0

end

/-- the one part -/
def one3 (i : Nat) (size : Int) (l : List (Int × Int)) : Pt := ⟨i, 3, 0, size, l⟩

theorem find_one (i : Nat) (size : Int) (l : List (Int × Int)) : findP [one3 i size l] 3 = some (one3 i size l) := by
  unfold findP one3
  rw [List.find?_cons]
  simp

theorem row_rep (n : Int) (k : Nat) : row 0 (List.replicate (k + 1) n) = row 0 (List.replicate k n) ++ [((k : Int) * n, n)] := by
  rw [List.replicate_succ', row_append]
  congr 1
  have : ∀ k : Nat, tot (List.replicate k n) = (k : Int) * n := by
    intro k
    induction k with
    | zero => simp [tot]
    | succ k ih => rw [List.replicate_succ, tot, ih, Int.natCast_add, Int.add_mul]; simp; omega
  rw [this, Int.zero_add]
  rfl

theorem tot_rep (n : Int) : ∀ k : Nat, tot (List.replicate k n) = (k : Int) * n
  | 0 => by simp [tot]
  | k + 1 => by rw [List.replicate_succ, tot, tot_rep n k, Int.natCast_add, Int.add_mul]; simp; omega

theorem row_at (n : Int) : ∀ (k j : Nat) (e : Int) (hj : j < (row e (List.replicate k n)).length), (row e (List.replicate k n))[j] = (e + j * n, n)
  | 0, j, e, hj => by cases hj
  | k + 1, 0, e, hj => by simp [List.replicate_succ, row]
  | k + 1, j + 1, e, hj => by
    have hj' : j < (row (e + n) (List.replicate k n)).length := by
      simpa [List.replicate_succ, row] using hj
    have := row_at n k j (e + n) hj'
    simp only [List.replicate_succ, row, List.getElem_cons_succ]
    rw [this]
    congr 1
    rw [Int.natCast_add, Int.add_mul]
    simp
    omega

theorem row_split (n : Int) {k j : Nat} (hj : j < k) : row 0 (List.replicate k n) = row 0 (List.replicate j n) ++ ((j * n : Int), n) :: row ((j * n : Int) + n) (List.replicate (k - 1 - j) n) := by
  have h : List.replicate k n = List.replicate j n ++ n :: List.replicate (k - 1 - j) n := by
    rw [← List.replicate_succ, List.replicate_append_replicate]
    congr 1
    omega
  rw [h, row_append, row, Int.zero_add, tot_rep]

end Go.Proofs.YtnbpgehpjhifgaaDoor.Lx

/-
  The law ArenaScrubs, in plain words.
-/
namespace Go.Proofs.YtnbpgehpjhifgaaDoor.Lx
open Go Go.Eng Go.Proofs Go.Proofs.LxArena

theorem Ar.add_end {T0 : TB0} {T1 : TB1} {a : Nat} {b : List Int} {ps : List Pt} (h : Ar T0 T1 a b ps) {k : Nat} (hk : k = ps.length) {id off size : Int} :
    Ar (T0.set a (b, ((ps.map (fun p => some p.i)).take k ++ [some T1.length] ++ (ps.map (fun p => some p.i)).drop k, ()))) (T1 ++ [(id, (off, (size, ([], ()))))]) a b (ps ++ [⟨T1.length, id, off, size, []⟩]) := by
  rw [← insP_end hk]
  exact h.add

/-- all is nothing -/
theorem loop_zero {T0 : TB0} {T1 : TB1} (size : Int) (a : Option Nat) {s : Nat} (hs : s ≤ 1000) : ∀ (m k : Nat), k ≤ s → s < m + k →
    g_lodgelaw13_ArenaScrubs_1 100000 m T0 T1 size a (List.replicate s 0) (k : Int) = some (.inl ((T0, (T1, ())), (size, (a, (List.replicate s 0, ())))))
  | 0, k, h1, h2 => by omega
  | m + 1, k, h1, h2 => by
    rw [g_lodgelaw13_ArenaScrubs_1]
    simp only [List.length_replicate, Int.toNat_natCast, Nat.zero_add]
    by_cases hk : k < s
    · have hg : List.getD (List.replicate s (0 : Int)) k 0 = 0 := by
        rw [getD_lt (by rw [List.length_replicate]; exact hk), List.getElem_replicate]
      simp only [hg, wi64_succ (i := k) (by omega)]
      refine cT (by omega) ?_
      refine cT (Int.natCast_nonneg _) ?_
      refine cT hk ?_
      refine cT hk ?_
      refine cF (fun e => e rfl) ?_
      refine cT (by trivial) ?_
      exact loop_zero size a hs m (k + 1) hk (by omega)
    · refine cF (by omega) ?_
      exact cT (by trivial) rfl

/-- the same bytes -/
theorem loop_bytes (l : List Int) (hl : l.length ≤ 1000) : ∀ (m k : Nat), k ≤ l.length → l.length < m + k → g_lodgeref_SameBytes_0 100000 m l l (k : Int) = some (.inl ((), ()))
  | 0, k, h1, h2 => by omega
  | m + 1, k, h1, h2 => by
    rw [g_lodgeref_SameBytes_0]
    by_cases hk : k < l.length
    · simp only [Int.toNat_natCast, wi64_succ (i := k) (by omega)]
      refine cT (by omega) ?_
      refine cT (Int.natCast_nonneg _) ?_
      refine cT hk ?_
      refine cT (Int.natCast_nonneg _) ?_
      refine cT hk ?_
      refine bF (by simp) ?_
      exact loop_bytes l hl m (k + 1) hk (by omega)
    · exact cF (by omega) rfl

theorem Same_ok (l : List Int) (hl : l.length ≤ 1000) : F_lodgeref_SameBytes 100000 l l = some ((), (true, ())) := by
  unfold F_lodgeref_SameBytes
  refine cF (fun e => e rfl) ?_
  exact bnd _ (loop_bytes l hl 100000 0 (Nat.zero_le _) (by omega)) rfl

theorem gapA_nil {size : Nat} {n : Int} (hn : 1 ≤ n) (h : n ≤ size) : gapA [] size n = (0, 0, true) := by
  have := gapA_end (ns := []) (size := size) (n := n) hn
  rw [show row 0 [] = [] from rfl] at this
  rw [this, decide_eq_true (by simp [tot]; omega)]
  rfl

theorem scrubs_head (size_0 n_1 : Int) (b_2 : List Int) : Yld (g_lodgelaw13_ArenaScrubs_0 100000 1 [] [] size_0 n_1 b_2) fun y => (∃ Z, y = .inr Z ∧ Z.2.1 = true) ∨
    ∃ (s i a : Nat) (T0 : TB0) (T1 : TB1), y = .inl ((T0, (T1, ())), ((s : Int), (some a, (List.replicate s 0, ((0, ()), ()))))) ∧ Ar T0 T1 a (List.replicate s 0) [⟨i, 8, 0, s, [(0, (s : Int))]⟩] ∧ 1 ≤ s ∧ s ≤ 200 := by
  obtain ⟨t0, t1, hf⟩ := first_ok
  rw [g_lodgelaw13_ArenaScrubs_0]
  refine Yld.bnd _ hf ?_
  refine Yld.bF rfl ?_
  refine Yld.bnd _ (Number_ok _ _ (by omega) (by omega)) ?_
  obtain ⟨s, hse, hs1, hs2⟩ : ∃ s : Nat, wi64 (size_0 % 200 + 1) = s ∧ 1 ≤ s ∧ s ≤ 200 := ⟨(size_0 % 200 + 1).toNat, by rw [wi64_in (by omega) (by omega)]; omega, by omega, by omega⟩
  simp only [hse]
  refine Yld.bnd _ (Number_ok _ _ (by omega) (by omega)) ?_
  obtain ⟨m, hme, hm1, hm2⟩ : ∃ m : Nat, wi64 (n_1 % (s : Int) + 1) = m ∧ 1 ≤ m ∧ m ≤ s := by
    have h1 := Int.emod_nonneg n_1 (show (s : Int) ≠ 0 by omega)
    have h2 := Int.emod_lt_of_pos n_1 (show (0 : Int) < s by omega)
    exact ⟨(n_1 % (s : Int) + 1).toNat, by rw [wi64_in (by omega) (by omega)]; omega, by omega, by omega⟩
  simp only [hme]
  by_cases hb200 : (200 : Int) < (b_2.length : Int)
  · refine Yld.bnd _ (cT hb200 rfl) ?_
    exact Yld.bT rfl (Yld.ret (.inl ⟨_, rfl, rfl⟩))
  refine Yld.bnd _ (cF hb200 rfl) ?_
  refine Yld.bF rfl ?_
  refine Yld.bnd _ (New_ok t0 t1 (size := s) (by omega) (by omega)) ?_
  refine Yld.bnd _ (bF rfl rfl) ?_
  refine Yld.bF rfl ?_
  have hA0 := Ar.new t0 t1 (List.replicate s 0)
  obtain ⟨b, hb⟩ : ∃ b, b = List.replicate s (0 : Int) := ⟨_, rfl⟩
  have hbl : b.length = s := by rw [hb, List.length_replicate]
  rw [← hb] at hA0 ⊢
  have hadd := Add_go (N := 100000) (id := 7) hA0 (by omega) (by simp) (fun x hx => by cases hx) (by omega) (size := (s : Int)) (by omega) rfl
  have hg : gapA (areas []) (b.length : Int) (s : Int) = (0, 0, true) := by rw [hbl]; exact gapA_nil (by omega) (by omega)
  rw [hg] at hadd
  simp only [if_true] at hadd
  have hA1 := hA0.add_end (k := 0) (by rfl) (id := 7) (off := 0) (size := (s : Int))
  rw [List.nil_append] at hA1
  refine Yld.bnd _ hadd ?_
  have htake := Take_go (N := 100000) (id := 7) hA1 (by omega) (by simp) (p := ⟨t1.length, 7, 0, s, []⟩) rfl (fun x hx => by cases hx) (by simp) (Int.natCast_nonneg _) (show (s : Int) ≤ 1099511627776 by omega) (n := (m : Int)) (by omega)
  simp only [gapA_nil (size := s) (n := (m : Int)) (by omega) (by omega), if_true, List.take_nil, List.drop_nil, List.nil_append, List.append_nil] at htake
  refine Yld.bnd _ htake ?_
  dsimp only
  have hA2 := hA1.setL (p := ⟨t1.length, 7, 0, s, []⟩) (by simp) [(0, (m : Int))]
  have hset : ∀ (i : Nat) (id : Int) (l : List (Int × Int)), setL [⟨i, id, 0, (s : Int), []⟩] i l = [⟨i, id, 0, (s : Int), l⟩] := fun i id l => by simp [setL]
  rw [hset] at hA2
  obtain ⟨q, hq, hq1, hq2⟩ : ∃ q : Nat, imin (b_2.length : Int) (m : Int) = q ∧ q ≤ b_2.length ∧ q ≤ m := by
    refine ⟨min b_2.length m, ?_, by omega, by omega⟩
    unfold imin
    split <;> omega
  rw [hq]
  refine Yld.cT (Int.natCast_nonneg _) ?_
  rw [Int.toNat_natCast, Nat.sub_zero]
  refine Yld.cT hq1 ?_
  obtain ⟨bs, hbs⟩ : ∃ bs, bs = b_2.take q := ⟨_, rfl⟩
  have hbsl : bs.length = q := by rw [hbs, List.length_take]; omega
  rw [← hbs]
  have hwrite := Write_hit (N := 100000) (id := 7) hA2 (by omega) (by simp) (p := ⟨t1.length, 7, 0, s, [(0, (m : Int))]⟩) rfl (fun x hx => by rw [List.mem_singleton.1 hx]; simp; omega) (by simp) (po := 0) (oo := 0) (j := 0) bs rfl (by simp) (by unfold holds; simp [hbsl]; omega) (fun i hi => by omega) (by omega) (by omega)
  have hA3 := hA2.setB (b.take (0 + 0) ++ bs ++ b.drop (0 + 0 + bs.length))
  obtain ⟨b1, hb1⟩ : ∃ b1, b1 = b.take (0 + 0) ++ bs ++ b.drop (0 + 0 + bs.length) := ⟨_, rfl⟩
  have hb1l : b1.length = s := by rw [hb1]; simp only [List.length_append, List.length_take, List.length_drop]; omega
  rw [← hb1] at hwrite hA3
  refine Yld.bnd _ hwrite ?_
  have hrem := Remove_some (N := 100000) (id := 7) hA3 (by omega) (by simp) (p := ⟨t1.length, 7, 0, s, [(0, (m : Int))]⟩) rfl (off := 0) (size := s) rfl rfl (by omega) (by omega)
  have hA4 := hA3.remove (clearB b1 0 s) t1.length
  have hclr : clearB b1 0 s = List.replicate s 0 := by
    unfold clearB
    simp only [List.take_zero, List.nil_append, Nat.zero_add]
    rw [List.drop_eq_nil_of_le (by omega), List.append_nil]
  have hfil : ([(⟨t1.length, 7, 0, (s : Int), [(0, (m : Int))]⟩ : Pt)].filter fun p => !decide (p.i = t1.length)) = [] := by simp
  rw [hfil, hclr, ← hb] at hA4
  rw [hclr, ← hb] at hrem
  refine Yld.bnd _ hrem ?_
  dsimp only
  have hadd2 := Add_go (N := 100000) (id := 8) hA4 (by omega) (by simp) (fun x hx => by cases hx) (by omega) (size := (s : Int)) (by omega) rfl
  rw [hg] at hadd2
  simp only [if_true] at hadd2
  have hA5 := hA4.add_end (k := 0) (by rfl) (id := 8) (off := 0) (size := (s : Int))
  rw [List.nil_append] at hA5
  refine Yld.bnd _ hadd2 ?_
  obtain ⟨i, hi⟩ : ∃ i, i = (List.set (t1 ++ [((7 : Int), ((0 : Int), ((s : Int), (([] : List (Int × Int)), ()))))]) t1.length (7, (0, ((s : Int), ([(0, (m : Int))], ()))))).length := ⟨_, rfl⟩
  have hA5' := hA5
  dsimp only at hA5'
  have htake2 := Take_go (N := 100000) (id := 8) hA5 (by omega) (by simp) (p := ⟨_, 8, 0, s, []⟩) rfl (fun x hx => by cases hx) (by simp) (Int.natCast_nonneg _) (show (s : Int) ≤ 1099511627776 by omega) (n := (s : Int)) (by omega)
  simp only [gapA_nil (size := s) (n := (s : Int)) (by omega) (by omega), if_true, List.take_nil, List.drop_nil, List.nil_append, List.append_nil] at htake2
  have hA6 := hA5.setL (p := ⟨_, 8, 0, s, []⟩) (List.mem_singleton.2 rfl) [(0, (s : Int))]
  rw [hset] at hA6
  refine Yld.bnd _ htake2 ?_
  have hread := Read_hit (N := 100000) (id := 8) hA6 (by omega) (by simp) (p := ⟨_, 8, 0, s, [(0, (s : Int))]⟩) rfl (fun x hx => by rw [List.mem_singleton.1 hx]; simp; omega) (by simp) (po := 0) (oo := 0) (nn := s) (j := 0) rfl (by simp) (by unfold holds; simp) (fun i hi => by omega) (by omega) (by omega)
  have hsl : (b.drop (0 + 0)).take s = List.replicate s 0 := by rw [hb]; simp
  rw [hsl] at hread
  refine Yld.bnd _ hread ?_
  have hnone := Remove_none (N := 100000) (id := 7) hA6 (by omega) (by simp) rfl
  dsimp only
  refine Yld.bind (Q := fun y => y.2.2.2.2.1 = false ∧ ∃ T0 T1, y.1 = (T0, (T1, ())) ∧ y.2.1 = (s : Int) ∧ y.2.2.1 = some t0.length ∧ y.2.2.2.1 = List.replicate s 0 ∧ ∃ i, Ar T0 T1 t0.length b [⟨i, 8, 0, s, [(0, (s : Int))]⟩]) ?_ ?_
  · refine Yld.bF rfl ?_
    refine Yld.bF rfl ?_
    refine Yld.bF rfl ?_
    refine Yld.bF rfl ?_
    refine Yld.bF rfl ?_
    refine Yld.bF rfl ?_
    refine Yld.bF rfl ?_
    refine Yld.cF (fun e => e rfl) ?_
    refine Yld.cF (fun e => e (by rw [List.length_replicate])) ?_
    refine Yld.bnd _ hnone ?_
    refine Yld.cT (by trivial) ?_
    exact Yld.ret ⟨rfl, _, _, rfl, rfl, rfl, rfl, _, hA6⟩
  · rintro ⟨yt, y1, y2, y3, y4, ⟨⟩⟩ ⟨h1, T0, T1, h2, h3, h4, h5, i, hA⟩
    simp only at h1 h2 h3 h4 h5
    subst h1 h2 h3 h4 h5
    refine Yld.bF rfl ?_
    refine Yld.cT (by trivial) ?_
    have hz := loop_zero (T0 := T0) (T1 := T1) (s : Int) (some t0.length) (s := s) (by omega) 100000 0 (Nat.zero_le _) (by omega)
    refine Yld.bnd _ hz ?_
    simp only [Sum.elim_inl]
    refine Yld.cT (by trivial) ?_
    rw [hb] at hA
    exact Yld.ret (.inr ⟨s, i, t0.length, T0, T1, rfl, hA, hs1, hs2⟩)

section
variable {T0 : TB0} {T1 : TB1} {a i s : Nat}

theorem scrubs_ok (hA : Ar T0 T1 a (List.replicate s 0) [⟨i, 8, 0, s, [(0, (s : Int))]⟩]) : (decide ((0 : Int) = 0) && (decide (a < T0.length) && handlesOK T1 (T0.getD a z0).2.1)) = true := by
  have hr0 : T0.getD a z0 = (List.replicate s 0, ([some i], ())) := getD_of hA.row z0
  have hr1 : T1.getD i z1 = (8, (0, ((s : Int), ([(0, (s : Int))], ())))) := getD_of (hA.part _ (List.mem_singleton.2 rfl)) z1
  rw [hr0]
  have h1 := hA.len
  have h2 : i < T1.length := hA.len1 (List.mem_singleton.2 rfl)
  have h3 : (T1.getD i z1).2.2.2.1.length ≤ 1000000 := by rw [hr1]; simp
  simp only [handlesOK, List.all_cons, List.all_nil, List.length_cons, List.length_nil, Bool.and_true, Bool.and_eq_true, decide_eq_true_eq]
  exact ⟨trivial, h1, by omega, h2, h3⟩

theorem scrubs_left (hA : Ar T0 T1 a (List.replicate s 0) [⟨i, 8, 0, s, [(0, (s : Int))]⟩]) (hs2 : s ≤ 200) : leftOf T1 (T0.getD a z0).2.1 8 = (s : Int) := by
  have hr0 : T0.getD a z0 = (List.replicate s 0, ([some i], ())) := getD_of hA.row z0
  have hr1 : T1.getD i z1 = (8, (0, ((s : Int), ([(0, (s : Int))], ())))) := getD_of (hA.part _ (List.mem_singleton.2 rfl)) z1
  have hw : RowKit.wrap64 (0 + (s : Int)) = (s : Int) := by
    unfold RowKit.wrap64
    omega
  have h1 : rowsAt T1 (T0.getD a z0).2.1 = [(8, (0, ((s : Int), ([(0, (s : Int))], ()))))] := by
    rw [hr0]
    show [T1.getD i z1] = _
    rw [hr1]
  have h2 : leftOf T1 (T0.getD a z0).2.1 8 = lastW [(0, (s : Int))] := by
    unfold leftOf
    rw [h1]
    rfl
  have h3 := lastW_snoc [] (0, (s : Int))
  rw [List.nil_append] at h3
  rw [h2, h3]
  exact hw

theorem scrubs_end (hA : Ar T0 T1 a (List.replicate s 0) [⟨i, 8, 0, s, [(0, (s : Int))]⟩]) (hs1 : 1 ≤ s) (hs2 : s ≤ 200) : Yld (g_lodgelaw13_ArenaScrubs_2 100000 1 T0 T1 (s : Int) (some a) (List.replicate s 0) ((s : Int), ())) fun y => y.2.1 = true := by
  rw [g_lodgelaw13_ArenaScrubs_2]
  refine Yld.cT rfl ?_
  refine Yld.bnd _ (Raw_all (N := 100000) hA (n := s) (List.length_replicate ..) hs1 (by omega)) ?_
  refine Yld.cT (by simp) ?_
  refine Yld.cT (by simp) ?_
  have := Same_ok (List.replicate s 0) (by rw [List.length_replicate]; omega)
  simp only [List.take_length]
  refine Yld.bnd _ this ?_
  exact Yld.ret rfl
end

theorem arenaScrubs_law (size_0 n_1 : Int) (b_2 : List Int) : Yld (F_lodgelaw13_ArenaScrubs 100000 [] [] size_0 n_1 b_2) fun y => y.2.1 = true := by
  unfold F_lodgelaw13_ArenaScrubs
  refine Yld.bind (scrubs_head size_0 n_1 b_2) ?_
  rintro y (⟨Z, rfl, hZ⟩ | ⟨s, i, a, T0, T1, rfl, hA, hs1, hs2⟩)
  · exact Yld.ret hZ
  · have h := scrubs_end hA hs1 hs2
    have hl := scrubs_left hA hs2
    have hok := scrubs_ok hA
    show Yld (match decide ((0 : Int) = 0) && (decide (a < T0.length) && handlesOK T1 (T0.getD a z0).2.1) with
        | true => g_lodgelaw13_ArenaScrubs_2 100000 1 T0 T1 (s : Int) (some a) (List.replicate s 0) (leftOf T1 (T0.getD a z0).2.1 8, ())
        | false => none) _
    rw [hok, hl]
    exact h

theorem arenaScrubs_row (x : Val (rowTy ps_lodgelaw13_ArenaScrubs)) (_ : FitsL ps_lodgelaw13_ArenaScrubs x) : Yld (F_lodgelaw13_ArenaScrubs 100000 [] [] x.1 x.2.1 x.2.2.1) fun y => y.2.1 = true := arenaScrubs_law x.1 x.2.1 x.2.2.1

end Go.Proofs.YtnbpgehpjhifgaaDoor.Lx
