/-
  What the program's functions come to, in plain words.
-/
import Derived.Test.YtohkmbpdjigjdaaDoorLgSoftAW
namespace Go.Proofs.YtohkmbpdjigjdaaDoor.Lg
open Go Go.Eng Go.Proofs

/-! numbers of 64 bits: what a table needs -/

def notNaN (x : Nat) : Prop := ∀ s t, FloatKind.f64.decode x ≠ .nan s t

theorem word_notNaN (s : Bool) {r : Nat} (h : r ≤ Ieee.double.infRung) : notNaN (Ieee.double.word s r) := by
  have h1 : Ieee.double.infRung < Ieee.double.signWeight := by decide
  have h2 : Ieee.double.word s r % Ieee.double.signWeight = r := by
    unfold Ieee.Format.word
    cases s
    · rw [if_neg (by decide), Nat.mod_eq_of_lt (by omega)]
    · rw [if_pos rfl, Nat.add_mod_left, Nat.mod_eq_of_lt (by omega)]
  intro s' t' e
  change Ieee.double.read (Ieee.double.word s r) = _ at e
  unfold Ieee.Format.read at e
  simp only [h2] at e
  split at e
  · cases e
  · split at e
    · cases e
    · split at e
      · cases e
      · omega

theorem near_notNaN (s : Bool) (m : Nat) (p : Int) : notNaN (Ieee.double.nearest s m p) := by
  unfold Ieee.Format.nearest
  split
  · exact word_notNaN s (Nat.zero_le _)
  · exact word_notNaN s (Nat.min_le_right _ _)

theorem write_notNaN {d : Ieee.Datum} (h : ∀ s t, d ≠ .nan s t) : notNaN (Ieee.double.write d) := by
  cases d with
  | number s m p => exact near_notNaN s m p
  | infinity s => exact word_notNaN s (Nat.le_refl _)
  | nan s t => exact absurd rfl (h s t)

theorem evenOK_of {x : Nat} (h : notNaN x) : evenOK x = true := by
  unfold evenOK
  cases e : FloatKind.f64.decode x with
  | nan s t => exact absurd e (h s t)
  | number s m p => rfl
  | infinity s => rfl

/-- is it a number, and not nothing? -/
def numB (x : Nat) : Bool := match FloatKind.f64.decode x with
  | .number _ m _ => m != 0
  | _ => false

theorem mul_some {x y : Nat} (hx : notNaN x) (hy : numB y = true) : ∃ z, fbin .mul x y = some z ∧ notNaN z := by
  unfold numB at hy
  change ∃ z, ((Ieee.double.read x).product (Ieee.double.read y)).map Ieee.double.write = some z ∧ notNaN z
  change (match Ieee.double.read y with | .number _ m _ => m != 0 | _ => false) = true at hy
  have hx' : ∀ s t, Ieee.double.read x ≠ .nan s t := hx
  cases e2 : Ieee.double.read y with
  | nan s t => rw [e2] at hy; cases hy
  | infinity s => rw [e2] at hy; cases hy
  | number s m p =>
    rw [e2] at hy
    have hm : m ≠ 0 := by simpa using hy
    cases e1 : Ieee.double.read x with
    | nan s t => exact absurd e1 (hx' s t)
    | infinity s' =>
      refine ⟨Ieee.double.write (.infinity (s' ^^ s)), ?_, write_notNaN (by intro a b h; cases h)⟩
      simp [Ieee.Datum.product, hm]
    | number s' m' p' => exact ⟨Ieee.double.write (.number (s' ^^ s) (m' * m) (p' + p)), rfl, write_notNaN (by intro a b h; cases h)⟩

theorem cut_zero (s : Bool) (n d : Nat) : Ieee.Toward.cut .zero s n d = n / 2 ^ (min d (n.log2 + 2)) := by
  unfold Ieee.Toward.cut
  simp [Nat.shiftLeft_eq]

theorem pow_split {k : Nat} (h : 11 ≤ k) (m : Nat) : m * 2 ^ k = m * 2 ^ (k - 11) * 2048 := by
  rw [Nat.mul_assoc, show (2048 : Nat) = 2 ^ 11 from rfl, ← Nat.pow_add, show k - 11 + 11 = k by omega]

theorem pow_rest {k : Nat} (h : k ≤ 11) : 2 ^ (11 - k) * 2 ^ k = 2048 := by
  rw [← Nat.pow_add, show 11 - k + k = 11 by omega]

theorem cut_lt (s : Bool) {m : Nat} {i : Int} (h : m * 2 ^ (i - min i 11).toNat < 4503599627370496 * 2 ^ (11 - min i 11).toNat) : Ieee.Toward.cut .zero s (m <<< i.toNat) (-i).toNat < 9223372036854775808 := by
  rw [cut_zero, Nat.shiftLeft_eq]
  by_cases hi : 0 ≤ i
  · obtain ⟨k, rfl⟩ : ∃ k : Nat, i = k := ⟨i.toNat, by omega⟩
    have e1 : (-(k : Int)).toNat = 0 := by omega
    rw [e1, Nat.zero_min, Nat.pow_zero, Nat.div_one, Int.toNat_natCast]
    by_cases hk : 11 ≤ k
    · have e2 : ((k : Int) - min (k : Int) 11).toNat = k - 11 := by omega
      have e3 : (11 - min (k : Int) 11).toNat = 0 := by omega
      rw [e2, e3, Nat.pow_zero, Nat.mul_one] at h
      rw [pow_split hk]
      generalize m * 2 ^ (k - 11) = y at *
      omega
    · have e2 : ((k : Int) - min (k : Int) 11).toNat = 0 := by omega
      have e3 : (11 - min (k : Int) 11).toNat = 11 - k := by omega
      rw [e2, e3, Nat.pow_zero, Nat.mul_one] at h
      have := Nat.mul_lt_mul_of_pos_right h (Nat.two_pow_pos k)
      rw [Nat.mul_assoc, pow_rest (by omega)] at this
      exact this
  · obtain ⟨k, rfl⟩ : ∃ k : Nat, i = -(k : Int) := ⟨(-i).toNat, by omega⟩
    have e1 : (- -(k : Int)).toNat = k := by omega
    have e2 : (-(k : Int) - min (-(k : Int)) 11).toNat = 0 := by omega
    have e3 : (11 - min (-(k : Int)) 11).toNat = 11 + k := by omega
    have e4 : (-(k : Int)).toNat = 0 := by omega
    rw [e2, e3, Nat.pow_zero, Nat.mul_one, Nat.pow_add, show (2 : Nat) ^ 11 = 2048 from rfl] at h
    rw [e1, e4, Nat.pow_zero, Nat.mul_one]
    by_cases hk : k ≤ m.log2 + 2
    · rw [Nat.min_eq_left hk]
      apply Nat.div_lt_of_lt_mul
      generalize 2 ^ k = y at *
      omega
    · rw [Nat.min_eq_right (by omega), Nat.div_eq_of_lt]
      · omega
      · have := Nat.lt_log2_self (n := m)
        rw [show m.log2 + 2 = m.log2 + 1 + 1 from rfl, Nat.pow_succ]
        omega

theorem cut_le (s : Bool) {m : Nat} {i : Int} (h : m * 2 ^ (i - min i 11).toNat ≤ 4503599627370496 * 2 ^ (11 - min i 11).toNat) : Ieee.Toward.cut .zero s (m <<< i.toNat) (-i).toNat ≤ 9223372036854775808 := by
  rw [cut_zero, Nat.shiftLeft_eq]
  by_cases hi : 0 ≤ i
  · obtain ⟨k, rfl⟩ : ∃ k : Nat, i = k := ⟨i.toNat, by omega⟩
    have e1 : (-(k : Int)).toNat = 0 := by omega
    rw [e1, Nat.zero_min, Nat.pow_zero, Nat.div_one, Int.toNat_natCast]
    by_cases hk : 11 ≤ k
    · have e2 : ((k : Int) - min (k : Int) 11).toNat = k - 11 := by omega
      have e3 : (11 - min (k : Int) 11).toNat = 0 := by omega
      rw [e2, e3, Nat.pow_zero, Nat.mul_one] at h
      rw [pow_split hk]
      generalize m * 2 ^ (k - 11) = y at *
      omega
    · have e2 : ((k : Int) - min (k : Int) 11).toNat = 0 := by omega
      have e3 : (11 - min (k : Int) 11).toNat = 11 - k := by omega
      rw [e2, e3, Nat.pow_zero, Nat.mul_one] at h
      have := Nat.mul_le_mul_right (2 ^ k) h
      rw [Nat.mul_assoc, pow_rest (by omega)] at this
      exact this
  · obtain ⟨k, rfl⟩ : ∃ k : Nat, i = -(k : Int) := ⟨(-i).toNat, by omega⟩
    have e1 : (- -(k : Int)).toNat = k := by omega
    have e2 : (-(k : Int) - min (-(k : Int)) 11).toNat = 0 := by omega
    have e3 : (11 - min (-(k : Int)) 11).toNat = 11 + k := by omega
    have e4 : (-(k : Int)).toNat = 0 := by omega
    rw [e2, e3, Nat.pow_zero, Nat.mul_one, Nat.pow_add, show (2 : Nat) ^ 11 = 2048 from rfl] at h
    rw [e1, e4, Nat.pow_zero, Nat.mul_one]
    by_cases hk : k ≤ m.log2 + 2
    · rw [Nat.min_eq_left hk]
      apply Nat.div_le_of_le_mul
      generalize 2 ^ k = y at *
      omega
    · rw [Nat.min_eq_right (by omega), Nat.div_eq_of_lt]
      · omega
      · have := Nat.lt_log2_self (n := m)
        rw [show m.log2 + 2 = m.log2 + 1 + 1 from rfl, Nat.pow_succ]
        omega

theorem compare_cases (a b : Int) : (a < b ∧ compare a b = .lt) ∨ (a = b ∧ compare a b = .eq) ∨ (b < a ∧ compare a b = .gt) := by
  change (a < b ∧ compareOfLessAndEq a b = .lt) ∨ (a = b ∧ compareOfLessAndEq a b = .eq) ∨ (b < a ∧ compareOfLessAndEq a b = .gt)
  unfold compareOfLessAndEq
  by_cases h : a < b
  · left; exact ⟨h, if_pos h⟩
  · by_cases h2 : a = b
    · right; left; exact ⟨h2, by rw [if_neg h, if_pos h2]⟩
    · right; right; exact ⟨by omega, by rw [if_neg h, if_neg h2]⟩

theorem dec_ints : FloatKind.f64.decode 4890909195324358656 = .number false 4503599627370496 11 := by rfl

theorem dec_nints : FloatKind.f64.decode 14114281232179134464 = .number true 4503599627370496 11 := by rfl

theorem ftoi_ok {r : Nat} (h1 : (Ieee.Format.order (FloatKind.format .f64) r r != some Ordering.eq) = false) (h2 : (Ieee.Format.order (FloatKind.format .f64) r 14114281232179134464 == some Ordering.lt) = false)
    (h3 : ((Ieee.Format.order (FloatKind.format .f64) r 4890909195324358656 == some Ordering.gt) || (Ieee.Format.order (FloatKind.format .f64) r 4890909195324358656 == some Ordering.eq)) = false) : ftoiOK .i64 r = true := by
  change ((FloatKind.f64.decode r).order (FloatKind.f64.decode r) != some Ordering.eq) = false at h1
  change ((FloatKind.f64.decode r).order (FloatKind.f64.decode 14114281232179134464) == some Ordering.lt) = false at h2
  change (((FloatKind.f64.decode r).order (FloatKind.f64.decode 4890909195324358656) == some Ordering.gt) || ((FloatKind.f64.decode r).order (FloatKind.f64.decode 4890909195324358656) == some Ordering.eq)) = false at h3
  rw [dec_nints] at h2
  rw [dec_ints] at h3
  unfold ftoiOK
  cases e : FloatKind.f64.decode r with
  | nan s t => rw [e] at h1; cases h1
  | infinity s =>
    rw [e] at h2 h3
    cases s
    · cases h3
    · cases h2
  | number s m i =>
    rw [e] at h2 h3
    simp only [Ieee.Datum.order] at h2 h3
    have c1 : Ieee.signed s m (i - min i 11).toNat < Ieee.signed false 4503599627370496 (11 - min i 11).toNat := by
      rcases compare_cases (Ieee.signed s m (i - min i 11).toNat) (Ieee.signed false 4503599627370496 (11 - min i 11).toNat) with h | h | h
      · exact h.1
      · rw [h.2] at h3; cases h3
      · rw [h.2] at h3; cases h3
    have c2 : Ieee.signed true 4503599627370496 (11 - min i 11).toNat ≤ Ieee.signed s m (i - min i 11).toNat := by
      rcases compare_cases (Ieee.signed s m (i - min i 11).toNat) (Ieee.signed true 4503599627370496 (11 - min i 11).toNat) with h | h | h
      · rw [h.2] at h2; cases h2
      · omega
      · omega
    have ht : (Ieee.Datum.number s m i).toInt .zero = some (Ieee.signed s (Ieee.Toward.cut .zero s (m <<< i.toNat) (-i).toNat) 0) := rfl
    rw [ht]
    have hmin : IntKind.i64.min = -9223372036854775808 := rfl
    have hmax : IntKind.i64.max = 9223372036854775807 := rfl
    simp only [hmin, hmax, Bool.and_eq_true, decide_eq_true_eq]
    cases s with
    | false =>
      unfold Ieee.signed at c1
      simp only [Bool.false_eq_true, if_false, Nat.shiftLeft_eq] at c1
      have := cut_lt false (m := m) (i := i) (by omega)
      unfold Ieee.signed
      simp only [Bool.false_eq_true, if_false, Nat.shiftLeft_zero]
      omega
    | true =>
      unfold Ieee.signed at c2
      simp only [if_true, Nat.shiftLeft_eq] at c2
      have := cut_le true (m := m) (i := i) (by omega)
      unfold Ieee.signed
      simp only [if_true, Nat.shiftLeft_zero]
      omega

theorem flt_Whole_spec (N : Nat) {x : Nat} (h : notNaN x) : ∃ z : Int, F_flt_Whole N x 0 1048576 = some (z, ()) ∧ 0 ≤ z ∧ z ≤ 1048576 := by
  have hz : ∀ v : Int, 0 ≤ imax 0 (imin v 1048576) ∧ imax 0 (imin v 1048576) ≤ 1048576 := by
    intro v
    unfold imax imin
    constructor <;> (repeat' split) <;> omega
  unfold F_flt_Whole F_flt_Round
  have e0 : (cond (evenOK x) (some (evenF x, ())) none) = some (evenF x, ()) := by rw [evenOK_of h]; rfl
  rw [e0]
  simp only [Option.bind_some]
  unfold F_math_IsNaN
  simp only [Option.bind_some]
  cases h1 : (Ieee.Format.order (FloatKind.format .f64) (evenF x) (evenF x) != some Ordering.eq)
  case true => exact ⟨_, rfl, hz _⟩
  cases h2 : (Ieee.Format.order (FloatKind.format .f64) (evenF x) 14114281232179134464 == some Ordering.lt)
  case true => exact ⟨_, rfl, hz _⟩
  cases h3 : ((Ieee.Format.order (FloatKind.format .f64) (evenF x) 4890909195324358656 == some Ordering.gt) || (Ieee.Format.order (FloatKind.format .f64) (evenF x) 4890909195324358656 == some Ordering.eq))
  case true =>
    refine ⟨imax 0 (imin 9223372036854775807 1048576), ?_, hz _⟩
    exact bF rfl (bF rfl (bT rfl rfl))
  refine ⟨imax 0 (imin (ftoi (evenF x)) 1048576), ?_, hz _⟩
  exact bF rfl (bF rfl (bF rfl (bT (ftoi_ok h1 h2 h3) rfl)))

theorem loop_Table (N : Nat) {by_ : Nat} (hb : numB by_ = true) (t : List Int × (Bool × (List Int × Unit))) : ∀ (cnt i : Nat) (v : Int) (L : List Int), i ≤ 256 → 256 < cnt + i → L.length = i → 0 ≤ v → v ≤ 1048576 → (∀ x, x ∈ L → 0 ≤ x ∧ x ≤ 1048576) → (i = 0 → v = 1048576) → (0 < i → L.getD 0 0 = 1048576) →
    ∃ L', g_soft_Table_0 N cnt by_ t (boxT [256] true L) v i = some (t, (boxT [256] true L', ())) ∧ L'.length = 256 ∧ (∀ x, x ∈ L' → 0 ≤ x ∧ x ≤ 1048576) ∧ L'.getD 0 0 = 1048576
  | 0, i, v, L, h1, h2, _, _, _, _, _, _ => by omega
  | cnt + 1, i, v, L, h1, h2, hL, v0, v1, fL, hv, hg => by
    rw [g_soft_Table_0]
    by_cases hi : i < 256
    · obtain ⟨z, hz, hz'⟩ := mul_some (x := FloatKind.nearest .f64 v) (near_notNaN _ _ _) hb
      obtain ⟨w, hw, w0, w1⟩ := flt_Whole_spec N hz'
      have e : List.take (List.length L) L ++ [v] = L ++ [v] := by rw [List.take_length]
      have ih := loop_Table N hb t cnt (i + 1) w (L ++ [v]) (by omega) (by omega) (by simp [hL]) w0 w1 (by
        intro x hx
        rcases List.mem_append.1 hx with h | h
        · exact fL x h
        · rw [List.mem_singleton] at h; subst h; omega) (by omega) (by
        intro _
        by_cases h0 : i = 0
        · have : L = [] := List.length_eq_zero_iff.1 (by omega)
          subst this
          exact hv h0
        · have := hg (by omega)
          rw [List.getD_eq_getElem?_getD, List.getElem?_append_left (by omega), ← List.getD_eq_getElem?_getD]
          exact this)
      obtain ⟨L', h3, h4⟩ := ih
      refine ⟨L', ?_, h4⟩
      refine cT (by omega) (cT (by omega) (cT (by dsimp only; rw [hL]; simp only [most]; omega) ?_))
      rw [hz]
      refine bT rfl (bnd _ hw ?_)
      (repeat first | refine cT rfl ?_ | refine cT True.intro ?_)
      dsimp only
      rw [e]
      refine cT (by simp) ?_
      rw [wi64_succ (by omega)]
      exact h3
    · have : i = 256 := by omega
      refine ⟨L, cF (by omega) ?_, by omega, fL, hg (by omega)⟩
      (repeat first | refine cT rfl ?_ | refine cT True.intro ?_)
      rfl

def byV (k : Nat) : Option Nat := fbin .quo (FloatKind.nearest .f64 (wi64 ((k : Int) + 1))) 4636737291354636288

def byOK (k : Nat) : Bool := (byV k).isSome && numB ((byV k).getD 0) && (match F_flt_Kind 100000 ((byV k).getD 0) with | some (k, _) => !(decide (k = 1)) && !(decide (k = 2)) | none => false)
  && !((Ieee.Format.order (FloatKind.format .f64) ((byV k).getD 0) 0 == some Ordering.lt) || (Ieee.Format.order (FloatKind.format .f64) ((byV k).getD 0) 0 == some Ordering.eq))
  && !((Ieee.Format.order (FloatKind.format .f64) ((byV k).getD 0) 4607182418800017408 == some Ordering.gt) || (Ieee.Format.order (FloatKind.format .f64) ((byV k).getD 0) 4607182418800017408 == some Ordering.eq))

theorem byOK_all : (List.range 98).all byOK = true := by kernel_rfl

theorem soft_Table_spec {k : Nat} (hk : k < 98) : (byV k).isSome = true ∧ ∃ L, F_soft_Table 100000 ((byV k).getD 0) = some (boxT [256] true L, (.nil, ())) ∧ L.length = 256 ∧ (∀ x, x ∈ L → 0 ≤ x ∧ x ≤ 1048576) ∧ L.getD 0 0 = 1048576 := by
  have h := List.all_eq_true.1 byOK_all k (by simpa using hk)
  unfold byOK at h
  simp only [Bool.and_eq_true, Bool.not_eq_true'] at h
  obtain ⟨⟨⟨⟨h1, h2⟩, h3⟩, h4⟩, h5⟩ := h
  refine ⟨h1, ?_⟩
  generalize (byV k).getD 0 = b at *
  cases hK : F_flt_Kind 100000 b with
  | none => rw [hK] at h3; cases h3
  | some p =>
    obtain ⟨q, r⟩ := p
    rw [hK] at h3
    simp only [Bool.and_eq_true, Bool.not_eq_true', decide_eq_false_iff_not] at h3
    obtain ⟨L, e1, e2, e3, e4⟩ := loop_Table 100000 h2 ([], (false, ([], ()))) 100000 0 1048576 [] (by omega) (by omega) rfl (by omega) (by omega) (by simp) (fun _ => rfl) (by omega)
    refine ⟨L, ?_, e2, e3, e4⟩
    unfold F_soft_Table
    refine bnd _ hK (cF h3.1 (cF h3.2 ?_))
    refine bF h4 (bF h5 ?_)
    rw [show ((0 : Nat) : Int) = 0 from rfl] at e1
    refine bnd _ e1 ?_
    (repeat first | refine cT rfl ?_ | refine cT True.intro ?_)
    rfl

theorem loop_SoftShifts_0 (N : Nat) (l : List Int) (by_ n : Int) (hl : l.length ≤ 1000) : ∀ (cnt i : Nat), i ≤ l.length → l.length < cnt + i →
    g_lodgelaw11_SoftShifts_0 N cnt l by_ n (boxT [(l.length : Int)] false ((List.range i).map fun p => l.getD p 0 % 100 - 50)) i = some (l, (by_, (n, (boxT [(l.length : Int)] false ((List.range l.length).map fun p => l.getD p 0 % 100 - 50), ()))))
  | 0, i, h, h' => by omega
  | cnt + 1, i, h, h' => by
    rw [g_lodgelaw11_SoftShifts_0]
    by_cases hi : i < l.length
    · have e : List.take (List.length ((List.range i).map fun p => l.getD p 0 % 100 - 50)) ((List.range i).map fun p => l.getD p 0 % 100 - 50) ++ [l.getD i 0 % 100 - 50] = (List.range (i + 1)).map fun p => l.getD p 0 % 100 - 50 := by
        rw [List.take_length, List.range_succ, List.map_append]
        rfl
      refine cT (by omega) (cT (by omega) (cT (by simpa using hi) ?_))
      rw [Int.toNat_natCast]
      refine bnd _ (lodgeworld_Number_spec N _ _ (by omega) (by omega)) (cT (by omega) (cT (by simp [most]; omega) ?_))
      (repeat first | refine cT rfl ?_ | refine cT True.intro ?_)
      dsimp only
      rw [wi64_in (by omega) (by omega), e]
      refine cT (by simp) ?_
      rw [wi64_succ (by omega)]
      exact loop_SoftShifts_0 N l by_ n hl cnt (i + 1) hi (by omega)
    · have : i = l.length := by omega
      subst this
      refine cF (by omega) ?_
      (repeat first | refine cT rfl ?_ | refine cT True.intro ?_)
      rfl

theorem loop_SoftShifts_1 (N : Nat) (l : List Int) (by_ n : Int) (a : List Int × (Bool × (List Int × Unit))) (sh : List Int) (w : Bool) (A : List Int) (hA : A.length ≤ 1000) (hn : -1000 ≤ n ∧ n ≤ 1000) (fA : ∀ p, -1000 ≤ A.getD p 0 ∧ A.getD p 0 ≤ 1000) : ∀ (cnt i : Nat), i ≤ A.length → A.length < cnt + i →
    g_lodgelaw11_SoftShifts_1 N cnt l by_ n a (boxT sh w ((List.range A.length).map fun p => if p < i then A.getD p 0 + n else A.getD p 0)) i = some (l, (by_, (a, (boxT sh w ((List.range A.length).map fun p => A.getD p 0 + n), ()))))
  | 0, i, h, h' => by omega
  | cnt + 1, i, h, h' => by
    rw [g_lodgelaw11_SoftShifts_1]
    by_cases hi : i < A.length
    · have eg : ((List.range A.length).map fun p => if p < i then A.getD p 0 + n else A.getD p 0).getD i 0 = A.getD i 0 := by
        rw [getD_lt (by simpa using hi), List.getElem_map, List.getElem_range, if_neg (by omega)]
      have fa := fA i
      have hl : ((List.range A.length).map fun p => if p < i then A.getD p 0 + n else A.getD p 0).length = A.length := by simp
      simp only [Int.toNat_natCast, Nat.zero_add, eg, hl]
      rw [wi64_in (n := A.getD i 0 + n) (by omega) (by omega)]
      refine cT (by omega) (cT (Int.natCast_nonneg _) (cT hi (cT hi (cT (Int.natCast_nonneg _) (cT hi (cT hi ?_))))))
      (repeat first | refine cT rfl ?_ | refine cT True.intro ?_)
      refine cT (by simp) ?_
      rw [wi64_succ (by omega), set_upto A.length i (fun p => A.getD p 0 + n) (fun p => A.getD p 0) hi]
      exact loop_SoftShifts_1 N l by_ n a sh w A hA hn fA cnt (i + 1) hi (by omega)
    · have : i = A.length := by omega
      subst this
      refine cF (by simp) ?_
      (repeat first | refine cT rfl ?_ | refine cT True.intro ?_)
      rw [map_upto_all]

theorem rowC_in {A T : List Int} (hT : TableOK T) {n : Nat} (hn : 1 ≤ n ∧ n ≤ 60) (i : Nat) : 0 ≤ rowC A T n i + 128 ∧ rowC A T n i + 128 ≤ 1000000000 := by
  have hs := rowS_in (A := A) hT hn.1
  have hw := rowW_in (A := A) hT n i
  unfold rowC
  rw [if_neg (by omega)]
  have d1 : 0 ≤ rowS A T n / 2 := Int.ediv_nonneg (by omega) (by omega)
  have q1 : 0 ≤ (255 * rowW A T n i + rowS A T n / 2) / rowS A T n := Int.ediv_nonneg (by omega) (by omega)
  have q2 : (255 * rowW A T n i + rowS A T n / 2) / rowS A T n ≤ 255 * rowW A T n i + rowS A T n / 2 := Int.ediv_le_self _ (by omega)
  omega

theorem loop_SoftShifts_2 (N : Nat) (l : List Int) {A X T : List Int} {d sh sh2 : List Int} {w1 w2 w3 : Bool} {n : Nat} (hn : 1 ≤ n ∧ n ≤ 60) (hl : l.length = n) (hA : A.length = n) (hX : X.length = n) (hT : TableOK T) (hX2 : ∀ i, i < n → X.getD i 0 = rowC A T n i) : ∀ (cnt i : Nat), i ≤ n → n < cnt + i →
    g_lodgelaw11_SoftShifts_2 N cnt l (((d, w1), A), ()) (boxT sh w2 X) (boxT sh2 w3 [((am (fun j => A.getD j 0) n : Nat) : Int)]) (sumN (fun i => rowC A T n i + 128) i) i = some (.inl (l, (sumN (fun i => rowC A T n i + 128) n, ())))
  | 0, i, h1, h2 => by omega
  | cnt + 1, i, h1, h2 => by
    rw [g_lodgelaw11_SoftShifts_2]
    by_cases hi : i < n
    · have hk := am_lt (fun j => A.getD j 0) n hn.1
      obtain ⟨a1, a2⟩ := am_spec (f := fun j => A.getD j 0) (k := n) hn.1
      have b1 := a1 i hi
      have b2 := a2 i
      have htop := rowC_top (A := A) hT hn.1 i
      have ih := loop_SoftShifts_2 N l (d := d) (sh := sh) (sh2 := sh2) (w1 := w1) (w2 := w2) (w3 := w3) hn hl hA hX hT hX2 cnt (i + 1) hi (by omega)
      generalize am (fun j => A.getD j 0) n = k at *
      (try dsimp only at b1 b2)
      have hs := sumN_bound (fun i => rowC A T n i + 128) 1000000000 (fun i => by have := rowC_in (A := A) hT hn i; omega) i
      have hr := rowC_in (A := A) hT hn i
      have e3 : wi64 (wi64 (sumN (fun i => rowC A T n i + 128) i + rowC A T n i) + 128) = sumN (fun i => rowC A T n i + 128) (i + 1) := by
        rw [wi64_in (n := sumN (fun i => rowC A T n i + 128) i + rowC A T n i) (by omega) (by omega), wi64_in (by omega) (by omega), sumN]
        omega
      have z0 : ([(k : Int)] : List Int).getD (0 + 0) 0 = (k : Int) := rfl
      simp only [z0, Int.toNat_natCast, Nat.zero_add, hX2 i hi, hX2 k hk, e3]
      rw [wi64_succ (by omega)]
      refine cT (by omega) (cT (Int.natCast_nonneg _) (cT (by omega) (cT (by omega) (cT (by simp) (cT (by simp) (cT (Int.natCast_nonneg _) (cT (by omega) (cT (by omega) (cF (by omega) ?_)))))))))
      refine cT (Int.natCast_nonneg _) (cT (by omega) (cT (by simp) (cT (by simp) (cT (Int.natCast_nonneg _) (cT (by omega) (cF (by omega) ?_))))))
      refine cT (Int.natCast_nonneg _) (cT (by omega) (cT (by simp) (cT (by simp) (cT (Int.natCast_nonneg _) (cT (by omega) ?_)))))
      by_cases he : A.getD i 0 = A.getD k 0
      · refine cT he (cT (by simp) (cT (by simp) (cF ?_ ?_)))
        · intro h
          have := b2 (by omega)
          omega
        · refine cT (Int.natCast_nonneg _) (cT (by omega) (cT (by omega) ?_))
          (repeat first | refine cT rfl ?_ | refine cT True.intro ?_)
          exact ih
      · refine cF he ?_
        refine cT (Int.natCast_nonneg _) (cT (by omega) (cT (by omega) ?_))
        (repeat first | refine cT rfl ?_ | refine cT True.intro ?_)
        exact ih
    · have : i = n := by omega
      subst this
      exact cF (by omega) rfl

theorem SoftShifts_law (h1st : F_lodgelaw11_first 100000 = some (true, ())) (l : List Int) (by_ n0 : Int) : F_lodgelaw11_SoftShifts 100000 l by_ n0 = some (true, ()) := by
  obtain ⟨kb, hkb, ekb⟩ := Number_nat (N := 100000) by_ 98 (by omega) (by omega)
  obtain ⟨tsome, T, tT, lT, fT, gT⟩ := soft_Table_spec hkb
  obtain ⟨N, eN⟩ : ∃ N : Nat, N = 100000 := ⟨_, rfl⟩
  have hN : 20000 ≤ N := by omega
  rw [← eN] at h1st ekb tT ⊢
  unfold byV at tsome tT
  have hT : TableOK T := by
    refine ⟨gT, fun p => ?_⟩
    by_cases hp : p < T.length
    · rw [getD_lt hp]; exact fT _ (List.getElem_mem hp)
    · rw [List.getD_eq_getElem?_getD, List.getElem?_eq_none (by omega)]; simp
  unfold F_lodgelaw11_SoftShifts
  refine bnd _ h1st (bF rfl ?_)
  refine bnd (l, (by_, (n0, (true, (decide ((60 : Int) < (l.length : Int) ∨ (l.length : Int) = 0), ()))))) ?_ ?_
  · by_cases h : (60 : Int) < (l.length : Int)
    · refine cT h ?_
      rw [decide_eq_true (p := _ ∨ _) (.inl h)]
    refine cF h ?_
    by_cases h' : (l.length : Int) = 0
    · refine cT h' ?_
      rw [decide_eq_true (p := _ ∨ _) (.inr h')]
    refine cF h' ?_
    rw [decide_eq_false (p := _ ∨ _) (by omega)]
    rfl
  by_cases hB : (60 : Int) < (l.length : Int) ∨ (l.length : Int) = 0
  · exact bT (decide_eq_true hB) rfl
  refine bF (decide_eq_false hB) ?_
  dsimp only
  have n1 : 1 ≤ l.length ∧ l.length ≤ 60 := by omega
  have h0 := loop_SoftShifts_0 N l by_ n0 (by omega) N 0 (by omega) (by omega)
  rw [show ((0 : Nat) : Int) = 0 from rfl, List.range_zero, List.map_nil] at h0
  refine bnd _ h0 ?_
  obtain ⟨A, eA⟩ : ∃ A : List Int, (List.range l.length).map (fun p => l.getD p 0 % 100 - 50) = A := ⟨_, rfl⟩
  have hA : A.length = l.length := by rw [← eA]; simp
  have fA0 : ∀ x, x ∈ A → -50 ≤ x ∧ x ≤ 49 := by
    intro x hx
    rw [← eA] at hx
    obtain ⟨p, _, rfl⟩ := List.mem_map.1 hx
    omega
  have fA : ∀ x, x ∈ A → -128 ≤ x ∧ x ≤ 127 := fun x hx => by have := fA0 x hx; omega
  have gA : ∀ p, -1000 ≤ A.getD p 0 ∧ A.getD p 0 ≤ 1000 := by
    intro p
    by_cases hp : p < A.length
    · rw [getD_lt hp]; have := fA0 _ (List.getElem_mem hp); omega
    · rw [List.getD_eq_getElem?_getD, List.getElem?_eq_none (by omega)]; simp
  rw [eA]
  refine cT (by simp) (cT (by simp) ?_)
  dsimp only
  (try simp only [List.take_length])
  refine bnd (boxT [(l.length : Int)] false A, ()) ?_ ?_
  · unfold F_lodgeref_Tensor
    refine bnd _ (lodgeref_Desc_spec ([(l.length : Int)], false) (by simp) (by simp; omega)) (bnd _ (lodgeref_Ints_spec A (by omega) (by omega)) ?_)
    (repeat first | refine cT rfl ?_ | refine cT True.intro ?_)
    rfl
  refine bnd _ (lodgeworld_Number_spec N n0 120 (by omega) (by omega)) ?_
  (repeat first | refine cT rfl ?_ | refine cT True.intro ?_)
  dsimp only
  rw [wi64_in (n := n0 % 120 - 60) (by omega) (by omega)]
  obtain ⟨c, ec⟩ : ∃ c : Int, n0 % 120 - 60 = c := ⟨_, rfl⟩
  have hc : -60 ≤ c ∧ c ≤ 59 := by omega
  rw [ec]
  have h1 := loop_SoftShifts_1 N l by_ c (boxT [(l.length : Int)] false A) [(l.length : Int)] false A (by omega) (by omega) gA N 0 (by omega) (by omega)
  rw [show ((0 : Nat) : Int) = 0 from rfl, map_upto_zero, show (List.range A.length).map (fun p => A.getD p 0) = A from by
    apply List.ext_getElem (by simp)
    intro i q1 q2
    rw [List.getElem_map, List.getElem_range, getD_lt q2]] at h1
  refine bnd _ h1 ?_
  obtain ⟨B, eB⟩ : ∃ B : List Int, (List.range A.length).map (fun p => A.getD p 0 + c) = B := ⟨_, rfl⟩
  have hBl : B.length = l.length := by rw [← eB, List.length_map, List.length_range, hA]
  have hBg : ∀ j, j < l.length → B.getD j 0 = A.getD j 0 + c := by
    intro j hj
    rw [getD_lt (by omega)]
    simp only [← eB, List.getElem_map, List.getElem_range]
  have fB : ∀ x, x ∈ B → -128 ≤ x ∧ x ≤ 127 := by
    intro x hx
    rw [← eB] at hx
    obtain ⟨p, hp, rfl⟩ := List.mem_map.1 hx
    have hp' : p < A.length := by simpa using hp
    rw [getD_lt hp']
    have := fA0 _ (List.getElem_mem hp')
    omega
  rw [eB]
  refine bnd _ ekb ?_
  dsimp only
  refine bT tsome (bnd _ tT ?_)
  (repeat first | refine cT (Nat.le_of_eq (Nat.zero_add _)) ?_ | refine cT rfl ?_ | refine cT True.intro ?_)
  dsimp only
  (try simp only [List.take_length])
  have fT' : ∀ x, x ∈ T → -2147483648 ≤ x ∧ x ≤ 2147483647 := fun x hx => by have := fT x hx; omega
  refine bnd _ (soft_Softmax_spec hN (([(l.length : Int)], false), A) (([256], true), T)) ?_
  rw [softApp_row (by omega) hA fA lT fT']
  (repeat first | refine cT (Nat.le_of_eq (Nat.zero_add _)) ?_ | refine cT rfl ?_ | refine cT True.intro ?_)
  dsimp only
  (try simp only [List.take_length])
  refine bnd _ (soft_Softmax_spec hN (([(l.length : Int)], false), B) (([256], true), T)) ?_
  rw [softApp_row (by omega) hBl fB lT fT']
  have eXY : (List.range l.length).map (fun i => rowC B T l.length i) = (List.range l.length).map (fun i => rowC A T l.length i) := List.map_congr_left (fun i hi => rowC_shift n1.1 hBg (by simpa using hi))
  rw [eXY]
  obtain ⟨X, eX⟩ : ∃ X, (List.range l.length).map (fun i => rowC A T l.length i) = X := ⟨_, rfl⟩
  have hX : X.length = l.length := by rw [← eX, List.length_map, List.length_range]
  have hX2 : ∀ i, i < l.length → X.getD i 0 = rowC A T l.length i := by
    intro i hi
    rw [getD_lt (by omega)]
    simp only [← eX, List.getElem_map, List.getElem_range]
  rw [eX]
  (repeat first | refine cT (Nat.le_of_eq (Nat.zero_add _)) ?_ | refine cT rfl ?_ | refine cT True.intro ?_)
  dsimp only
  (try simp only [List.take_length])
  have s1 : shapeV [(l.length : Int)] = .nil := by
    rw [shapeV_nil]
    refine ⟨by simp, ?_, ?_⟩
    · simp [badDim]; omega
    · simp [overs]; omega
  have e1 : elems [(l.length : Int)] = (l.length : Int) := by
    unfold elems
    rw [ifT (nilT s1)]
    simp
  have v1 : tensV (([(l.length : Int)], false), A) = .nil := (tensV_iff _).2 ⟨s1, by dsimp only; rw [e1, hA], fun x hx => fitsB_narrow.2 (fA x hx)⟩
  have hv : firstBadT [(([(l.length : Int)], false), A)] = .nil := by
    unfold firstBadT firstBadT
    rw [ifT (nilT v1)]
  have hf : firstBad [([(l.length : Int)], false)] = .nil := by
    unfold firstBad firstBad
    rw [ifT (nilT s1)]
  have r19 : softRes 19 [([(l.length : Int)], false)] = (([], true), .nil) := by
    unfold softRes
    rw [if_neg (fun h => h (.inr (.inr (.inl rfl)))), if_neg (by simp [softK]), ifNT (nilT hf), if_neg (by decide), if_neg (by decide), if_neg (by simp)]
    rfl
  have hrow : rowF A l.length 0 = fun j => A.getD j 0 := by
    funext j
    unfold rowF
    rw [Nat.zero_mul, Nat.zero_add]
  have a19 : softApp 19 [(([(l.length : Int)], false), A)] = ((([], true), [((am (fun j => A.getD j 0) l.length : Nat) : Int)]), .nil) := by
    unfold softApp
    rw [if_neg (fun h => h hv), show [(([(l.length : Int)], false), A)].map Prod.fst = [([(l.length : Int)], false)] from rfl, r19, if_neg (by simp)]
    dsimp only
    rw [show (elems []).toNat = 1 from by decide]
    congr 2
    change [elAll 19 [] [(([(l.length : Int)], false), A)] ([], true) 0] = _
    have : elAll 19 [] [(([(l.length : Int)], false), A)] ([], true) 0 = ((am (rowF A l.length 0) l.length : Nat) : Int) := rfl
    rw [this, hrow]
  refine bnd _ (soft_ArgMax_spec hN (([(l.length : Int)], false), A)) ?_
  rw [a19]
  refine bnd (l, ((((([(l.length : Int)], false), A), ()), (boxT [(l.length : Int)] false X, (boxT [] true [((am (fun j => A.getD j 0) l.length : Nat) : Int)], (false, ())))))) ?_ ?_
  · refine bF rfl (bF rfl (bF rfl (bF rfl ?_)))
    (repeat first | refine cT (Nat.le_of_eq (Nat.zero_add _)) ?_ | refine cT rfl ?_ | refine cT True.intro ?_)
    dsimp only
    (try simp only [List.take_length])
    refine bnd _ (lodgeref_SameTensor_self (N := N) (a := (([(l.length : Int)], false), X)) (b := (([(l.length : Int)], false), X)) rfl (by simp) (by simp; omega) (by dsimp only; omega) (by dsimp only; omega)) ?_
    (repeat first | refine cT (Nat.le_of_eq (Nat.zero_add _)) ?_ | refine cT rfl ?_ | refine cT True.intro ?_)
    rfl
  refine bF rfl ?_
  (repeat first | refine cT rfl ?_ | refine cT True.intro ?_)
  have h2 := loop_SoftShifts_2 N l (A := A) (X := X) (T := T) (d := [(l.length : Int)]) (sh := [(l.length : Int)]) (sh2 := []) (w1 := false) (w2 := false) (w3 := true) (n := l.length) n1 rfl hA hX hT hX2 N 0 (by omega) (by omega)
  rw [show ((0 : Nat) : Int) = 0 from rfl, sumN] at h2
  refine bnd _ h2 ?_
  dsimp only [Sum.elim_inl]
  have hsum := rowC_sum (A := A) hT (n := l.length) n1.1
  rw [wi64_in (n := 255 - (l.length : Int)) (by omega) (by omega), wi64_in (n := 255 + (l.length : Int)) (by omega) (by omega)]
  refine cT hsum.1 ?_
  rw [decide_eq_true hsum.2]

theorem SoftShifts_row {N : Nat} (hN : N = 100000) (x : Val (rowTy ps_lodgelaw11_SoftShifts)) (_ : FitsL ps_lodgelaw11_SoftShifts x) : (c_lodgelaw11_SoftShifts N).g x = some (true, ()) := by
  have h1 := soft_first hN
  have := SoftShifts_law (by rw [← hN]; exact h1) x.1 x.2.1 x.2.2.1
  rw [← hN] at this
  exact this

end Go.Proofs.YtohkmbpdjigjdaaDoor.Lg
