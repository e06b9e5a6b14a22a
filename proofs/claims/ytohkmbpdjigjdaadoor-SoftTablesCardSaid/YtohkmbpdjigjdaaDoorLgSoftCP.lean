/-
  What the program's functions come to, in plain words.
-/
import Derived.Test.YtohkmbpdjigjdaaDoorLgSoftCF
import Derived.Test.YtohkmbpdjigjdaaDoorLgLaw
namespace Go.Proofs.YtohkmbpdjigjdaaDoor.Lg
open Go Go.Eng Go.Proofs

abbrev D := List Int × Bool

abbrev T := D × List Int

def badDim (k : Int) : Bool := decide (k < 1) || decide (256 < k)

def overs : Int → List Int → Bool
  | _, [] => false
  | n, k :: r => decide (16384 < n * k) || overs (n * k) r

/-- what is amiss with what a tensor looks like -/
def shapeV (sh : List Int) : Er :=
  if 4 < sh.length then .s ErrMany else if sh.any badDim then .s ErrRange else if overs 1 sh then .s ErrMany else .nil

theorem loop_Valid_0 (N : Nat) (d : D × Unit) (m : Int) (l : List Int) (hl : l.length < 1000) : ∀ (n i : Nat), i ≤ l.length → l.length < n + i →
    g_shape_Valid_0 N n d m l l.length i = if (l.drop i).any badDim then some (.inr (.s ErrRange, ())) else some (.inl (d, (m, ())))
  | 0, i, h, h' => by omega
  | n + 1, i, h, h' => by
    rw [g_shape_Valid_0]
    simp only [cond_dec, Int.ofNat_lt, Int.toNat_natCast, Int.natCast_nonneg, if_true]
    by_cases hi : i < l.length
    · rw [if_pos hi, if_pos hi, wi64_succ (by omega), drop_cons hi 0, List.any_cons]
      rw [loop_Valid_0 N d m l hl n (i + 1) hi (by omega)]
      by_cases h1 : l.getD i 0 < 1
      · simp only [badDim, h1, decide_true, Bool.true_or, if_true]
      · by_cases h2 : 256 < l.getD i 0
        · simp only [badDim, h1, h2, decide_true, decide_false, Bool.or_true, Bool.true_or, if_true, if_false]
        · simp only [badDim, h1, h2, decide_false, Bool.or_self, Bool.false_or, if_false]
    · rw [if_neg hi, List.drop_eq_nil_of_le (by omega)]
      rfl

theorem loop_Valid_1 (N : Nat) (l : List Int) (hl : l.length < 1000) (hb : l.any badDim = false) : ∀ (n i : Nat) (m : Int), 1 ≤ m → m ≤ 16384 → i ≤ l.length → l.length < n + i →
    g_shape_Valid_1 N n m l l.length i = if overs m (l.drop i) then some (.inr (.s ErrMany, ())) else some (.inl ())
  | 0, i, m, _, _, h, h' => by omega
  | n + 1, i, m, hm, hm', h, h' => by
    rw [g_shape_Valid_1]
    simp only [cond_dec, Int.ofNat_lt, Int.toNat_natCast, Int.natCast_nonneg, if_true]
    by_cases hi : i < l.length
    · have hk : badDim (l.getD i 0) = false := by
        rw [getD_lt hi]
        rw [List.any_eq_false] at hb
        simpa using hb _ (List.getElem_mem hi)
      obtain ⟨k, hk0⟩ : ∃ k, k = l.getD i 0 := ⟨_, rfl⟩
      rw [← hk0] at hk
      simp only [badDim, Bool.or_eq_false_iff, decide_eq_false_iff_not] at hk
      have h1 : 1 ≤ m * k := by
        have := Int.mul_le_mul hm (show 1 ≤ k by omega) (by omega) (by omega)
        omega
      have h2 : m * k ≤ 16384 * 256 := Int.mul_le_mul hm' (by omega) (by omega) (by omega)
      rw [if_pos hi, if_pos hi, wi64_succ (by omega), drop_cons hi 0, overs, ← hk0, wi64_in (n := m * k) (by omega) (by omega)]
      by_cases h3 : 16384 < m * k
      · simp [h3]
      · rw [if_neg h3, loop_Valid_1 N l hl hb n (i + 1) (m * k) h1 (by omega) hi (by omega)]
        simp [h3]
    · rw [if_neg hi, List.drop_eq_nil_of_le (by omega)]
      rfl

theorem shape_Valid_spec {N : Nat} (hN : 20000 ≤ N) (d : D) : F_shape_Valid N d = some (shapeV d.1, ()) := by
  unfold F_shape_Valid shapeV
  simp only [cond_dec]
  by_cases h4 : 4 < d.1.length
  · rw [if_pos (by omega), if_pos h4]
  · rw [if_neg (by omega), if_neg h4]
    have h0 := loop_Valid_0 N (d, ()) 1 d.1 (by omega) N 0 (by omega) (by omega)
    rw [show ((0 : Nat) : Int) = 0 from rfl] at h0
    rw [h0, List.drop_zero]
    cases hb : d.1.any badDim with
    | true => rfl
    | false =>
      have h1 := loop_Valid_1 N d.1 (by omega) hb N 0 1 (by omega) (by omega) (by omega) (by omega)
      rw [show ((0 : Nat) : Int) = 0 from rfl, List.drop_zero] at h1
      simp only [Bool.false_eq_true, if_false, Option.bind_some, Sum.elim_inl]
      rw [h1]
      cases overs 1 d.1 <;> rfl

theorem shapeV_nil {sh : List Int} : shapeV sh = .nil ↔ sh.length ≤ 4 ∧ sh.any badDim = false ∧ overs 1 sh = false := by
  unfold shapeV
  by_cases h4 : 4 < sh.length
  · rw [if_pos h4]
    constructor
    · intro h; cases h
    · intro h; omega
  · rw [if_neg h4]
    cases hb : sh.any badDim <;> cases ho : overs 1 sh <;> simp <;> omega

/-- how many elements there are -/
def elems (sh : List Int) : Int := if (shapeV sh).isNil then sh.foldl (· * ·) 1 else 0

theorem shape_fair_spec {N : Nat} (hN : 20000 ≤ N) (sh : List Int) : F_shape_fair N sh = some ((shapeV sh).isNil, ()) := by
  unfold F_shape_fair
  rw [shape_Valid_spec hN]
  rfl

theorem loop_Elems (N : Nat) (l : List Int) (hl : l.length < 1000) (hb : l.any badDim = false) : ∀ (n i : Nat) (m : Int), 1 ≤ m → m ≤ 16384 → overs m (l.drop i) = false → i ≤ l.length → l.length < n + i →
    g_shape_Elems_0 N n m l l.length i = some ((l.drop i).foldl (· * ·) m, ())
  | 0, i, m, _, _, _, h, h' => by omega
  | n + 1, i, m, hm, hm', ho, h, h' => by
    rw [g_shape_Elems_0]
    simp only [cond_dec, Int.ofNat_lt, Int.toNat_natCast, Int.natCast_nonneg, if_true]
    by_cases hi : i < l.length
    · have hk : badDim (l.getD i 0) = false := by
        rw [getD_lt hi]
        rw [List.any_eq_false] at hb
        simpa using hb _ (List.getElem_mem hi)
      rw [drop_cons hi 0] at ho
      obtain ⟨k, hk0⟩ : ∃ k, k = l.getD i 0 := ⟨_, rfl⟩
      rw [← hk0] at hk ho
      simp only [badDim, Bool.or_eq_false_iff, decide_eq_false_iff_not] at hk
      simp only [overs, Bool.or_eq_false_iff, decide_eq_false_iff_not] at ho
      have h1 : 1 ≤ m * k := by
        have := Int.mul_le_mul hm (show 1 ≤ k by omega) (by omega) (by omega)
        omega
      rw [if_pos hi, if_pos hi, wi64_succ (by omega), drop_cons hi 0, ← hk0, wi64_in (n := m * k) (by omega) (by omega)]
      rw [loop_Elems N l hl hb n (i + 1) (m * k) h1 (by omega) ho.2 hi (by omega)]
      rfl
    · rw [if_neg hi, List.drop_eq_nil_of_le (by omega)]
      rfl

theorem shape_Elems_spec {N : Nat} (hN : 20000 ≤ N) (sh : List Int) : F_shape_Elems N sh = some (elems sh, ()) := by
  unfold F_shape_Elems elems
  rw [shape_fair_spec hN]
  simp only [Option.bind_some]
  cases h : (shapeV sh).isNil with
  | false => rfl
  | true =>
    obtain ⟨h1, h2, h3⟩ := shapeV_nil.1 ((isNil_iff _).1 h)
    have := loop_Elems N sh (by omega) h2 N 0 1 (by omega) (by omega) h3 (by omega) (by omega)
    rw [show ((0 : Nat) : Int) = 0 from rfl, List.drop_zero] at this
    simp only [Bool.not_true, cond_false, if_true]
    rw [this]
    rfl

theorem overs_bound : ∀ (l : List Int) (m : Int), 1 ≤ m → m ≤ 16384 → l.any badDim = false → overs m l = false → 1 ≤ l.foldl (· * ·) m ∧ l.foldl (· * ·) m ≤ 16384
  | [], m, h, h', _, _ => ⟨h, h'⟩
  | k :: r, m, h, h', hb, ho => by
    simp only [List.any_cons, Bool.or_eq_false_iff] at hb
    simp only [badDim, Bool.or_eq_false_iff, decide_eq_false_iff_not] at hb
    simp only [overs, Bool.or_eq_false_iff, decide_eq_false_iff_not] at ho
    have h1 : 1 ≤ m * k := by
      have := Int.mul_le_mul h (show 1 ≤ k by omega) (by omega) (by omega)
      omega
    exact overs_bound r (m * k) h1 (by omega) hb.2 ho.2

theorem elems_bound (sh : List Int) : 0 ≤ elems sh ∧ elems sh ≤ 16384 := by
  unfold elems
  split
  · rename_i h
    obtain ⟨h1, h2, h3⟩ := shapeV_nil.1 ((isNil_iff _).1 h)
    have := overs_bound sh 1 (by omega) (by omega) h2 h3
    omega
  · omega

/-- is a number one of a kind? -/
def fitsB (wide : Bool) (n : Int) : Bool := if wide then decide (-2147483648 ≤ n) && decide (n ≤ 2147483647) else decide (-128 ≤ n) && decide (n ≤ 127)

theorem tens_fits_spec (N : Nat) (n : Int) (w : Bool) : F_tens_fits N n w = some (fitsB w n, ()) := by
  unfold F_tens_fits fitsB
  cases w
  · simp only [cond_false]
    by_cases h : (-128 : Int) ≤ n <;> simp [h]
  · simp only [cond_true]
    by_cases h : (-2147483648 : Int) ≤ n <;> simp [h]

/-- what is amiss with a tensor -/
def tensV (t : T) : Er :=
  if (shapeV t.1.1).isNil then
    if (t.2.length : Int) = elems t.1.1 then
      match t.2.findIdx? (fun n => !fitsB t.1.2 n) with
      | some i => .at i ErrRange
      | none => .nil
    else .s ErrShape
  else shapeV t.1.1

theorem loop_tens_Valid (N : Nat) (t : T) (l : List Int) (hl : l.length < 1000000) : ∀ (n i : Nat), i ≤ l.length → l.length < n + i →
    g_tens_Valid_0 N n (t, ()) l l.length i = match (l.drop i).findIdx? (fun n => !fitsB t.1.2 n) with
      | some j => some (.inr (.at ((i + j : Nat) : Int) ErrRange, ()))
      | none => some (.inl ())
  | 0, i, h, h' => by omega
  | n + 1, i, h, h' => by
    rw [g_tens_Valid_0]
    simp only [cond_dec, Int.ofNat_lt, Int.toNat_natCast, Int.natCast_nonneg, if_true, tens_fits_spec, Option.bind_some]
    by_cases hi : i < l.length
    · rw [if_pos hi, if_pos hi, drop_cons hi 0, List.findIdx?_cons, wi64_succ (by omega)]
      cases hf : fitsB t.1.2 (l.getD i 0) with
      | false => simp
      | true =>
        simp only [Bool.not_true, cond_false, Bool.false_eq_true, if_false]
        rw [loop_tens_Valid N t l hl n (i + 1) hi (by omega)]
        cases (l.drop (i + 1)).findIdx? (fun n => !fitsB t.1.2 n) with
        | none => rfl
        | some j => simp only [Option.map_some]; rw [show i + 1 + j = i + (j + 1) from by omega]
    · rw [if_neg hi, List.drop_eq_nil_of_le (by omega)]
      rfl

theorem tens_Valid_spec {N : Nat} (hN : 20000 ≤ N) (t : T) : F_tens_Valid N t = some (tensV t, ()) := by
  unfold F_tens_Valid tensV
  rw [shape_Valid_spec hN, shape_Elems_spec hN]
  simp only [Option.bind_some]
  cases h : (shapeV t.1.1).isNil with
  | false => simp
  | true =>
    have hb := elems_bound t.1.1
    simp only [Bool.not_true, cond_false, cond_dec, if_true]
    by_cases he : (t.2.length : Int) = elems t.1.1
    · rw [if_neg (by simpa using he), if_pos he]
      have := loop_tens_Valid N t t.2 (by omega) N 0 (by omega) (by omega)
      rw [show ((0 : Nat) : Int) = 0 from rfl, List.drop_zero] at this
      rw [this]
      cases t.2.findIdx? (fun n => !fitsB t.1.2 n) with
      | none => rfl
      | some j => simp
    · rw [if_pos (by simpa using he), if_neg he]

def narrowB (n : Int) : Bool := decide (-128 ≤ n) && decide (n ≤ 127)

def noD : D := ([], false)

def noT : T := (noD, [])

theorem tens_Wide_spec (N : Nat) (n : Int) : F_tens_Wide N n = some (round32 n, ()) := by
  unfold F_tens_Wide
  rw [wide_chain]

abbrev boxT (l : List Int) (w : Bool) (d : List Int) : List Int × (Bool × (List Int × Unit)) := (l, (w, (d, ())))

theorem loop_Ints (N : Nat) (l : List Int) (hl : l.length < 1000000) : ∀ (n i : Nat), i ≤ l.length → l.length < n + i →
    g_lodgeref_Ints_0 N n l (l.take i) i = some (l, ())
  | 0, i, h, h' => by omega
  | n + 1, i, h, h' => by
    rw [g_lodgeref_Ints_0]
    simp only [cond_dec, Int.ofNat_lt, Int.toNat_natCast, Int.natCast_nonneg, if_true, Nat.zero_add, List.length_append, List.length_cons, List.length_nil, List.length_take, Nat.min_eq_left h, Nat.min_self]
    by_cases hi : i < l.length
    · rw [if_pos hi, if_pos hi, if_pos (by unfold most; omega), wi64_succ (by omega), List.take_of_length_le (by simp; omega)]
      have : List.take i l ++ [l.getD i 0] = List.take (i + 1) l := by rw [getD_lt hi]; simp
      rw [this]
      exact loop_Ints N l hl n (i + 1) hi (by omega)
    · rw [if_neg hi, List.take_of_length_le (by omega)]

theorem lodgeref_Ints_spec {N : Nat} (l : List Int) (hl : l.length < 1000000) (hN : l.length < N) : F_lodgeref_Ints N l = some (l, ()) := by
  unfold F_lodgeref_Ints
  have h0 := loop_Ints N l hl N 0 (by omega) (by omega)
  rw [show ((0 : Nat) : Int) = 0 from rfl, List.take_zero] at h0
  simp only [cond_dec, List.replicate_zero]
  rw [if_pos (by unfold most; omega), h0]
  simp

theorem loop_SameInts (N : Nat) (a b : List Int) (ha : a.length = b.length) (hl : a.length < 1000000) : ∀ (n i : Nat), i ≤ a.length → a.length < n + i → a.take i = b.take i →
    g_lodgeref_SameInts_0 N n a b i = if a = b then some (.inl ()) else some (.inr (false, ()))
  | 0, i, h, h', _ => by omega
  | n + 1, i, h, h', ht => by
    rw [g_lodgeref_SameInts_0]
    simp only [cond_dec, Int.ofNat_lt, Int.toNat_natCast, Int.natCast_nonneg, if_true]
    by_cases hi : i < a.length
    · rw [if_pos hi, if_pos hi, if_pos (by omega), wi64_succ (by omega)]
      by_cases he : a.getD i 0 = b.getD i 0
      · simp only [he, decide_true, Bool.not_true, cond_false]
        refine loop_SameInts N a b ha hl n (i + 1) hi (by omega) ?_
        rw [List.take_succ_eq_append_getElem hi, List.take_succ_eq_append_getElem (by omega), ht]
        rw [getD_lt hi, getD_lt (by omega)] at he
        rw [he]
      · have : a ≠ b := fun e => he (by rw [e])
        rw [if_neg this]
        simp only [he, decide_false, Bool.not_false, cond_true]
    · rw [if_neg hi]
      have : a = b := by
        rw [List.take_of_length_le (by omega), List.take_of_length_le (by omega)] at ht
        exact ht
      rw [if_pos this]

theorem lodgeref_SameInts_spec {N : Nat} (a b : List Int) (hl : a.length < 1000000) (hN : a.length < N) : F_lodgeref_SameInts N a b = some (decide (a = b), ()) := by
  unfold F_lodgeref_SameInts
  simp only [cond_dec]
  by_cases h : a.length = b.length
  · rw [if_neg (by omega)]
    have := loop_SameInts N a b h hl N 0 (by omega) (by omega) (by simp)
    rw [show ((0 : Nat) : Int) = 0 from rfl] at this
    rw [this]
    by_cases e : a = b <;> simp [e]
  · rw [if_pos (by omega)]
    have : a ≠ b := fun e => h (by rw [e])
    simp [this]

theorem getD_in {d : List Int} (hf : ∀ x, x ∈ d → -128 ≤ x ∧ x ≤ 127) (p : Nat) : -128 ≤ d.getD p 0 ∧ d.getD p 0 ≤ 127 := by
  rcases Nat.lt_or_ge p d.length with h | h
  · rw [getD_lt h]; exact hf _ (List.getElem_mem h)
  · rw [List.getD_eq_getElem?_getD, List.getElem?_eq_none h]; simp

theorem mod_nat (n : Int) (b : Nat) (hb : 0 < b) : ∃ M : Nat, M < b ∧ n % (b : Int) = (M : Int) := by
  have h1 := Int.emod_nonneg n (show (b : Int) ≠ 0 by omega)
  have h2 := Int.emod_lt_of_pos n (show (0 : Int) < b by omega)
  exact ⟨(n % (b : Int)).toNat, by omega, by omega⟩

theorem take_app_one (l : List Int) (x : Int) : List.take (l.length + 1) (List.take l.length l ++ [x]) = l ++ [x] := by
  rw [List.take_length]
  exact List.take_of_length_le (by simp)

theorem loop_Equal (N : Nat) (a b : List Int) (ha : a.length = b.length) (hl : a.length < 1000000) : ∀ (n i : Nat), i ≤ a.length → a.length < n + i → a.take i = b.take i →
    g_slices_Equal_int_int_0 N n a b a.length i = if a = b then some (.inl ()) else some (.inr (false, ()))
  | 0, i, h, h', _ => by omega
  | n + 1, i, h, h', ht => by
    rw [g_slices_Equal_int_int_0]
    simp only [cond_dec, Int.ofNat_lt, Int.toNat_natCast, Int.natCast_nonneg, if_true]
    by_cases hi : i < a.length
    · rw [if_pos hi, if_pos hi, if_pos (by omega), wi64_succ (by omega)]
      by_cases he : a.getD i 0 = b.getD i 0
      · rw [if_neg (fun h => h he)]
        refine loop_Equal N a b ha hl n (i + 1) hi (by omega) ?_
        rw [List.take_succ_eq_append_getElem hi, List.take_succ_eq_append_getElem (by omega), ht]
        rw [getD_lt hi, getD_lt (by omega)] at he
        rw [he]
      · have : a ≠ b := fun e => he (by rw [e])
        rw [if_neg this, if_pos he]
    · rw [if_neg hi]
      have : a = b := by
        rw [List.take_of_length_le (by omega), List.take_of_length_le (by omega)] at ht
        exact ht
      rw [if_pos this]

theorem slices_Equal_spec {N : Nat} (a b : List Int) (hl : a.length < 1000000) (hN : a.length < N) : F_slices_Equal_int_int N a b = some (decide (a = b), ()) := by
  unfold F_slices_Equal_int_int
  simp only [cond_dec]
  by_cases h : a.length = b.length
  · rw [if_neg (by omega)]
    have := loop_Equal N a b h hl N 0 (by omega) (by omega) (by simp)
    rw [show ((0 : Nat) : Int) = 0 from rfl] at this
    rw [this]
    by_cases e : a = b <;> simp [e]
  · rw [if_pos (by omega)]
    have : a ≠ b := fun e => h (by rw [e])
    simp [this]

theorem wi64_tdiv (i m : Nat) (h : i ≤ 1099511627776) : wi64 (Int.tdiv (i : Int) (m : Int)) = ((i / m : Nat) : Int) := by
  rw [show Int.tdiv (i : Int) (m : Int) = ((i / m : Nat) : Int) from (Int.ofNat_tdiv i m).symm]
  have := Nat.div_le_self i m
  generalize i / m = q at *
  exact wi64_in (by omega) (by omega)

theorem sumN_congr {f g : Nat → Int} : ∀ {c : Nat}, (∀ x, x < c → f x = g x) → sumN f c = sumN g c
  | 0, _ => rfl
  | c + 1, h => by simp only [sumN]; rw [sumN_congr (fun x hx => h x (by omega)), h c (by omega)]

theorem round32_in {n : Int} (h : -2147483648 ≤ n ∧ n ≤ 2147483647) : round32 n = n := by
  unfold round32
  omega

theorem round32_range (n : Int) : -2147483648 ≤ round32 n ∧ round32 n ≤ 2147483647 := by
  unfold round32
  omega

/-! shapes of counts -/

def prodN : List Nat → Nat
  | [] => 1
  | n :: r => n * prodN r

theorem foldl_prodN : ∀ (ns : List Nat) (m : Nat), (ns.map (Nat.cast : Nat → Int)).foldl (· * ·) (m : Int) = ((m * prodN ns : Nat) : Int)
  | [], m => by simp [prodN]
  | n :: r, m => by
    rw [List.map_cons, List.foldl_cons, show (m : Int) * (n : Int) = ((m * n : Nat) : Int) by simp, foldl_prodN r (m * n), prodN, Nat.mul_assoc]

theorem shape_nat {sh : List Int} (h : shapeV sh = .nil) : ∃ ns : List Nat, sh = ns.map Nat.cast ∧ ns.length ≤ 4 ∧ (∀ n, n ∈ ns → 1 ≤ n ∧ n ≤ 256) ∧ 1 ≤ prodN ns ∧ prodN ns ≤ 16384 ∧ elems sh = ((prodN ns : Nat) : Int) := by
  obtain ⟨h1, h2, h3⟩ := shapeV_nil.1 h
  have key : ∀ sh : List Int, sh.any badDim = false → ∃ ns : List Nat, sh = ns.map Nat.cast ∧ ∀ n, n ∈ ns → 1 ≤ n ∧ n ≤ 256 := by
    intro sh
    induction sh with
    | nil => intro _; exact ⟨[], rfl, by simp⟩
    | cons k r ih =>
      intro hb
      simp only [List.any_cons, Bool.or_eq_false_iff] at hb
      obtain ⟨ns, e, hn⟩ := ih hb.2
      have hk := hb.1
      simp only [badDim, Bool.or_eq_false_iff, decide_eq_false_iff_not] at hk
      refine ⟨k.toNat :: ns, ?_, ?_⟩
      · rw [List.map_cons, ← e, show ((k.toNat : Nat) : Int) = k by omega]
      · intro n hn'
        rcases List.mem_cons.1 hn' with rfl | h
        · omega
        · exact hn n h
  obtain ⟨ns, e, hn⟩ := key sh h2
  have hb := overs_bound sh 1 (by omega) (by omega) h2 h3
  have hf : sh.foldl (· * ·) 1 = ((prodN ns : Nat) : Int) := by
    have := foldl_prodN ns 1
    rw [Nat.one_mul] at this
    rw [e]
    exact this
  rw [hf] at hb
  refine ⟨ns, e, by rw [e] at h1; simpa using h1, hn, by omega, by omega, ?_⟩
  unfold elems
  rw [h]
  exact hf

theorem shape_nat_two {sh : List Int} (h : shapeV sh = .nil) (hl : sh.length = 2) : ∃ m n : Nat, sh = [(m : Int), (n : Int)] ∧ (1 ≤ m ∧ m ≤ 256) ∧ (1 ≤ n ∧ n ≤ 256) ∧ m * n ≤ 16384 ∧ elems sh = ((m * n : Nat) : Int) := by
  obtain ⟨ns, e, _, hn, _, h5, h6⟩ := shape_nat h
  rw [e] at hl
  match ns, hl with
  | [m, n], _ =>
    simp only [prodN, Nat.mul_one] at h5 h6
    exact ⟨m, n, e, hn m (by simp), hn n (by simp), h5, h6⟩

theorem tensV_iff (t : T) : tensV t = .nil ↔ shapeV t.1.1 = .nil ∧ (t.2.length : Int) = elems t.1.1 ∧ ∀ x, x ∈ t.2 → fitsB t.1.2 x = true := by
  unfold tensV
  constructor
  · intro h
    split at h
    · rename_i h1
      split at h
      · rename_i h2
        refine ⟨(isNil_iff _).1 h1, h2, ?_⟩
        split at h
        · cases h
        · rename_i h3
          rw [List.findIdx?_eq_none_iff] at h3
          intro x hx
          simpa using h3 x hx
      · cases h
    · rename_i h1
      rw [h] at h1
      exact absurd rfl h1
  · rintro ⟨h1, h2, h3⟩
    have : t.2.findIdx? (fun n => !fitsB t.1.2 n) = none := by
      rw [List.findIdx?_eq_none_iff]
      intro x hx
      simp [h3 x hx]
    rw [h1, if_pos (show Er.nil.isNil = true from rfl), if_pos h2, this]

theorem fitsB_narrow {x : Int} : fitsB false x = true ↔ -128 ≤ x ∧ x ≤ 127 := by simp [fitsB]

theorem fitsB_wide {x : Int} : fitsB true x = true ↔ -2147483648 ≤ x ∧ x ≤ 2147483647 := by simp [fitsB]

theorem narrowB_iff {x : Int} : narrowB x = true ↔ -128 ≤ x ∧ x ≤ 127 := by simp [narrowB]

/-! numbers of 64 bits: what a table needs -/

def notNaN (x : Nat) : Prop := ∀ s t, FloatKind.f64.decode x ≠ .nan s t

theorem word_notNaN (s : Bool) {r : Nat} (h : r ≤ Ieee.double.infRung) : notNaN (Ieee.double.word s r) := by
  have h1 : Ieee.double.infRung < Ieee.double.signWeight := by decide
  have h2 : Ieee.double.word s r % Ieee.double.signWeight = r := by
    unfold Ieee.Format.word
    cases s
    · rw [if_neg (by decide), Nat.mod_eq_of_lt (by omega)]
    · rw [if_pos rfl, Nat.add_mod_left, Nat.mod_eq_of_lt (by omega)]
  intro s' t' e
  change Ieee.double.read (Ieee.double.word s r) = _ at e
  unfold Ieee.Format.read at e
  simp only [h2] at e
  split at e
  · cases e
  · split at e
    · cases e
    · split at e
      · cases e
      · omega

theorem near_notNaN (s : Bool) (m : Nat) (p : Int) : notNaN (Ieee.double.nearest s m p) := by
  unfold Ieee.Format.nearest
  split
  · exact word_notNaN s (Nat.zero_le _)
  · exact word_notNaN s (Nat.min_le_right _ _)

theorem write_notNaN {d : Ieee.Datum} (h : ∀ s t, d ≠ .nan s t) : notNaN (Ieee.double.write d) := by
  cases d with
  | number s m p => exact near_notNaN s m p
  | infinity s => exact word_notNaN s (Nat.le_refl _)
  | nan s t => exact absurd rfl (h s t)

theorem evenOK_of {x : Nat} (h : notNaN x) : evenOK x = true := by
  unfold evenOK
  cases e : FloatKind.f64.decode x with
  | nan s t => exact absurd e (h s t)
  | number s m p => rfl
  | infinity s => rfl

/-- is it a number, and not nothing? -/
def numB (x : Nat) : Bool := match FloatKind.f64.decode x with
  | .number _ m _ => m != 0
  | _ => false

theorem mul_some {x y : Nat} (hx : notNaN x) (hy : numB y = true) : ∃ z, fbin .mul x y = some z ∧ notNaN z := by
  unfold numB at hy
  change ∃ z, ((Ieee.double.read x).product (Ieee.double.read y)).map Ieee.double.write = some z ∧ notNaN z
  change (match Ieee.double.read y with | .number _ m _ => m != 0 | _ => false) = true at hy
  have hx' : ∀ s t, Ieee.double.read x ≠ .nan s t := hx
  cases e2 : Ieee.double.read y with
  | nan s t => rw [e2] at hy; cases hy
  | infinity s => rw [e2] at hy; cases hy
  | number s m p =>
    rw [e2] at hy
    have hm : m ≠ 0 := by simpa using hy
    cases e1 : Ieee.double.read x with
    | nan s t => exact absurd e1 (hx' s t)
    | infinity s' =>
      refine ⟨Ieee.double.write (.infinity (s' ^^ s)), ?_, write_notNaN (by intro a b h; cases h)⟩
      simp [Ieee.Datum.product, hm]
    | number s' m' p' => exact ⟨Ieee.double.write (.number (s' ^^ s) (m' * m) (p' + p)), rfl, write_notNaN (by intro a b h; cases h)⟩

theorem cut_zero (s : Bool) (n d : Nat) : Ieee.Toward.cut .zero s n d = n / 2 ^ (min d (n.log2 + 2)) := by
  unfold Ieee.Toward.cut
  simp [Nat.shiftLeft_eq]

theorem pow_split {k : Nat} (h : 11 ≤ k) (m : Nat) : m * 2 ^ k = m * 2 ^ (k - 11) * 2048 := by
  rw [Nat.mul_assoc, show (2048 : Nat) = 2 ^ 11 from rfl, ← Nat.pow_add, show k - 11 + 11 = k by omega]

theorem pow_rest {k : Nat} (h : k ≤ 11) : 2 ^ (11 - k) * 2 ^ k = 2048 := by
  rw [← Nat.pow_add, show 11 - k + k = 11 by omega]

theorem cut_lt (s : Bool) {m : Nat} {i : Int} (h : m * 2 ^ (i - min i 11).toNat < 4503599627370496 * 2 ^ (11 - min i 11).toNat) : Ieee.Toward.cut .zero s (m <<< i.toNat) (-i).toNat < 9223372036854775808 := by
  rw [cut_zero, Nat.shiftLeft_eq]
  by_cases hi : 0 ≤ i
  · obtain ⟨k, rfl⟩ : ∃ k : Nat, i = k := ⟨i.toNat, by omega⟩
    have e1 : (-(k : Int)).toNat = 0 := by omega
    rw [e1, Nat.zero_min, Nat.pow_zero, Nat.div_one, Int.toNat_natCast]
    by_cases hk : 11 ≤ k
    · have e2 : ((k : Int) - min (k : Int) 11).toNat = k - 11 := by omega
      have e3 : (11 - min (k : Int) 11).toNat = 0 := by omega
      rw [e2, e3, Nat.pow_zero, Nat.mul_one] at h
      rw [pow_split hk]
      generalize m * 2 ^ (k - 11) = y at *
      omega
    · have e2 : ((k : Int) - min (k : Int) 11).toNat = 0 := by omega
      have e3 : (11 - min (k : Int) 11).toNat = 11 - k := by omega
      rw [e2, e3, Nat.pow_zero, Nat.mul_one] at h
      have := Nat.mul_lt_mul_of_pos_right h (Nat.two_pow_pos k)
      rw [Nat.mul_assoc, pow_rest (by omega)] at this
      exact this
  · obtain ⟨k, rfl⟩ : ∃ k : Nat, i = -(k : Int) := ⟨(-i).toNat, by omega⟩
    have e1 : (- -(k : Int)).toNat = k := by omega
    have e2 : (-(k : Int) - min (-(k : Int)) 11).toNat = 0 := by omega
    have e3 : (11 - min (-(k : Int)) 11).toNat = 11 + k := by omega
    have e4 : (-(k : Int)).toNat = 0 := by omega
    rw [e2, e3, Nat.pow_zero, Nat.mul_one, Nat.pow_add, show (2 : Nat) ^ 11 = 2048 from rfl] at h
    rw [e1, e4, Nat.pow_zero, Nat.mul_one]
    by_cases hk : k ≤ m.log2 + 2
    · rw [Nat.min_eq_left hk]
      apply Nat.div_lt_of_lt_mul
      generalize 2 ^ k = y at *
      omega
    · rw [Nat.min_eq_right (by omega), Nat.div_eq_of_lt]
      · omega
      · have := Nat.lt_log2_self (n := m)
        rw [show m.log2 + 2 = m.log2 + 1 + 1 from rfl, Nat.pow_succ]
        omega

theorem cut_le (s : Bool) {m : Nat} {i : Int} (h : m * 2 ^ (i - min i 11).toNat ≤ 4503599627370496 * 2 ^ (11 - min i 11).toNat) : Ieee.Toward.cut .zero s (m <<< i.toNat) (-i).toNat ≤ 9223372036854775808 := by
  rw [cut_zero, Nat.shiftLeft_eq]
  by_cases hi : 0 ≤ i
  · obtain ⟨k, rfl⟩ : ∃ k : Nat, i = k := ⟨i.toNat, by omega⟩
    have e1 : (-(k : Int)).toNat = 0 := by omega
    rw [e1, Nat.zero_min, Nat.pow_zero, Nat.div_one, Int.toNat_natCast]
    by_cases hk : 11 ≤ k
    · have e2 : ((k : Int) - min (k : Int) 11).toNat = k - 11 := by omega
      have e3 : (11 - min (k : Int) 11).toNat = 0 := by omega
      rw [e2, e3, Nat.pow_zero, Nat.mul_one] at h
      rw [pow_split hk]
      generalize m * 2 ^ (k - 11) = y at *
      omega
    · have e2 : ((k : Int) - min (k : Int) 11).toNat = 0 := by omega
      have e3 : (11 - min (k : Int) 11).toNat = 11 - k := by omega
      rw [e2, e3, Nat.pow_zero, Nat.mul_one] at h
      have := Nat.mul_le_mul_right (2 ^ k) h
      rw [Nat.mul_assoc, pow_rest (by omega)] at this
      exact this
  · obtain ⟨k, rfl⟩ : ∃ k : Nat, i = -(k : Int) := ⟨(-i).toNat, by omega⟩
    have e1 : (- -(k : Int)).toNat = k := by omega
    have e2 : (-(k : Int) - min (-(k : Int)) 11).toNat = 0 := by omega
    have e3 : (11 - min (-(k : Int)) 11).toNat = 11 + k := by omega
    have e4 : (-(k : Int)).toNat = 0 := by omega
    rw [e2, e3, Nat.pow_zero, Nat.mul_one, Nat.pow_add, show (2 : Nat) ^ 11 = 2048 from rfl] at h
    rw [e1, e4, Nat.pow_zero, Nat.mul_one]
    by_cases hk : k ≤ m.log2 + 2
    · rw [Nat.min_eq_left hk]
      apply Nat.div_le_of_le_mul
      generalize 2 ^ k = y at *
      omega
    · rw [Nat.min_eq_right (by omega), Nat.div_eq_of_lt]
      · omega
      · have := Nat.lt_log2_self (n := m)
        rw [show m.log2 + 2 = m.log2 + 1 + 1 from rfl, Nat.pow_succ]
        omega

theorem compare_cases (a b : Int) : (a < b ∧ compare a b = .lt) ∨ (a = b ∧ compare a b = .eq) ∨ (b < a ∧ compare a b = .gt) := by
  change (a < b ∧ compareOfLessAndEq a b = .lt) ∨ (a = b ∧ compareOfLessAndEq a b = .eq) ∨ (b < a ∧ compareOfLessAndEq a b = .gt)
  unfold compareOfLessAndEq
  by_cases h : a < b
  · left; exact ⟨h, if_pos h⟩
  · by_cases h2 : a = b
    · right; left; exact ⟨h2, by rw [if_neg h, if_pos h2]⟩
    · right; right; exact ⟨by omega, by rw [if_neg h, if_neg h2]⟩

theorem dec_ints : FloatKind.f64.decode 4890909195324358656 = .number false 4503599627370496 11 := by rfl

theorem dec_nints : FloatKind.f64.decode 14114281232179134464 = .number true 4503599627370496 11 := by rfl

theorem ftoi_ok {r : Nat} (h1 : (Ieee.Format.order (FloatKind.format .f64) r r != some Ordering.eq) = false) (h2 : (Ieee.Format.order (FloatKind.format .f64) r 14114281232179134464 == some Ordering.lt) = false)
    (h3 : ((Ieee.Format.order (FloatKind.format .f64) r 4890909195324358656 == some Ordering.gt) || (Ieee.Format.order (FloatKind.format .f64) r 4890909195324358656 == some Ordering.eq)) = false) : ftoiOK .i64 r = true := by
  change ((FloatKind.f64.decode r).order (FloatKind.f64.decode r) != some Ordering.eq) = false at h1
  change ((FloatKind.f64.decode r).order (FloatKind.f64.decode 14114281232179134464) == some Ordering.lt) = false at h2
  change (((FloatKind.f64.decode r).order (FloatKind.f64.decode 4890909195324358656) == some Ordering.gt) || ((FloatKind.f64.decode r).order (FloatKind.f64.decode 4890909195324358656) == some Ordering.eq)) = false at h3
  rw [dec_nints] at h2
  rw [dec_ints] at h3
  unfold ftoiOK
  cases e : FloatKind.f64.decode r with
  | nan s t => rw [e] at h1; cases h1
  | infinity s =>
    rw [e] at h2 h3
    cases s
    · cases h3
    · cases h2
  | number s m i =>
    rw [e] at h2 h3
    simp only [Ieee.Datum.order] at h2 h3
    have c1 : Ieee.signed s m (i - min i 11).toNat < Ieee.signed false 4503599627370496 (11 - min i 11).toNat := by
      rcases compare_cases (Ieee.signed s m (i - min i 11).toNat) (Ieee.signed false 4503599627370496 (11 - min i 11).toNat) with h | h | h
      · exact h.1
      · rw [h.2] at h3; cases h3
      · rw [h.2] at h3; cases h3
    have c2 : Ieee.signed true 4503599627370496 (11 - min i 11).toNat ≤ Ieee.signed s m (i - min i 11).toNat := by
      rcases compare_cases (Ieee.signed s m (i - min i 11).toNat) (Ieee.signed true 4503599627370496 (11 - min i 11).toNat) with h | h | h
      · rw [h.2] at h2; cases h2
      · omega
      · omega
    have ht : (Ieee.Datum.number s m i).toInt .zero = some (Ieee.signed s (Ieee.Toward.cut .zero s (m <<< i.toNat) (-i).toNat) 0) := rfl
    rw [ht]
    have hmin : IntKind.i64.min = -9223372036854775808 := rfl
    have hmax : IntKind.i64.max = 9223372036854775807 := rfl
    simp only [hmin, hmax, Bool.and_eq_true, decide_eq_true_eq]
    cases s with
    | false =>
      unfold Ieee.signed at c1
      simp only [Bool.false_eq_true, if_false, Nat.shiftLeft_eq] at c1
      have := cut_lt false (m := m) (i := i) (by omega)
      unfold Ieee.signed
      simp only [Bool.false_eq_true, if_false, Nat.shiftLeft_zero]
      omega
    | true =>
      unfold Ieee.signed at c2
      simp only [if_true, Nat.shiftLeft_eq] at c2
      have := cut_le true (m := m) (i := i) (by omega)
      unfold Ieee.signed
      simp only [if_true, Nat.shiftLeft_zero]
      omega

theorem flt_Whole_spec (N : Nat) {x : Nat} (h : notNaN x) : ∃ z : Int, F_flt_Whole N x 0 1048576 = some (z, ()) ∧ 0 ≤ z ∧ z ≤ 1048576 := by
  have hz : ∀ v : Int, 0 ≤ imax 0 (imin v 1048576) ∧ imax 0 (imin v 1048576) ≤ 1048576 := by
    intro v
    unfold imax imin
    constructor <;> (repeat' split) <;> omega
  unfold F_flt_Whole F_flt_Round
  have e0 : (cond (evenOK x) (some (evenF x, ())) none) = some (evenF x, ()) := by rw [evenOK_of h]; rfl
  rw [e0]
  simp only [Option.bind_some]
  unfold F_math_IsNaN
  simp only [Option.bind_some]
  cases h1 : (Ieee.Format.order (FloatKind.format .f64) (evenF x) (evenF x) != some Ordering.eq)
  case true => exact ⟨_, rfl, hz _⟩
  cases h2 : (Ieee.Format.order (FloatKind.format .f64) (evenF x) 14114281232179134464 == some Ordering.lt)
  case true => exact ⟨_, rfl, hz _⟩
  cases h3 : ((Ieee.Format.order (FloatKind.format .f64) (evenF x) 4890909195324358656 == some Ordering.gt) || (Ieee.Format.order (FloatKind.format .f64) (evenF x) 4890909195324358656 == some Ordering.eq))
  case true =>
    refine ⟨imax 0 (imin 9223372036854775807 1048576), ?_, hz _⟩
    exact bF rfl (bF rfl (bT rfl rfl))
  refine ⟨imax 0 (imin (ftoi (evenF x)) 1048576), ?_, hz _⟩
  exact bF rfl (bF rfl (bF rfl (bT (ftoi_ok h1 h2 h3) rfl)))

/-! numbers of 64 bits, made whole -/

/-- m / 2^d, to the nearest, the even one of two -/
def nearE (m d : Nat) : Nat := m / 2 ^ d + (decide (2 ^ d < 2 * (m % 2 ^ d)) || (decide (2 ^ d = 2 * (m % 2 ^ d)) && decide (m / 2 ^ d % 2 = 1))).toNat

theorem cut_even (s : Bool) (n d : Nat) : Ieee.Toward.cut .even s n d = nearE n d := by
  unfold Ieee.Toward.cut nearE
  simp only [Nat.shiftLeft_eq, Nat.one_mul]
  by_cases h : d ≤ n.log2 + 2
  · rw [Nat.min_eq_left h]
    rfl
  · rw [Nat.min_eq_right (by omega)]
    have h1 := Nat.lt_log2_self (n := n)
    have h2 : 2 ^ (n.log2 + 2) = 2 * 2 ^ (n.log2 + 1) := by rw [show n.log2 + 2 = n.log2 + 1 + 1 from rfl, Nat.pow_succ, Nat.mul_comm]
    have h3 : 2 ^ (n.log2 + 2) ≤ 2 ^ d := Nat.pow_le_pow_right (by omega) (by omega)
    rw [Nat.div_eq_of_lt (show n < 2 ^ (n.log2 + 2) by omega), Nat.mod_eq_of_lt (show n < 2 ^ (n.log2 + 2) by omega), Nat.div_eq_of_lt (show n < 2 ^ d by omega), Nat.mod_eq_of_lt (show n < 2 ^ d by omega)]
    rw [decide_eq_false (show ¬ 2 ^ (n.log2 + 2) < 2 * n by omega), decide_eq_false (show ¬ 2 ^ d < 2 * n by omega)]
    have e1 : (2 ^ (n.log2 + 2) == 2 * n) = false := by
      rw [beq_eq_false_iff_ne]; omega
    rw [e1, decide_eq_false (show ¬ 2 ^ d = 2 * n by omega)]
    rfl

theorem nearE_le {m d K : Nat} (h : m ≤ K * 2 ^ d) : nearE m d ≤ K := by
  have hp : 0 < 2 ^ d := Nat.two_pow_pos d
  have hd := Nat.div_add_mod m (2 ^ d)
  have hm := Nat.mod_lt m hp
  have hq : m / 2 ^ d ≤ K := Nat.div_le_of_le_mul (by rw [Nat.mul_comm]; exact h)
  unfold nearE
  by_cases he : m / 2 ^ d = K
  · have : m % 2 ^ d = 0 := by
      rw [he, Nat.mul_comm] at hd
      omega
    rw [this, he]
    rw [decide_eq_false (show ¬ 2 ^ d < 2 * 0 by omega), decide_eq_false (show ¬ 2 ^ d = 2 * 0 by omega)]
    simp
  · have : (decide (2 ^ d < 2 * (m % 2 ^ d)) || (decide (2 ^ d = 2 * (m % 2 ^ d)) && decide (m / 2 ^ d % 2 = 1))).toNat ≤ 1 := Bool.toNat_le _
    omega

theorem nearE_ge {m d K : Nat} (h : K * 2 ^ d ≤ m) : K ≤ nearE m d := by
  have : K ≤ m / 2 ^ d := (Nat.le_div_iff_mul_le (Nat.two_pow_pos d)).2 h
  unfold nearE
  omega

/-- between two whole numbers -/
theorem nearE_exact (k d : Nat) : nearE (k * 2 ^ d) d = k := by
  have hp : 0 < 2 ^ d := Nat.two_pow_pos d
  unfold nearE
  rw [Nat.mul_mod_left, Nat.mul_div_cancel _ hp, decide_eq_false (show ¬ 2 ^ d < 2 * 0 by omega), decide_eq_false (show ¬ 2 ^ d = 2 * 0 by omega)]
  simp

/-- the word nearest to a number (of no sign, not beyond all): what it stands for -/
theorem nearest_read {m : Nat} {p : Int} (hm : m ≠ 0) (hp : p + m.log2 ≤ 900) : ∃ (K : Nat) (m' : Nat) (last p' : Int), last = max (p + m.log2 - 52) (-1074) ∧ K = nearE (m * 2 ^ (p - last).toNat) (last - p).toNat ∧
    Ieee.double.read (Ieee.double.nearest false m p) = .number false m' p' ∧ last ≤ p' ∧ p' ≤ last + 1 ∧ m' * 2 ^ (p' - last).toNat = K ∧ Ieee.double.nearest false m p < 2047 * 4503599627370496 := by
  have hl : Ieee.double.leastPlace = -1074 := by decide
  have hf : (Ieee.double.fractionBits : Int) = 52 := by decide
  obtain ⟨B, eB⟩ : ∃ B, B = Ieee.double.binade := ⟨_, rfl⟩
  have hi : Ieee.double.infRung = 2047 * B := by rw [eB]; decide
  have hs : Ieee.double.signWeight = 2048 * B := by rw [eB]; decide
  have hB : 2 ^ 53 = 2 * B := by rw [eB]; decide
  have hB0 : 0 < B := by rw [eB]; decide
  obtain ⟨last, el⟩ : ∃ last, last = max (p + m.log2 - 52) (-1074) := ⟨_, rfl⟩
  obtain ⟨K, eK⟩ : ∃ K, K = nearE (m * 2 ^ (p - last).toNat) (last - p).toNat := ⟨_, rfl⟩
  have h1 := Nat.lt_log2_self (n := m)
  -- what is kept has at most 53 digits, or is the next power
  have hK : K ≤ 2 * B := by
    rw [eK, ← hB]
    apply nearE_le
    by_cases c : last ≤ p
    · have e1 : (last - p).toNat = 0 := by omega
      rw [e1, Nat.pow_zero, Nat.mul_one]
      have e2 : m.log2 + 1 + (p - last).toNat ≤ 53 := by omega
      have e3 : m * 2 ^ (p - last).toNat ≤ 2 ^ (m.log2 + 1) * 2 ^ (p - last).toNat := Nat.mul_le_mul_right _ (by omega)
      rw [← Nat.pow_add] at e3
      exact Nat.le_trans e3 (Nat.pow_le_pow_right (by omega) e2)
    · have e1 : (p - last).toNat = 0 := by omega
      rw [e1, Nat.pow_zero, Nat.mul_one, ← Nat.pow_add]
      have e2 : m.log2 + 1 ≤ 53 + (last - p).toNat := by omega
      exact Nat.le_trans (Nat.le_of_lt h1) (Nat.pow_le_pow_right (by omega) e2)
  obtain ⟨L, eL⟩ : ∃ L : Nat, (last + 1074).toNat = L := ⟨_, rfl⟩
  have hL : L ≤ 1950 := by omega
  have hLB : L * B ≤ 1950 * B := Nat.mul_le_mul_right B hL
  have hword : Ieee.double.nearest false m p = L * B + K := by
    unfold Ieee.Format.nearest
    rw [if_neg hm]
    simp only [hf, hl, ← eB, hi, ← el, cut_even, Nat.shiftLeft_eq, ← eK]
    unfold Ieee.Format.word
    rw [if_neg (by decide)]
    have : (last - -1074).toNat = L := by omega
    rw [this]
    apply Nat.min_eq_left
    omega
  -- where it isn't the least, what is kept has 53 digits
  have hK2 : -1074 < last → B ≤ K := by
    intro hlast
    have hB2 : 2 ^ 52 = B := by rw [eB]; decide
    have h2 := Nat.log2_self_le hm
    rw [eK, ← hB2]
    apply nearE_ge
    by_cases c : last ≤ p
    · have e1 : (last - p).toNat = 0 := by omega
      rw [e1, Nat.pow_zero, Nat.mul_one]
      have e2 : m.log2 + (p - last).toNat = 52 := by omega
      have e3 : 2 ^ m.log2 * 2 ^ (p - last).toNat ≤ m * 2 ^ (p - last).toNat := Nat.mul_le_mul_right _ h2
      rw [← Nat.pow_add, e2] at e3
      exact e3
    · have e1 : (p - last).toNat = 0 := by omega
      rw [e1, Nat.pow_zero, Nat.mul_one, ← Nat.pow_add]
      have e2 : 52 + (last - p).toNat = m.log2 := by omega
      rw [e2]
      exact h2
  refine ⟨K, ?_⟩
  have hrd : ∀ r, r < 2047 * B → Ieee.double.read r = if r < B then .number false r (-1074) else .number false (B + r % B) (-1074 + (r / B - 1 : Nat)) := by
    intro r hr
    unfold Ieee.Format.read
    simp only [hs, ← eB, hi, hl]
    rw [Nat.mod_eq_of_lt (show r < 2048 * B by omega), Nat.div_eq_of_lt (show r < 2048 * B by omega)]
    simp only [Nat.zero_mod]
    by_cases h : r < B
    · rw [if_pos h, if_pos h]; rfl
    · rw [if_neg h, if_neg h, if_pos hr]; rfl
  have hlim : L * B + K < 2047 * 4503599627370496 := by
    have : B = 4503599627370496 := by rw [eB]; decide
    omega
  rw [hword, hrd _ (by omega)]
  by_cases hz : K < B
  · -- less than the least usual one
    have h0 : last = -1074 := by
      apply Decidable.byContradiction
      intro h
      have := hK2 (by omega)
      omega
    have : L = 0 := by omega
    subst this
    rw [Nat.zero_mul, Nat.zero_add, if_pos hz]
    exact ⟨K, last, -1074, el, eK, rfl, by omega, by omega, by rw [h0]; simp, by omega⟩
  by_cases h2 : K = 2 * B
  · have e1 : L * B + K = (L + 2) * B := by rw [h2, Nat.add_mul]
    rw [e1, if_neg (by have : B ≤ (L + 2) * B := Nat.le_mul_of_pos_left _ (by omega); omega), Nat.mul_mod_left, Nat.mul_div_cancel _ hB0, Nat.add_zero]
    refine ⟨B, last, -1074 + ((L + 2 - 1 : Nat) : Int), el, eK, rfl, by omega, by omega, ?_, by omega⟩
    have : (-1074 + ((L + 2 - 1 : Nat) : Int) - last).toNat = 1 := by omega
    rw [this, h2, Nat.pow_one, Nat.mul_comm]
  · obtain ⟨f, ef⟩ : ∃ f, K = B + f := ⟨K - B, by omega⟩
    have hfB : f < B := by omega
    have e1 : L * B + K = (L + 1) * B + f := by rw [ef, Nat.add_mul]; omega
    have e2 : ((L + 1) * B + f) % B = f := by rw [Nat.mul_comm, Nat.mul_add_mod, Nat.mod_eq_of_lt hfB]
    have e3 : ((L + 1) * B + f) / B = L + 1 := by rw [Nat.mul_comm, Nat.mul_add_div hB0, Nat.div_eq_of_lt hfB, Nat.add_zero]
    rw [e1, if_neg (by have : B ≤ (L + 1) * B := Nat.le_mul_of_pos_left _ (by omega); omega), e2, e3]
    refine ⟨B + f, last, -1074 + ((L + 1 - 1 : Nat) : Int), el, eK, rfl, by omega, by omega, ?_, by omega⟩
    have : (-1074 + ((L + 1 - 1 : Nat) : Int) - last).toNat = 0 := by omega
    rw [this, Nat.pow_zero, Nat.mul_one, ef]

/-! bits of numbers -/

theorem u64_in {n : Nat} (h : n < 2 ^ 64) : IntKind.wrap .u64 (n : Int) = (n : Int) := by
  simp only [IntKind.wrap, IntKind.bits, IntKind.signed]
  simp
  omega

theorem and_nat {a b : Nat} (ha : a < 2 ^ 64) (hb : b < 2 ^ 64) : bitsI .and .u64 (a : Int) (b : Int) = ((a &&& b : Nat) : Int) := by
  have hab : a &&& b < 2 ^ 64 := Nat.and_lt_two_pow _ hb
  have e : (BitVec.ofInt 64 (a : Int) &&& BitVec.ofInt 64 (b : Int)).toNat = a &&& b := by
    rw [BitVec.ofInt_natCast, BitVec.ofInt_natCast, BitVec.toNat_and, BitVec.toNat_ofNat, BitVec.toNat_ofNat, Nat.mod_eq_of_lt ha, Nat.mod_eq_of_lt hb]
  change IntKind.wrap .u64 ((BitVec.ofInt 64 (a : Int) &&& BitVec.ofInt 64 (b : Int)).toNat : Int) = _
  rw [e]
  exact u64_in hab

theorem and_mask {a k : Nat} (ha : a < 2 ^ 64) (hk : k < 64) : bitsI .and .u64 (a : Int) ((2 ^ k - 1 : Nat) : Int) = ((a % 2 ^ k : Nat) : Int) := by
  rw [and_nat ha (by have := Nat.pow_lt_pow_right (a := 2) (by omega) hk; omega), Nat.and_two_pow_sub_one_eq_mod]

theorem shr_nat {a k : Nat} (hk : k ≤ 64) : shrI .u64 (a : Int) (k : Int) = ((a / 2 ^ k : Nat) : Int) := by
  unfold shrI
  rw [show min (k : Int).toNat IntKind.u64.bits = k by simp [IntKind.bits]; omega]
  rw [Int.fdiv_eq_ediv_of_nonneg _ (by exact Int.le_of_lt (Int.pow_pos (by omega)))]
  simp

theorem shl_nat {a k : Nat} (hk : k ≤ 64) : shlI .u64 (a : Int) (k : Int) = ((a * 2 ^ k % 2 ^ 64 : Nat) : Int) := by
  unfold shlI
  rw [show min (k : Int).toNat IntKind.u64.bits = k by simp [IntKind.bits]; omega]
  have e : (a : Int) * 2 ^ k = ((a * 2 ^ k : Nat) : Int) := by simp
  rw [e]
  generalize a * 2 ^ k = y
  simp only [IntKind.wrap, IntKind.bits, IntKind.signed]
  simp

/-! words that stand for whole numbers -/

def DV (r w : Nat) : Prop := ∃ (m : Nat) (p : Int), FloatKind.f64.decode r = .number false m p ∧ p ≤ 0 ∧ m = w * 2 ^ (-p).toNat ∧ w ≤ 1048576

theorem DV.ftoi {r w : Nat} (h : DV r w) : ftoi r = (w : Int) := by
  obtain ⟨m, p, e, hp, hm, hw⟩ := h
  unfold Go.Eng.ftoi
  rw [e]
  have ht : (Ieee.Datum.number false m p).toInt .zero = some (Ieee.signed false (Ieee.Toward.cut .zero false (m <<< p.toNat) (-p).toNat) 0) := rfl
  rw [ht, cut_zero, show p.toNat = 0 by omega, Nat.shiftLeft_zero]
  unfold Ieee.signed
  rw [if_neg (by decide), Nat.shiftLeft_zero]
  simp only [Option.getD_some]
  congr 1
  obtain ⟨k, hk⟩ : ∃ k, (-p).toNat = k := ⟨_, rfl⟩
  rw [hk] at hm ⊢
  by_cases c : k ≤ m.log2 + 2
  · rw [Nat.min_eq_left c, hm, Nat.mul_div_cancel _ (Nat.two_pow_pos k)]
  · rw [Nat.min_eq_right (by omega)]
    have h1 := Nat.lt_log2_self (n := m)
    have h2 : 2 ^ (m.log2 + 2) = 2 * 2 ^ (m.log2 + 1) := by rw [show m.log2 + 2 = m.log2 + 1 + 1 from rfl, Nat.pow_succ, Nat.mul_comm]
    rw [Nat.div_eq_of_lt (by omega)]
    have h3 : 2 ^ (m.log2 + 2) ≤ 2 ^ k := Nat.pow_le_pow_right (by omega) (by omega)
    rcases Nat.eq_zero_or_pos w with h0 | h0
    · exact h0.symm
    · have : 2 ^ k ≤ w * 2 ^ k := Nat.le_mul_of_pos_left _ h0
      omega

theorem DV.self {r w : Nat} (h : DV r w) : Ieee.Format.order (FloatKind.format .f64) r r = some .eq := by
  obtain ⟨m, p, e, _⟩ := h
  change (FloatKind.f64.decode r).order (FloatKind.f64.decode r) = some .eq
  rw [e]
  simp only [Ieee.Datum.order]
  rcases compare_cases (Ieee.signed false m (p - min p p).toNat) (Ieee.signed false m (p - min p p).toNat) with h | h | h
  · omega
  · rw [h.2]
  · omega

theorem DV.below {r w c M : Nat} {P : Int} (h : DV r w) (hc : FloatKind.f64.decode c = .number false M P) (hM : 1048576 < M) (hP : 0 ≤ P) : Ieee.Format.order (FloatKind.format .f64) r c = some .lt := by
  obtain ⟨m, p, e, hp, hm, hw⟩ := h
  change (FloatKind.f64.decode r).order (FloatKind.f64.decode c) = some .lt
  rw [e, hc]
  simp only [Ieee.Datum.order]
  rw [show min p P = p by omega, show (p - p).toNat = 0 by omega, show (P - p).toNat = P.toNat + (-p).toNat by omega]
  have hlt : Ieee.signed false m 0 < Ieee.signed false M (P.toNat + (-p).toNat) := by
    unfold Ieee.signed
    rw [if_neg (by decide), if_neg (by decide), Nat.shiftLeft_zero, Nat.shiftLeft_eq, Nat.pow_add]
    have h1 : w * 2 ^ (-p).toNat < M * 2 ^ (-p).toNat := Nat.mul_lt_mul_of_pos_right (by omega) (Nat.two_pow_pos _)
    have h2 : M * 2 ^ (-p).toNat ≤ M * (2 ^ P.toNat * 2 ^ (-p).toNat) := by
      rw [← Nat.mul_assoc, Nat.mul_right_comm]
      exact Nat.le_mul_of_pos_right _ (Nat.two_pow_pos _)
    rw [← hm] at h1
    omega
  rcases compare_cases (Ieee.signed false m 0) (Ieee.signed false M (P.toNat + (-p).toNat)) with h | h | h
  · rw [h.2]
  · omega
  · omega

theorem DV.above {r w c M : Nat} {P : Int} (h : DV r w) (hc : FloatKind.f64.decode c = .number true M P) (hM : 0 < M) (hP : 0 ≤ P) : Ieee.Format.order (FloatKind.format .f64) r c = some .gt := by
  obtain ⟨m, p, e, hp, hm, hw⟩ := h
  change (FloatKind.f64.decode r).order (FloatKind.f64.decode c) = some .gt
  rw [e, hc]
  simp only [Ieee.Datum.order]
  rw [show min p P = p by omega]
  have hlt : Ieee.signed true M (P - p).toNat < Ieee.signed false m (p - p).toNat := by
    unfold Ieee.signed
    rw [if_pos rfl, if_neg (by decide), Nat.shiftLeft_eq, Nat.shiftLeft_eq]
    have : 0 < M * 2 ^ (P - p).toNat := Nat.mul_pos hM (Nat.two_pow_pos _)
    omega
  rcases compare_cases (Ieee.signed false m (p - p).toNat) (Ieee.signed true M (P - p).toNat) with h | h | h
  · omega
  · omega
  · rw [h.2]

theorem dec_9 : FloatKind.f64.decode 4890691058569617664 = .number false 8789062500000000 10 := by rfl

theorem dec_n9 : FloatKind.f64.decode 14114063095424393472 = .number true 8789062500000000 10 := by rfl

theorem DV.ok {r w : Nat} (h : DV r w) : ftoiOK .i64 r = true := by
  apply ftoi_ok
  · rw [h.self]; rfl
  · rw [h.above dec_nints (by omega) (by omega)]; rfl
  · rw [h.below dec_ints (by omega) (by omega)]; rfl

theorem imax_imin {w : Nat} (hw : w ≤ 1048576) : imax 0 (imin (w : Int) 1048576) = (w : Int) := by
  unfold imax imin
  repeat' split
  all_goals omega

/-- the program's -/
theorem flt_Whole_dv (N : Nat) {x w : Nat} (hx : notNaN x) (h : DV (evenF x) w) : F_flt_Whole N x 0 1048576 = some ((w : Int), ()) := by
  have hw : w ≤ 1048576 := by obtain ⟨_, _, _, _, _, hw⟩ := h; exact hw
  unfold F_flt_Whole F_flt_Round
  have e0 : (cond (evenOK x) (some (evenF x, ())) none) = some (evenF x, ()) := by rw [evenOK_of hx]; rfl
  rw [e0]
  simp only [Option.bind_some]
  unfold F_math_IsNaN
  simp only [Option.bind_some]
  refine bF (by rw [h.self]; rfl) (bF (by rw [h.above dec_nints (by omega) (by omega)]; rfl) (bF (by rw [h.below dec_ints (by omega) (by omega)]; rfl) (bT h.ok ?_)))
  rw [h.ftoi, imax_imin hw]

/-- a whole number's own word -/
theorem DV.near {w : Nat} (hw : w ≤ 1048576) : DV (FloatKind.f64.encode (.number false w 0)) w := by
  change DV (Ieee.double.nearest false w 0) w
  rcases Nat.eq_zero_or_pos w with h0 | h0
  · subst h0
    exact ⟨0, -1074, rfl, by omega, by rw [Nat.zero_mul], by omega⟩
  · have hlog : w.log2 ≤ 20 := by
      have h1 : 2 ^ w.log2 ≤ w := Nat.log2_self_le (by omega)
      apply Decidable.byContradiction
      intro h
      have : 2 ^ 21 ≤ 2 ^ w.log2 := Nat.pow_le_pow_right (by omega) (by omega)
      omega
    obtain ⟨K, m', last, p', el, eK, er, h1, h2, h3, _⟩ := nearest_read (m := w) (p := 0) (by omega) (by omega)
    obtain ⟨a, ea⟩ : ∃ a, (0 - last).toNat = a := ⟨_, rfl⟩
    have e0 : (last - 0).toNat = 0 := by omega
    rw [ea, e0, show w * 2 ^ a = w * 2 ^ a * 2 ^ 0 by rw [Nat.pow_zero, Nat.mul_one], nearE_exact] at eK
    refine ⟨m', p', er, by omega, ?_, hw⟩
    rw [eK] at h3
    by_cases c : p' = last
    · rw [c, show (last - last).toNat = 0 by omega, Nat.pow_zero, Nat.mul_one] at h3
      rw [h3, c, show (-last).toNat = a by omega]
    · rw [show (p' - last).toNat = 1 by omega, Nat.pow_one, show a = (-p').toNat + 1 by omega, Nat.pow_succ, ← Nat.mul_assoc] at h3
      exact Nat.eq_of_mul_eq_mul_right (by omega) h3

theorem evenF_dv {x m : Nat} {p : Int} (e : FloatKind.f64.decode x = .number false m p) (hp : p ≤ 0) (hw : nearE m (-p).toNat ≤ 1048576) : DV (evenF x) (nearE m (-p).toNat) := by
  have h1 : evenF x = FloatKind.f64.encode (.number false (nearE m (-p).toNat) 0) := by
    unfold evenF
    rw [e]
    change FloatKind.f64.encode (.number false (Ieee.Toward.cut .even false (m <<< p.toNat) (-p).toNat) 0) = _
    rw [cut_even, show p.toNat = 0 by omega, Nat.shiftLeft_zero]
  rw [h1]
  exact DV.near hw

theorem nearE_zero {m d : Nat} (h : 2 * m < 2 ^ d) : nearE m d = 0 := by
  unfold nearE
  rw [Nat.div_eq_of_lt (by omega), Nat.mod_eq_of_lt (by omega), decide_eq_false (show ¬ 2 ^ d < 2 * m by omega), decide_eq_false (show ¬ 2 ^ d = 2 * m by omega)]
  rfl

/-- what a word without a sign stands for -/
theorem decode_pos {x : Nat} (hx : x < 2047 * 4503599627370496) : FloatKind.f64.decode x = if x < 4503599627370496 then .number false x (-1074) else .number false (4503599627370496 + x % 4503599627370496) (-1074 + (x / 4503599627370496 - 1 : Nat)) := by
  change Ieee.double.read x = _
  have hl : Ieee.double.leastPlace = -1074 := by decide
  have hb : Ieee.double.binade = 4503599627370496 := by decide
  have hi : Ieee.double.infRung = 2047 * 4503599627370496 := by decide
  have hs : Ieee.double.signWeight = 2048 * 4503599627370496 := by decide
  unfold Ieee.Format.read
  simp only [hs, hb, hi, hl]
  rw [Nat.mod_eq_of_lt (show x < 2048 * 4503599627370496 by omega), Nat.div_eq_of_lt (show x < 2048 * 4503599627370496 by omega)]
  simp only [Nat.zero_mod]
  by_cases h : x < 4503599627370496
  · rw [if_pos h, if_pos h]; rfl
  · rw [if_neg h, if_neg h, if_pos hx]; rfl

theorem DV.zero : DV 0 0 := ⟨0, -1074, rfl, by omega, by rw [Nat.zero_mul], by omega⟩

theorem DV.one : DV 4607182418800017408 1 := ⟨4503599627370496, -52, rfl, by omega, rfl, by omega⟩

theorem ref_Round_dv (N : Nat) {x m : Nat} {p : Int} (hx : x < 2047 * 4503599627370496) (e : FloatKind.f64.decode x = .number false m p) (hp : p < 0) (hw : nearE m (-p).toNat ≤ 1048576) : ∃ r, F_lodgeref3_Round N x = some (r, ()) ∧ DV r (nearE m (-p).toNat) := by
  rw [decode_pos hx] at e
  have hx64 : x < 2 ^ 64 := by omega
  obtain ⟨E, eE⟩ : ∃ E, x / 4503599627370496 = E := ⟨_, rfl⟩
  obtain ⟨f, ef⟩ : ∃ f, x % 4503599627370496 = f := ⟨_, rfl⟩
  have hxE : x = E * 4503599627370496 + f := by rw [← eE, ← ef, Nat.mul_comm]; exact (Nat.div_add_mod _ _).symm
  have hf : f < 4503599627370496 := by rw [← ef]; exact Nat.mod_lt _ (by omega)
  have hE : E < 2047 := by omega
  have s1 : shrI .u64 (x : Int) 52 = (E : Int) := by
    have := shr_nat (a := x) (k := 52) (by omega)
    rw [show ((52 : Nat) : Int) = 52 from rfl] at this
    rw [this, ← eE]
  have s2 : bitsI .and .u64 (E : Int) 2047 = (E : Int) := by
    have := and_mask (a := E) (k := 11) (by omega) (by omega)
    rw [show ((2 ^ 11 - 1 : Nat) : Int) = 2047 from rfl, Nat.mod_eq_of_lt (by omega)] at this
    exact this
  have s3 : wi64 (bitsI .and .u64 (shrI .u64 (x : Int) 52) 2047) = (E : Int) := by rw [s1, s2, wi64_in (by omega) (by omega)]
  have s4 : shrI .u64 (x : Int) 63 = 0 := by
    have := shr_nat (a := x) (k := 63) (by omega)
    rw [show ((63 : Nat) : Int) = 63 from rfl, Nat.div_eq_of_lt (by omega)] at this
    exact this
  have s5 : shlI .u64 0 63 = 0 := by decide
  unfold F_lodgeref3_Round
  simp only [s3, s4, s5]
  by_cases c0 : x < 4503599627370496
  · rw [if_pos c0] at e
    injection e with _ e1 e2
    subst e1
    subst e2
    have hE0 : E = 0 := by omega
    refine ⟨0, cF (by omega) (cT (by omega) rfl), ?_⟩
    rw [nearE_zero]
    · exact DV.zero
    · have : 2 ^ 60 ≤ 2 ^ (- (-1074 : Int)).toNat := Nat.pow_le_pow_right (by omega) (by decide)
      omega
  rw [if_neg c0, eE, ef] at e
  injection e with _ e1 e2
  have hE1 : 1 ≤ E := by omega
  have hn : (-p).toNat = 1075 - E := by omega
  have hE2 : E < 1075 := by omega
  rw [hn] at hw ⊢
  subst e1
  by_cases c1 : E < 1022
  · refine ⟨0, cF (by omega) (cT (by omega) rfl), ?_⟩
    rw [nearE_zero]
    · exact DV.zero
    · have : 2 ^ 54 ≤ 2 ^ (1075 - E) := Nat.pow_le_pow_right (by omega) (by omega)
      omega
  by_cases c2 : E = 1022
  · subst c2
    have s6 : shlI .u64 (x : Int) 12 = ((f * 4096 : Nat) : Int) := by
      have := shl_nat (a := x) (k := 12) (by omega)
      rw [show ((12 : Nat) : Int) = 12 from rfl] at this
      rw [this]
      congr 1
      omega
    simp only [s6]
    by_cases c3 : f = 0
    · subst c3
      exact ⟨0, cF (by omega) (cF (by omega) (cT (by omega) (cT (by simp) rfl))), (show DV 0 0 from DV.zero)⟩
    · refine ⟨4607182418800017408, cF (by omega) (cF (by omega) (cT (by omega) (cF (by omega) rfl))), ?_⟩
      have : nearE (4503599627370496 + f) (1075 - 1022) = 1 := by
        unfold nearE
        rw [show 1075 - 1022 = 53 from rfl, Nat.div_eq_of_lt (by omega), Nat.mod_eq_of_lt (by omega), decide_eq_true (show 2 ^ 53 < 2 * (4503599627370496 + f) by omega)]
        rfl
      rw [this]
      exact DV.one
  obtain ⟨n, en⟩ : ∃ n, 1075 - E = n := ⟨_, rfl⟩
  rw [en] at hw ⊢
  have n1 : 1 ≤ n ∧ n ≤ 52 := by omega
  obtain ⟨Q, eQ⟩ : ∃ Q, 2 ^ n = Q := ⟨_, rfl⟩
  obtain ⟨C, eC⟩ : ∃ C, 2 ^ (52 - n) = C := ⟨_, rfl⟩
  have hQ0 : 0 < Q := by rw [← eQ]; exact Nat.two_pow_pos n
  have hC0 : 0 < C := by rw [← eC]; exact Nat.two_pow_pos _
  have hCQ : C * Q = 4503599627370496 := by rw [← eC, ← eQ, ← Nat.pow_add, show 52 - n + n = 52 by omega]
  have hQle : Q ≤ 4503599627370496 := by rw [← hCQ]; exact Nat.le_mul_of_pos_left _ hC0
  have hH : 2 ^ (n - 1) * 2 = Q := by rw [← eQ, ← Nat.pow_succ, show (n - 1).succ = n by omega]
  obtain ⟨g, eg⟩ : ∃ g, f / Q = g := ⟨_, rfl⟩
  obtain ⟨low, elow⟩ : ∃ low, f % Q = low := ⟨_, rfl⟩
  have hfg : f = g * Q + low := by rw [← eg, ← elow, Nat.mul_comm]; exact (Nat.div_add_mod _ _).symm
  have hlow : low < Q := by rw [← elow]; exact Nat.mod_lt _ hQ0
  have hg : g < C := by
    apply Nat.lt_of_mul_lt_mul_right (a := Q)
    rw [hCQ]
    omega
  have hxl : x = (E * C + g) * Q + low := by rw [hxE, hfg, ← hCQ, Nat.add_mul, Nat.mul_assoc]; omega
  have hml : 4503599627370496 + f = (C + g) * Q + low := by rw [hfg, ← hCQ, Nat.add_mul]; omega
  have hxm : x % Q = low := by rw [hxl, Nat.mul_comm, Nat.mul_add_mod, Nat.mod_eq_of_lt hlow]
  have hmm : (4503599627370496 + f) % Q = low := by rw [hml, Nat.mul_comm, Nat.mul_add_mod, Nat.mod_eq_of_lt hlow]
  have hmd : (4503599627370496 + f) / Q = C + g := by rw [hml, Nat.mul_comm, Nat.mul_add_div hQ0, Nat.div_eq_of_lt hlow, Nat.add_zero]
  have hxq : x - low = (E * C + g) * Q := by omega
  have hxd : (x - low) / Q = E * C + g := by rw [hxq, Nat.mul_div_cancel _ hQ0]
  have hpar : (E * C + g) % 2 = (C + g) % 2 := by
    by_cases c : n = 52
    · have : C = 1 := by rw [← eC, c]
      rw [this, Nat.mul_one]
      omega
    · have : C = 2 * 2 ^ (52 - n - 1) := by rw [← eC, Nat.mul_comm, ← Nat.pow_succ, show (52 - n - 1).succ = 52 - n by omega]
      rw [this, Nat.mul_left_comm]
      omega
  -- the words
  have t1 : wu64 (wi64 (1075 - (E : Int))) = (n : Int) := by
    rw [show (1075 : Int) - (E : Int) = (n : Int) by omega, wi64_in (by omega) (by omega)]
    exact u64_in (by omega)
  have t2 : wu64 ((n : Int) - 1) = ((n - 1 : Nat) : Int) := by
    rw [show (n : Int) - 1 = ((n - 1 : Nat) : Int) by omega]
    exact u64_in (by omega)
  have t3 : shlI .u64 1 (n : Int) = (Q : Int) := by
    have := shl_nat (a := 1) (k := n) (by omega)
    rw [Nat.one_mul, eQ, Nat.mod_eq_of_lt (by omega)] at this
    exact this
  have t4 : shlI .u64 1 ((n - 1 : Nat) : Int) = ((2 ^ (n - 1) : Nat) : Int) := by
    have := shl_nat (a := 1) (k := n - 1) (by omega)
    rw [Nat.one_mul, Nat.mod_eq_of_lt (by omega)] at this
    exact this
  have t5 : wu64 ((Q : Int) - 1) = ((2 ^ n - 1 : Nat) : Int) := by
    rw [show (Q : Int) - 1 = ((2 ^ n - 1 : Nat) : Int) by rw [eQ]; omega]
    exact u64_in (by rw [eQ]; omega)
  have t6 : bitsI .and .u64 (x : Int) ((2 ^ n - 1 : Nat) : Int) = (low : Int) := by
    rw [and_mask hx64 (by omega), eQ, hxm]
  have t7 : wu64 ((x : Int) - (low : Int)) = ((x - low : Nat) : Int) := by
    rw [show (x : Int) - (low : Int) = ((x - low : Nat) : Int) by omega]
    exact u64_in (by omega)
  have t8 : shrI .u64 ((x - low : Nat) : Int) (n : Int) = ((E * C + g : Nat) : Int) := by
    rw [shr_nat (by omega), eQ, hxd]
  have hECg : E * C + g < 2 ^ 64 := by
    have : E * C + g ≤ (E * C + g) * Q := Nat.le_mul_of_pos_right _ hQ0
    omega
  have t9 : bitsI .and .u64 ((E * C + g : Nat) : Int) 1 = (((C + g) % 2 : Nat) : Int) := by
    have := and_mask (a := E * C + g) (k := 1) hECg (by omega)
    rw [Nat.pow_one, hpar] at this
    exact this
  have t10 : wu64 (((x - low : Nat) : Int) + (Q : Int)) = ((x - low + Q : Nat) : Int) := by
    rw [show ((x - low : Nat) : Int) + (Q : Int) = ((x - low + Q : Nat) : Int) by omega]
    exact u64_in (by omega)
  simp only [t1, t2, t3, t4, t5, t6, t7, t8, t9, t10, Int.toNat_natCast]
  -- what they stand for
  have hgQ : (g + 1) * Q ≤ C * Q := Nat.mul_le_mul_right Q hg
  have hECB : E * C * Q = E * 4503599627370496 := by rw [Nat.mul_assoc, hCQ]
  have dv : ∀ k, k ≤ C + g + 1 → C ≤ k → k ≤ 1048576 → DV ((E - 1) * 4503599627370496 + k * Q) k := by
    intro k hk hkC hk20
    have hkQ : k * Q ≤ 2 * 4503599627370496 := by
      have : k * Q ≤ (C + g + 1) * Q := Nat.mul_le_mul_right Q hk
      have e5 : (C + g + 1) * Q = C * Q + (g + 1) * Q := by rw [Nat.add_assoc, Nat.add_mul]
      omega
    have hkC2 : C * Q ≤ k * Q := Nat.mul_le_mul_right Q hkC
    by_cases c : k * Q = 2 * 4503599627370496
    · refine ⟨4503599627370496, -1074 + ((E + 1 - 1 : Nat) : Int), ?_, by omega, ?_, hk20⟩
      · have e6 : (E - 1) * 4503599627370496 + k * Q = (E + 1) * 4503599627370496 := by omega
        rw [decode_pos (by omega), e6, if_neg (by omega), Nat.mul_mod_left, Nat.mul_div_cancel _ (by omega), Nat.add_zero]
      · rw [show (-(-1074 + ((E + 1 - 1 : Nat) : Int))).toNat = n - 1 by omega]
        have : k * 2 ^ (n - 1) * 2 = 2 * 4503599627370496 := by rw [Nat.mul_assoc, hH, c]
        omega
    · refine ⟨k * Q, -1074 + ((E - 1 : Nat) : Int), ?_, by omega, ?_, hk20⟩
      · obtain ⟨r, er⟩ : ∃ r, k * Q = 4503599627370496 + r := ⟨k * Q - 4503599627370496, by omega⟩
        have e6 : (E - 1) * 4503599627370496 + k * Q = E * 4503599627370496 + r := by omega
        have hr : r < 4503599627370496 := by omega
        rw [decode_pos (by omega), e6, if_neg (by omega)]
        rw [show (E * 4503599627370496 + r) % 4503599627370496 = r by omega, show (E * 4503599627370496 + r) / 4503599627370496 = E by omega, er]
      · rw [show (-(-1074 + ((E - 1 : Nat) : Int))).toNat = n by omega, eQ]
  have d1 : x - low = (E - 1) * 4503599627370496 + (C + g) * Q := by
    rw [hxq, Nat.add_mul, Nat.add_mul, hECB, hCQ]
    omega
  have d2 : x - low + Q = (E - 1) * 4503599627370496 + (C + g + 1) * Q := by
    rw [d1, Nat.add_mul (C + g) 1, Nat.one_mul]
    omega
  have hN : nearE (4503599627370496 + f) n = C + g + (decide (Q < 2 * low) || (decide (Q = 2 * low) && decide ((C + g) % 2 = 1))).toNat := by
    unfold nearE
    rw [eQ, hmm, hmd]
  rw [hN] at hw ⊢
  by_cases u1 : Q < 2 * low
  · rw [decide_eq_true u1, Bool.true_or] at hw ⊢
    change C + g + 1 ≤ 1048576 at hw
    refine ⟨x - low + Q, cF (by omega) (cF (by omega) (cF (by omega) (cT (by omega) (cT (by omega) (cT (by omega) (cT (by omega) rfl)))))), ?_⟩
    rw [d2]
    exact dv (C + g + 1) (by omega) (by omega) hw
  rw [decide_eq_false u1, Bool.false_or] at hw ⊢
  by_cases u2 : Q = 2 * low
  · rw [decide_eq_true u2, Bool.true_and] at hw ⊢
    by_cases u3 : (C + g) % 2 = 1
    · rw [decide_eq_true u3] at hw ⊢
      change C + g + 1 ≤ 1048576 at hw
      refine ⟨x - low + Q, cF (by omega) (cF (by omega) (cF (by omega) (cT (by omega) (cT (by omega) (cF (by omega) (cT (by omega) (cT (by omega) (cT (by omega) (cT (by omega) rfl))))))))), ?_⟩
      rw [d2]
      exact dv (C + g + 1) (by omega) (by omega) hw
    · rw [decide_eq_false u3] at hw ⊢
      change C + g ≤ 1048576 at hw
      refine ⟨x - low, cF (by omega) (cF (by omega) (cF (by omega) (cT (by omega) (cT (by omega) (cF (by omega) (cT (by omega) (cT (by omega) (cF (by omega) rfl)))))))), ?_⟩
      rw [d1]
      exact dv (C + g) (by omega) (by omega) hw
  · rw [decide_eq_false u2, Bool.false_and] at hw ⊢
    change C + g ≤ 1048576 at hw
    refine ⟨x - low, cF (by omega) (cF (by omega) (cF (by omega) (cT (by omega) (cT (by omega) (cF (by omega) (cF (by omega) rfl)))))), ?_⟩
    rw [d1]
    exact dv (C + g) (by omega) (by omega) hw

/-! a step of a table -/

structure ByOK (b mb : Nat) (pb : Int) : Prop where
  dec : FloatKind.f64.decode b = .number false mb pb
  pos : 0 < mb
  neg : pb < 0
  lt : mb < 2 ^ (-pb).toNat

theorem step_dv {b mb : Nat} {pb : Int} (hb : ByOK b mb pb) {v : Nat} (hv : v ≤ 1048576) : ∃ (x m : Nat) (p : Int), fbin .mul (FloatKind.nearest .f64 (v : Int)) b = some x ∧ x < 2047 * 4503599627370496 ∧ FloatKind.f64.decode x = .number false m p ∧ p < 0 ∧ nearE m (-p).toNat ≤ v := by
  obtain ⟨mv, pv, ev, hpv, hmv, _⟩ := DV.near hv
  have hn : FloatKind.nearest .f64 (v : Int) = FloatKind.f64.encode (.number false v 0) := by
    unfold FloatKind.nearest
    rw [decide_eq_false (show ¬ (v : Int) < 0 by omega), Int.natAbs_natCast]
  have hmul : fbin .mul (FloatKind.nearest .f64 (v : Int)) b = some (Ieee.double.nearest false (mv * mb) (pv + pb)) := by
    change ((Ieee.double.read (FloatKind.nearest .f64 (v : Int))).product (Ieee.double.read b)).map Ieee.double.write = _
    have h1 : Ieee.double.read (FloatKind.nearest .f64 (v : Int)) = .number false mv pv := by rw [hn]; exact ev
    have h2 : Ieee.double.read b = .number false mb pb := hb.dec
    rw [h1, h2]
    rfl
  rcases Nat.eq_zero_or_pos v with h0 | h0
  · subst h0
    have : mv = 0 := by rw [hmv, Nat.zero_mul]
    subst this
    have hz : Ieee.double.nearest false (0 * mb) (pv + pb) = 0 := by
      unfold Ieee.Format.nearest
      rw [Nat.zero_mul, if_pos rfl]
      rfl
    rw [hz] at hmul
    refine ⟨0, 0, -1074, hmul, by omega, rfl, by omega, ?_⟩
    · rw [nearE_zero (by rw [Nat.mul_zero]; exact Nat.two_pow_pos _)]
      omega
  obtain ⟨k, ek⟩ : ∃ k, (-pv).toNat = k := ⟨_, rfl⟩
  obtain ⟨j, ej⟩ : ∃ j, (-pb).toNat = j := ⟨_, rfl⟩
  have hlt := hb.lt
  have hpos := hb.pos
  have hneg := hb.neg
  rw [ej] at hlt
  rw [ek] at hmv
  obtain ⟨M, eM⟩ : ∃ M, mv * mb = M := ⟨_, rfl⟩
  rw [eM] at hmul
  have hmv0 : 0 < mv := by rw [hmv]; exact Nat.mul_pos h0 (Nat.two_pow_pos k)
  have hM0 : M ≠ 0 := by
    have := Nat.mul_pos hmv0 hpos
    omega
  have hMle : M ≤ v * 2 ^ (k + j) := by
    rw [← eM, hmv, Nat.pow_add, ← Nat.mul_assoc]
    exact Nat.mul_le_mul_left _ (by omega)
  have hlog : M.log2 ≤ 20 + (k + j) := by
    have h1 := Nat.log2_self_le hM0
    apply Decidable.byContradiction
    intro h
    have h2 : 2 ^ (21 + (k + j)) ≤ 2 ^ M.log2 := Nat.pow_le_pow_right (by omega) (by omega)
    rw [Nat.pow_add] at h2
    have h3 : v * 2 ^ (k + j) ≤ 1048576 * 2 ^ (k + j) := Nat.mul_le_mul_right _ hv
    have h4 : 0 < 2 ^ (k + j) := Nat.two_pow_pos _
    generalize 2 ^ (k + j) = y at *
    omega
  obtain ⟨K, m', last, p', el, eK, er, g1, g2, g3, g4⟩ := nearest_read (m := M) (p := pv + pb) hM0 (by omega)
  refine ⟨_, m', p', hmul, g4, er, by omega, ?_⟩
  apply nearE_le
  have hK : K ≤ v * 2 ^ (-last).toNat := by
    rw [eK]
    apply nearE_le
    by_cases c : last ≤ pv + pb
    · have e1 : (last - (pv + pb)).toNat = 0 := by omega
      rw [e1, Nat.pow_zero, Nat.mul_one]
      have := Nat.mul_le_mul_right (2 ^ (pv + pb - last).toNat) hMle
      rw [Nat.mul_assoc, ← Nat.pow_add, show k + j + (pv + pb - last).toNat = (-last).toNat by omega] at this
      exact this
    · have e1 : (pv + pb - last).toNat = 0 := by omega
      rw [e1, Nat.pow_zero, Nat.mul_one, Nat.mul_assoc, ← Nat.pow_add, show (-last).toNat + (last - (pv + pb)).toNat = k + j by omega]
      exact hMle
  by_cases c : p' = last
  · rw [c, show (last - last).toNat = 0 by omega, Nat.pow_zero, Nat.mul_one] at g3
    rw [g3, c]
    exact hK
  · rw [show (p' - last).toNat = 1 by omega, Nat.pow_one] at g3
    have e1 : (-last).toNat = (-p').toNat + 1 := by omega
    rw [e1, Nat.pow_succ, ← Nat.mul_assoc, ← g3] at hK
    exact Nat.le_of_mul_le_mul_right hK (by omega)

theorem ref_Kind_fin (N : Nat) {x E : Nat} (hs : bitsI .and .u64 (shrI .u64 (x : Int) 52) 2047 = (E : Int)) (hE : E ≠ 2047) : ∃ k b, F_lodgeref3_Kind N x = some (k, (b, ())) ∧ 3 ≤ k := by
  unfold F_lodgeref3_Kind
  simp only [hs]
  by_cases h0 : (E : Int) = 0
  · by_cases h1 : shlI .u64 (x : Int) 12 = 0
    · exact ⟨_, _, cF (by omega) (cF (by omega) (cT h0 (cT h1 rfl))), by omega⟩
    · exact ⟨_, _, cF (by omega) (cF (by omega) (cT h0 (cF h1 (cT h0 rfl)))), by omega⟩
  · exact ⟨_, _, cF (by omega) (cF (by omega) (cF h0 (cF h0 rfl))), by omega⟩

theorem ref_Kind_inf (N : Nat) {x : Nat} (hs : bitsI .and .u64 (shrI .u64 (x : Int) 52) 2047 = 2047) : ∃ k b, F_lodgeref3_Kind N x = some (k, (b, ())) ∧ k < 3 := by
  unfold F_lodgeref3_Kind
  simp only [hs]
  by_cases h1 : shlI .u64 (x : Int) 12 = 0
  · exact ⟨_, _, cT (by first | rfl | exact True.intro) (cF (fun h => h h1) (cT (by first | rfl | exact True.intro) rfl)), by omega⟩
  · exact ⟨_, _, cT (by first | rfl | exact True.intro) (cT h1 rfl), by omega⟩

theorem exp_bits {x : Nat} (hx : x < 2 ^ 64) : bitsI .and .u64 (shrI .u64 (x : Int) 52) 2047 = ((x / 4503599627370496 % 2048 : Nat) : Int) := by
  have h1 := shr_nat (a := x) (k := 52) (by omega)
  rw [show ((52 : Nat) : Int) = 52 from rfl] at h1
  rw [h1]
  have h2 := and_mask (a := x / 2 ^ 52) (k := 11) (by omega) (by omega)
  exact h2

theorem ref_Whole_dv (N : Nat) {x m : Nat} {p : Int} (hx : x < 2047 * 4503599627370496) (e : FloatKind.f64.decode x = .number false m p) (hp : p < 0) (hw : nearE m (-p).toNat ≤ 1048576) : F_lodgeref3_Whole N x 0 1048576 = some ((nearE m (-p).toNat : Int), ()) := by
  obtain ⟨r, hr, hd⟩ := ref_Round_dv N hx e hp hw
  obtain ⟨k, b, hk, hk3⟩ := ref_Kind_fin N (exp_bits (x := x) (by omega)) (by omega)
  have hnan : F_lodgeref3_nan N x = some (false, ()) := by
    unfold F_lodgeref3_nan
    rw [hk]
    simp only [Option.bind_some]
    rw [decide_eq_false (by omega)]
  unfold F_lodgeref3_Whole
  refine cF (by omega) (bnd _ hnan (bF rfl (bnd _ hr (bF (by rw [hd.above dec_n9 (by omega) (by omega)]; rfl) (bF (by rw [hd.below dec_9 (by omega) (by omega)]; rfl) (bT hd.ok ?_))))))
  dsimp only
  rw [hd.ftoi]
  have hcut : F_lodgeref3_Cut N ((nearE m (-p).toNat : Nat) : Int) 0 1048576 = some (((nearE m (-p).toNat : Nat) : Int), ()) := by
    unfold F_lodgeref3_Cut
    exact cF (by omega) (cF (by omega) rfl)
  exact bnd _ hcut rfl

def stepF (b v : Nat) : Nat := match FloatKind.f64.decode ((fbin .mul (FloatKind.nearest .f64 (v : Int)) b).getD 0) with
  | .number _ m p => nearE m (-p).toNat
  | _ => 0

def seqF (b : Nat) : Nat → Nat
  | 0 => 1048576
  | i + 1 => stepF b (seqF b i)

theorem step_all {b mb : Nat} {pb : Int} (hb : ByOK b mb pb) {v : Nat} (hv : v ≤ 1048576) (N : Nat) : (fbin .mul (FloatKind.nearest .f64 (v : Int)) b).isSome = true ∧ stepF b v ≤ v ∧
    F_flt_Whole N ((fbin .mul (FloatKind.nearest .f64 (v : Int)) b).getD 0) 0 1048576 = some ((stepF b v : Int), ()) ∧ F_lodgeref3_Whole N ((fbin .mul (FloatKind.nearest .f64 (v : Int)) b).getD 0) 0 1048576 = some ((stepF b v : Int), ()) := by
  obtain ⟨x, m, p, h1, h2, h3, h4, h5⟩ := step_dv hb hv
  unfold stepF
  rw [h1]
  simp only [Option.getD_some, h3]
  refine ⟨rfl, h5, flt_Whole_dv N ?_ (evenF_dv h3 (by omega) (by omega)), ref_Whole_dv N h2 h3 h4 (by omega)⟩
  intro s t e
  rw [h3] at e
  cases e

theorem seq_le {b mb : Nat} {pb : Int} (hb : ByOK b mb pb) : ∀ i, seqF b i ≤ 1048576
  | 0 => by unfold seqF; omega
  | i + 1 => by
    have := seq_le hb i
    have h := (step_all hb this 0).2.1
    rw [seqF]
    omega

theorem seq_step {b mb : Nat} {pb : Int} (hb : ByOK b mb pb) (i : Nat) : seqF b (i + 1) ≤ seqF b i := (step_all hb (seq_le hb i) 0).2.1

theorem loop_TableS (N : Nat) {b mb : Nat} {pb : Int} (hb : ByOK b mb pb) (t : List Int × (Bool × (List Int × Unit))) : ∀ (cnt i : Nat), i ≤ 256 → 256 < cnt + i →
    g_soft_Table_0 N cnt b t (boxT [256] true ((List.range i).map fun k => (seqF b k : Int))) (seqF b i) i = some (t, (boxT [256] true ((List.range 256).map fun k => (seqF b k : Int)), ()))
  | 0, i, h1, h2 => by omega
  | cnt + 1, i, h1, h2 => by
    rw [g_soft_Table_0]
    by_cases hi : i < 256
    · obtain ⟨a1, a2, a3, _⟩ := step_all hb (seq_le hb i) N
      have e : List.take (List.length ((List.range i).map fun k => (seqF b k : Int))) ((List.range i).map fun k => (seqF b k : Int)) ++ [(seqF b i : Int)] = (List.range (i + 1)).map fun k => (seqF b k : Int) := by
        rw [List.take_length, List.range_succ, List.map_append]
        rfl
      refine cT (by omega) (cT (by omega) (cT (by simp [most]; omega) (bT a1 (bnd _ a3 ?_))))
      (repeat first | refine cT rfl ?_ | refine cT True.intro ?_)
      dsimp only
      rw [e]
      refine cT (by simp) ?_
      rw [wi64_succ (by omega)]
      exact loop_TableS N hb t cnt (i + 1) hi (by omega)
    · have : i = 256 := by omega
      subst this
      refine cF (by omega) ?_
      (repeat first | refine cT rfl ?_ | refine cT True.intro ?_)
      rfl

theorem set_uptoS (M i : Nat) (f g : Nat → Int) : ((List.range M).map fun p => if p < i then f p else g p).set i (f i) = (List.range M).map fun p => if p < i + 1 then f p else g p := by
  apply List.ext_getElem (by simp)
  intro k h1 h2
  simp only [List.getElem_set, List.getElem_map, List.getElem_range]
  by_cases hk : i = k
  · subst hk; simp
  · rw [if_neg hk]
    by_cases h : k < i
    · rw [if_pos h, if_pos (by omega)]
    · rw [if_neg h, if_neg (by omega)]

theorem loop_TableR (N : Nat) {b mb : Nat} {pb : Int} (hb : ByOK b mb pb) (t : List Int × (Bool × (List Int × Unit))) : ∀ (cnt i : Nat), i ≤ 255 → 255 < cnt + i →
    g_lodgeref3_Table_0 N cnt b t (boxT [256] true ((List.range 256).map fun k => if k < i + 1 then (seqF b k : Int) else 0)) i = some (t, (boxT [256] true ((List.range 256).map fun k => if k < 256 then (seqF b k : Int) else 0), ()))
  | 0, i, h1, h2 => by omega
  | cnt + 1, i, h1, h2 => by
    rw [g_lodgeref3_Table_0]
    by_cases hi : i < 255
    · obtain ⟨a1, a2, _, a4⟩ := step_all hb (seq_le hb i) N
      have hlen : ((List.range 256).map fun k => if k < i + 1 then (seqF b k : Int) else 0).length = 256 := by rw [List.length_map, List.length_range]
      have eg : ((List.range 256).map fun k => if k < i + 1 then (seqF b k : Int) else 0).getD i 0 = (seqF b i : Int) := by
        rw [getD_lt (by rw [hlen]; omega), List.getElem_map, List.getElem_range, if_pos (by omega)]
      have es : wi64 ((i : Int) + 1) = ((i + 1 : Nat) : Int) := wi64_succ (by omega)
      simp only [es, Int.toNat_natCast, Nat.zero_add, eg, hlen]
      refine cT (by omega) (cT (Int.natCast_nonneg _) (cT (by omega) (cT (by omega) (bT a1 (bnd _ a4 (cT (Int.natCast_nonneg _) (cT (by omega) (cT (by omega) ?_))))))))
      (repeat first | refine cT rfl ?_ | refine cT True.intro ?_)
      dsimp only
      have := set_uptoS 256 (i + 1) (fun k => (seqF b k : Int)) (fun _ => 0)
      refine cT (by rw [List.length_set, hlen]) ?_
      have e2 : ((stepF b (seqF b i) : Nat) : Int) = (seqF b (i + 1) : Int) := rfl
      rw [e2, this]
      exact loop_TableR N hb t cnt (i + 1) (by omega) (by omega)
    · have : i = 255 := by omega
      subst this
      refine cF (by omega) ?_
      (repeat first | refine cT rfl ?_ | refine cT True.intro ?_)
      rfl

theorem loop_SoftTables (N : Nat) {b mb : Nat} {pb : Int} (hb : ByOK b mb pb) (ok : Bool) (sh : List Int) (w : Bool) : ∀ (cnt i : Nat), 1 ≤ i → i ≤ 256 → 256 < cnt + i →
    g_lodgelaw11_SoftTables_0 N cnt ok (boxT sh w ((List.range 256).map fun k => (seqF b k : Int))) i = some (.inl (ok, ()))
  | 0, i, h0, h1, h2 => by omega
  | cnt + 1, i, h0, h1, h2 => by
    rw [g_lodgelaw11_SoftTables_0]
    by_cases hi : i < 256
    · have hlen : ((List.range 256).map fun k => (seqF b k : Int)).length = 256 := by rw [List.length_map, List.length_range]
      have eg : ∀ k, k < 256 → ((List.range 256).map fun k => (seqF b k : Int)).getD k 0 = (seqF b k : Int) := by
        intro k hk
        rw [getD_lt (by rw [hlen]; omega), List.getElem_map, List.getElem_range]
      have es : wi64 ((i : Int) - 1) = ((i - 1 : Nat) : Int) := by rw [wi64_in (by omega) (by omega)]; omega
      have hst := seq_step hb (i - 1)
      rw [show i - 1 + 1 = i by omega] at hst
      simp only [es, Int.toNat_natCast, Nat.zero_add, eg i hi, eg (i - 1) (by omega), hlen]
      refine cT (by omega) (cT (Int.natCast_nonneg _) (cT hi (cT hi (cT (Int.natCast_nonneg _) (cT (by omega) (cT (by omega) (cF (by omega) (cT (Int.natCast_nonneg _) (cT hi (cT hi (cF (by omega) ?_)))))))))))
      (repeat first | refine cT rfl ?_ | refine cT True.intro ?_)
      rw [wi64_succ (by omega)]
      exact loop_SoftTables N hb ok sh w cnt (i + 1) (by omega) (by omega) (by omega)
    · exact cF (by omega) rfl

end Go.Proofs.YtohkmbpdjigjdaaDoor.Lg
