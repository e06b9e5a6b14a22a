/-
  What the program's functions come to, in plain words.
-/
import Derived.Test.YtnblnlanicpagaaDoorLgOpAF
import Derived.Test.YtnblnlanicpagaaDoorLgLaw
namespace Go.Proofs.YtnblnlanicpagaaDoor.Lg
open Go Go.Eng Go.Proofs

abbrev D := List Int × Bool

abbrev T := D × List Int

def badDim (k : Int) : Bool := decide (k < 1) || decide (256 < k)

def overs : Int → List Int → Bool
  | _, [] => false
  | n, k :: r => decide (16384 < n * k) || overs (n * k) r

/-- what is amiss with what a tensor looks like -/
def shapeV (sh : List Int) : Er :=
  if 4 < sh.length then .s ErrMany else if sh.any badDim then .s ErrRange else if overs 1 sh then .s ErrMany else .nil

theorem loop_Valid_0 (N : Nat) (d : D × Unit) (m : Int) (l : List Int) (hl : l.length < 1000) : ∀ (n i : Nat), i ≤ l.length → l.length < n + i →
    g_shape_Valid_0 N n d m l l.length i = if (l.drop i).any badDim then some (.inr (.s ErrRange, ())) else some (.inl (d, (m, ())))
  | 0, i, h, h' => by omega
  | n + 1, i, h, h' => by
    rw [g_shape_Valid_0]
    simp only [cond_dec, Int.ofNat_lt, Int.toNat_natCast, Int.natCast_nonneg, if_true]
    by_cases hi : i < l.length
    · rw [if_pos hi, if_pos hi, wi64_succ (by omega), drop_cons hi 0, List.any_cons]
      rw [loop_Valid_0 N d m l hl n (i + 1) hi (by omega)]
      by_cases h1 : l.getD i 0 < 1
      · simp only [badDim, h1, decide_true, Bool.true_or, if_true]
      · by_cases h2 : 256 < l.getD i 0
        · simp only [badDim, h1, h2, decide_true, decide_false, Bool.or_true, Bool.true_or, if_true, if_false]
        · simp only [badDim, h1, h2, decide_false, Bool.or_self, Bool.false_or, if_false]
    · rw [if_neg hi, List.drop_eq_nil_of_le (by omega)]
      rfl

theorem loop_Valid_1 (N : Nat) (l : List Int) (hl : l.length < 1000) (hb : l.any badDim = false) : ∀ (n i : Nat) (m : Int), 1 ≤ m → m ≤ 16384 → i ≤ l.length → l.length < n + i →
    g_shape_Valid_1 N n m l l.length i = if overs m (l.drop i) then some (.inr (.s ErrMany, ())) else some (.inl ())
  | 0, i, m, _, _, h, h' => by omega
  | n + 1, i, m, hm, hm', h, h' => by
    rw [g_shape_Valid_1]
    simp only [cond_dec, Int.ofNat_lt, Int.toNat_natCast, Int.natCast_nonneg, if_true]
    by_cases hi : i < l.length
    · have hk : badDim (l.getD i 0) = false := by
        rw [getD_lt hi]
        rw [List.any_eq_false] at hb
        simpa using hb _ (List.getElem_mem hi)
      obtain ⟨k, hk0⟩ : ∃ k, k = l.getD i 0 := ⟨_, rfl⟩
      rw [← hk0] at hk
      simp only [badDim, Bool.or_eq_false_iff, decide_eq_false_iff_not] at hk
      have h1 : 1 ≤ m * k := by
        have := Int.mul_le_mul hm (show 1 ≤ k by omega) (by omega) (by omega)
        omega
      have h2 : m * k ≤ 16384 * 256 := Int.mul_le_mul hm' (by omega) (by omega) (by omega)
      rw [if_pos hi, if_pos hi, wi64_succ (by omega), drop_cons hi 0, overs, ← hk0, wi64_in (n := m * k) (by omega) (by omega)]
      by_cases h3 : 16384 < m * k
      · simp [h3]
      · rw [if_neg h3, loop_Valid_1 N l hl hb n (i + 1) (m * k) h1 (by omega) hi (by omega)]
        simp [h3]
    · rw [if_neg hi, List.drop_eq_nil_of_le (by omega)]
      rfl

theorem shape_Valid_spec {N : Nat} (hN : 20000 ≤ N) (d : D) : F_shape_Valid N d = some (shapeV d.1, ()) := by
  unfold F_shape_Valid shapeV
  simp only [cond_dec]
  by_cases h4 : 4 < d.1.length
  · rw [if_pos (by omega), if_pos h4]
  · rw [if_neg (by omega), if_neg h4]
    have h0 := loop_Valid_0 N (d, ()) 1 d.1 (by omega) N 0 (by omega) (by omega)
    rw [show ((0 : Nat) : Int) = 0 from rfl] at h0
    rw [h0, List.drop_zero]
    cases hb : d.1.any badDim with
    | true => rfl
    | false =>
      have h1 := loop_Valid_1 N d.1 (by omega) hb N 0 1 (by omega) (by omega) (by omega) (by omega)
      rw [show ((0 : Nat) : Int) = 0 from rfl, List.drop_zero] at h1
      simp only [Bool.false_eq_true, if_false, Option.bind_some, Sum.elim_inl]
      rw [h1]
      cases overs 1 d.1 <;> rfl

theorem shapeV_nil {sh : List Int} : shapeV sh = .nil ↔ sh.length ≤ 4 ∧ sh.any badDim = false ∧ overs 1 sh = false := by
  unfold shapeV
  by_cases h4 : 4 < sh.length
  · rw [if_pos h4]
    constructor
    · intro h; cases h
    · intro h; omega
  · rw [if_neg h4]
    cases hb : sh.any badDim <;> cases ho : overs 1 sh <;> simp <;> omega

/-- how many elements there are -/
def elems (sh : List Int) : Int := if (shapeV sh).isNil then sh.foldl (· * ·) 1 else 0

theorem shape_fair_spec {N : Nat} (hN : 20000 ≤ N) (sh : List Int) : F_shape_fair N sh = some ((shapeV sh).isNil, ()) := by
  unfold F_shape_fair
  rw [shape_Valid_spec hN]
  rfl

theorem loop_Elems (N : Nat) (l : List Int) (hl : l.length < 1000) (hb : l.any badDim = false) : ∀ (n i : Nat) (m : Int), 1 ≤ m → m ≤ 16384 → overs m (l.drop i) = false → i ≤ l.length → l.length < n + i →
    g_shape_Elems_0 N n m l l.length i = some ((l.drop i).foldl (· * ·) m, ())
  | 0, i, m, _, _, _, h, h' => by omega
  | n + 1, i, m, hm, hm', ho, h, h' => by
    rw [g_shape_Elems_0]
    simp only [cond_dec, Int.ofNat_lt, Int.toNat_natCast, Int.natCast_nonneg, if_true]
    by_cases hi : i < l.length
    · have hk : badDim (l.getD i 0) = false := by
        rw [getD_lt hi]
        rw [List.any_eq_false] at hb
        simpa using hb _ (List.getElem_mem hi)
      rw [drop_cons hi 0] at ho
      obtain ⟨k, hk0⟩ : ∃ k, k = l.getD i 0 := ⟨_, rfl⟩
      rw [← hk0] at hk ho
      simp only [badDim, Bool.or_eq_false_iff, decide_eq_false_iff_not] at hk
      simp only [overs, Bool.or_eq_false_iff, decide_eq_false_iff_not] at ho
      have h1 : 1 ≤ m * k := by
        have := Int.mul_le_mul hm (show 1 ≤ k by omega) (by omega) (by omega)
        omega
      rw [if_pos hi, if_pos hi, wi64_succ (by omega), drop_cons hi 0, ← hk0, wi64_in (n := m * k) (by omega) (by omega)]
      rw [loop_Elems N l hl hb n (i + 1) (m * k) h1 (by omega) ho.2 hi (by omega)]
      rfl
    · rw [if_neg hi, List.drop_eq_nil_of_le (by omega)]
      rfl

theorem shape_Elems_spec {N : Nat} (hN : 20000 ≤ N) (sh : List Int) : F_shape_Elems N sh = some (elems sh, ()) := by
  unfold F_shape_Elems elems
  rw [shape_fair_spec hN]
  simp only [Option.bind_some]
  cases h : (shapeV sh).isNil with
  | false => rfl
  | true =>
    obtain ⟨h1, h2, h3⟩ := shapeV_nil.1 ((isNil_iff _).1 h)
    have := loop_Elems N sh (by omega) h2 N 0 1 (by omega) (by omega) h3 (by omega) (by omega)
    rw [show ((0 : Nat) : Int) = 0 from rfl, List.drop_zero] at this
    simp only [Bool.not_true, cond_false, if_true]
    rw [this]
    rfl

theorem overs_bound : ∀ (l : List Int) (m : Int), 1 ≤ m → m ≤ 16384 → l.any badDim = false → overs m l = false → 1 ≤ l.foldl (· * ·) m ∧ l.foldl (· * ·) m ≤ 16384
  | [], m, h, h', _, _ => ⟨h, h'⟩
  | k :: r, m, h, h', hb, ho => by
    simp only [List.any_cons, Bool.or_eq_false_iff] at hb
    simp only [badDim, Bool.or_eq_false_iff, decide_eq_false_iff_not] at hb
    simp only [overs, Bool.or_eq_false_iff, decide_eq_false_iff_not] at ho
    have h1 : 1 ≤ m * k := by
      have := Int.mul_le_mul h (show 1 ≤ k by omega) (by omega) (by omega)
      omega
    exact overs_bound r (m * k) h1 (by omega) hb.2 ho.2

theorem elems_bound (sh : List Int) : 0 ≤ elems sh ∧ elems sh ≤ 16384 := by
  unfold elems
  split
  · rename_i h
    obtain ⟨h1, h2, h3⟩ := shapeV_nil.1 ((isNil_iff _).1 h)
    have := overs_bound sh 1 (by omega) (by omega) h2 h3
    omega
  · omega

/-- is a number one of a kind? -/
def fitsB (wide : Bool) (n : Int) : Bool := if wide then decide (-2147483648 ≤ n) && decide (n ≤ 2147483647) else decide (-128 ≤ n) && decide (n ≤ 127)

theorem tens_fits_spec (N : Nat) (n : Int) (w : Bool) : F_tens_fits N n w = some (fitsB w n, ()) := by
  unfold F_tens_fits fitsB
  cases w
  · simp only [cond_false]
    by_cases h : (-128 : Int) ≤ n <;> simp [h]
  · simp only [cond_true]
    by_cases h : (-2147483648 : Int) ≤ n <;> simp [h]

/-- what is amiss with a tensor -/
def tensV (t : T) : Er :=
  if (shapeV t.1.1).isNil then
    if (t.2.length : Int) = elems t.1.1 then
      match t.2.findIdx? (fun n => !fitsB t.1.2 n) with
      | some i => .at i ErrRange
      | none => .nil
    else .s ErrShape
  else shapeV t.1.1

theorem loop_tens_Valid (N : Nat) (t : T) (l : List Int) (hl : l.length < 1000000) : ∀ (n i : Nat), i ≤ l.length → l.length < n + i →
    g_tens_Valid_0 N n (t, ()) l l.length i = match (l.drop i).findIdx? (fun n => !fitsB t.1.2 n) with
      | some j => some (.inr (.at ((i + j : Nat) : Int) ErrRange, ()))
      | none => some (.inl ())
  | 0, i, h, h' => by omega
  | n + 1, i, h, h' => by
    rw [g_tens_Valid_0]
    simp only [cond_dec, Int.ofNat_lt, Int.toNat_natCast, Int.natCast_nonneg, if_true, tens_fits_spec, Option.bind_some]
    by_cases hi : i < l.length
    · rw [if_pos hi, if_pos hi, drop_cons hi 0, List.findIdx?_cons, wi64_succ (by omega)]
      cases hf : fitsB t.1.2 (l.getD i 0) with
      | false => simp
      | true =>
        simp only [Bool.not_true, cond_false, Bool.false_eq_true, if_false]
        rw [loop_tens_Valid N t l hl n (i + 1) hi (by omega)]
        cases (l.drop (i + 1)).findIdx? (fun n => !fitsB t.1.2 n) with
        | none => rfl
        | some j => simp only [Option.map_some]; rw [show i + 1 + j = i + (j + 1) from by omega]
    · rw [if_neg hi, List.drop_eq_nil_of_le (by omega)]
      rfl

theorem tens_Valid_spec {N : Nat} (hN : 20000 ≤ N) (t : T) : F_tens_Valid N t = some (tensV t, ()) := by
  unfold F_tens_Valid tensV
  rw [shape_Valid_spec hN, shape_Elems_spec hN]
  simp only [Option.bind_some]
  cases h : (shapeV t.1.1).isNil with
  | false => simp
  | true =>
    have hb := elems_bound t.1.1
    simp only [Bool.not_true, cond_false, cond_dec, if_true]
    by_cases he : (t.2.length : Int) = elems t.1.1
    · rw [if_neg (by simpa using he), if_pos he]
      have := loop_tens_Valid N t t.2 (by omega) N 0 (by omega) (by omega)
      rw [show ((0 : Nat) : Int) = 0 from rfl, List.drop_zero] at this
      rw [this]
      cases t.2.findIdx? (fun n => !fitsB t.1.2 n) with
      | none => rfl
      | some j => simp
    · rw [if_pos (by simpa using he), if_neg he]

def narrowB (n : Int) : Bool := decide (-128 ≤ n) && decide (n ≤ 127)

theorem tens_Narrow_spec (N : Nat) (n : Int) : F_tens_Narrow N n = some (max (-128) (min n 127), ()) := by
  unfold F_tens_Narrow imax imin
  congr 2
  split <;> split <;> omega

def noD : D := ([], false)

def noT : T := (noD, [])

theorem tens_Wide_spec (N : Nat) (n : Int) : F_tens_Wide N n = some (round32 n, ()) := by
  unfold F_tens_Wide
  rw [wide_chain]

abbrev boxT (l : List Int) (w : Bool) (d : List Int) : List Int × (Bool × (List Int × Unit)) := (l, (w, (d, ())))

theorem lodgeworld_Number_spec (N : Nat) (n b : Int) (h : 0 < b) (h' : b ≤ 1099511627776) : F_lodgeworld_Number N n b = some (n % b, ()) := by
  unfold F_lodgeworld_Number
  have := tmod_lt (n := n) h
  simp only [cond_dec]
  rw [if_pos (by omega), if_pos (by omega), wi64_in (by omega) (by omega), tmod_below h]

theorem loop_Ints (N : Nat) (l : List Int) (hl : l.length < 1000000) : ∀ (n i : Nat), i ≤ l.length → l.length < n + i →
    g_lodgeref_Ints_0 N n l (l.take i) i = some (l, ())
  | 0, i, h, h' => by omega
  | n + 1, i, h, h' => by
    rw [g_lodgeref_Ints_0]
    simp only [cond_dec, Int.ofNat_lt, Int.toNat_natCast, Int.natCast_nonneg, if_true, Nat.zero_add, List.length_append, List.length_cons, List.length_nil, List.length_take, Nat.min_eq_left h, Nat.min_self]
    by_cases hi : i < l.length
    · rw [if_pos hi, if_pos hi, if_pos (by unfold most; omega), wi64_succ (by omega), List.take_of_length_le (by simp; omega)]
      have : List.take i l ++ [l.getD i 0] = List.take (i + 1) l := by rw [getD_lt hi]; simp
      rw [this]
      exact loop_Ints N l hl n (i + 1) hi (by omega)
    · rw [if_neg hi, List.take_of_length_le (by omega)]

theorem lodgeref_Ints_spec {N : Nat} (l : List Int) (hl : l.length < 1000000) (hN : l.length < N) : F_lodgeref_Ints N l = some (l, ()) := by
  unfold F_lodgeref_Ints
  have h0 := loop_Ints N l hl N 0 (by omega) (by omega)
  rw [show ((0 : Nat) : Int) = 0 from rfl, List.take_zero] at h0
  simp only [cond_dec, List.replicate_zero]
  rw [if_pos (by unfold most; omega), h0]
  simp

theorem loop_SameInts (N : Nat) (a b : List Int) (ha : a.length = b.length) (hl : a.length < 1000000) : ∀ (n i : Nat), i ≤ a.length → a.length < n + i → a.take i = b.take i →
    g_lodgeref_SameInts_0 N n a b i = if a = b then some (.inl ()) else some (.inr (false, ()))
  | 0, i, h, h', _ => by omega
  | n + 1, i, h, h', ht => by
    rw [g_lodgeref_SameInts_0]
    simp only [cond_dec, Int.ofNat_lt, Int.toNat_natCast, Int.natCast_nonneg, if_true]
    by_cases hi : i < a.length
    · rw [if_pos hi, if_pos hi, if_pos (by omega), wi64_succ (by omega)]
      by_cases he : a.getD i 0 = b.getD i 0
      · simp only [he, decide_true, Bool.not_true, cond_false]
        refine loop_SameInts N a b ha hl n (i + 1) hi (by omega) ?_
        rw [List.take_succ_eq_append_getElem hi, List.take_succ_eq_append_getElem (by omega), ht]
        rw [getD_lt hi, getD_lt (by omega)] at he
        rw [he]
      · have : a ≠ b := fun e => he (by rw [e])
        rw [if_neg this]
        simp only [he, decide_false, Bool.not_false, cond_true]
    · rw [if_neg hi]
      have : a = b := by
        rw [List.take_of_length_le (by omega), List.take_of_length_le (by omega)] at ht
        exact ht
      rw [if_pos this]

theorem lodgeref_SameInts_spec {N : Nat} (a b : List Int) (hl : a.length < 1000000) (hN : a.length < N) : F_lodgeref_SameInts N a b = some (decide (a = b), ()) := by
  unfold F_lodgeref_SameInts
  simp only [cond_dec]
  by_cases h : a.length = b.length
  · rw [if_neg (by omega)]
    have := loop_SameInts N a b h hl N 0 (by omega) (by omega) (by simp)
    rw [show ((0 : Nat) : Int) = 0 from rfl] at this
    rw [this]
    by_cases e : a = b <;> simp [e]
  · rw [if_pos (by omega)]
    have : a ≠ b := fun e => h (by rw [e])
    simp [this]

theorem getD_in {d : List Int} (hf : ∀ x, x ∈ d → -128 ≤ x ∧ x ≤ 127) (p : Nat) : -128 ≤ d.getD p 0 ∧ d.getD p 0 ≤ 127 := by
  rcases Nat.lt_or_ge p d.length with h | h
  · rw [getD_lt h]; exact hf _ (List.getElem_mem h)
  · rw [List.getD_eq_getElem?_getD, List.getElem?_eq_none h]; simp

theorem mod_nat (n : Int) (b : Nat) (hb : 0 < b) : ∃ M : Nat, M < b ∧ n % (b : Int) = (M : Int) := by
  have h1 := Int.emod_nonneg n (show (b : Int) ≠ 0 by omega)
  have h2 := Int.emod_lt_of_pos n (show (0 : Int) < b by omega)
  exact ⟨(n % (b : Int)).toNat, by omega, by omega⟩

theorem take_app_one (l : List Int) (x : Int) : List.take (l.length + 1) (List.take l.length l ++ [x]) = l ++ [x] := by
  rw [List.take_length]
  exact List.take_of_length_le (by simp)

theorem Number_nat {N : Nat} (n : Int) (b : Nat) (hb : 0 < b) (hb' : b ≤ 1000) : ∃ M : Nat, M < b ∧ F_lodgeworld_Number N n (b : Int) = some ((M : Int), ()) := by
  obtain ⟨M, hM, e⟩ := mod_nat n b hb
  exact ⟨M, hM, by rw [lodgeworld_Number_spec N n b (by omega) (by omega), e]⟩

theorem loop_Equal (N : Nat) (a b : List Int) (ha : a.length = b.length) (hl : a.length < 1000000) : ∀ (n i : Nat), i ≤ a.length → a.length < n + i → a.take i = b.take i →
    g_slices_Equal_int_int_0 N n a b a.length i = if a = b then some (.inl ()) else some (.inr (false, ()))
  | 0, i, h, h', _ => by omega
  | n + 1, i, h, h', ht => by
    rw [g_slices_Equal_int_int_0]
    simp only [cond_dec, Int.ofNat_lt, Int.toNat_natCast, Int.natCast_nonneg, if_true]
    by_cases hi : i < a.length
    · rw [if_pos hi, if_pos hi, if_pos (by omega), wi64_succ (by omega)]
      by_cases he : a.getD i 0 = b.getD i 0
      · rw [if_neg (fun h => h he)]
        refine loop_Equal N a b ha hl n (i + 1) hi (by omega) ?_
        rw [List.take_succ_eq_append_getElem hi, List.take_succ_eq_append_getElem (by omega), ht]
        rw [getD_lt hi, getD_lt (by omega)] at he
        rw [he]
      · have : a ≠ b := fun e => he (by rw [e])
        rw [if_neg this, if_pos he]
    · rw [if_neg hi]
      have : a = b := by
        rw [List.take_of_length_le (by omega), List.take_of_length_le (by omega)] at ht
        exact ht
      rw [if_pos this]

theorem slices_Equal_spec {N : Nat} (a b : List Int) (hl : a.length < 1000000) (hN : a.length < N) : F_slices_Equal_int_int N a b = some (decide (a = b), ()) := by
  unfold F_slices_Equal_int_int
  simp only [cond_dec]
  by_cases h : a.length = b.length
  · rw [if_neg (by omega)]
    have := loop_Equal N a b h hl N 0 (by omega) (by omega) (by simp)
    rw [show ((0 : Nat) : Int) = 0 from rfl] at this
    rw [this]
    by_cases e : a = b <;> simp [e]
  · rw [if_pos (by omega)]
    have : a ≠ b := fun e => h (by rw [e])
    simp [this]

theorem wi64_tdiv (i m : Nat) (h : i ≤ 1099511627776) : wi64 (Int.tdiv (i : Int) (m : Int)) = ((i / m : Nat) : Int) := by
  rw [show Int.tdiv (i : Int) (m : Int) = ((i / m : Nat) : Int) from (Int.ofNat_tdiv i m).symm]
  have := Nat.div_le_self i m
  generalize i / m = q at *
  exact wi64_in (by omega) (by omega)

theorem sumN_congr {f g : Nat → Int} : ∀ {c : Nat}, (∀ x, x < c → f x = g x) → sumN f c = sumN g c
  | 0, _ => rfl
  | c + 1, h => by simp only [sumN]; rw [sumN_congr (fun x hx => h x (by omega)), h c (by omega)]

theorem round32_in {n : Int} (h : -2147483648 ≤ n ∧ n ≤ 2147483647) : round32 n = n := by
  unfold round32
  omega

theorem round32_range (n : Int) : -2147483648 ≤ round32 n ∧ round32 n ≤ 2147483647 := by
  unfold round32
  omega

/-! shapes of counts -/

def prodN : List Nat → Nat
  | [] => 1
  | n :: r => n * prodN r

theorem foldl_prodN : ∀ (ns : List Nat) (m : Nat), (ns.map (Nat.cast : Nat → Int)).foldl (· * ·) (m : Int) = ((m * prodN ns : Nat) : Int)
  | [], m => by simp [prodN]
  | n :: r, m => by
    rw [List.map_cons, List.foldl_cons, show (m : Int) * (n : Int) = ((m * n : Nat) : Int) by simp, foldl_prodN r (m * n), prodN, Nat.mul_assoc]

theorem shape_nat {sh : List Int} (h : shapeV sh = .nil) : ∃ ns : List Nat, sh = ns.map Nat.cast ∧ ns.length ≤ 4 ∧ (∀ n, n ∈ ns → 1 ≤ n ∧ n ≤ 256) ∧ 1 ≤ prodN ns ∧ prodN ns ≤ 16384 ∧ elems sh = ((prodN ns : Nat) : Int) := by
  obtain ⟨h1, h2, h3⟩ := shapeV_nil.1 h
  have key : ∀ sh : List Int, sh.any badDim = false → ∃ ns : List Nat, sh = ns.map Nat.cast ∧ ∀ n, n ∈ ns → 1 ≤ n ∧ n ≤ 256 := by
    intro sh
    induction sh with
    | nil => intro _; exact ⟨[], rfl, by simp⟩
    | cons k r ih =>
      intro hb
      simp only [List.any_cons, Bool.or_eq_false_iff] at hb
      obtain ⟨ns, e, hn⟩ := ih hb.2
      have hk := hb.1
      simp only [badDim, Bool.or_eq_false_iff, decide_eq_false_iff_not] at hk
      refine ⟨k.toNat :: ns, ?_, ?_⟩
      · rw [List.map_cons, ← e, show ((k.toNat : Nat) : Int) = k by omega]
      · intro n hn'
        rcases List.mem_cons.1 hn' with rfl | h
        · omega
        · exact hn n h
  obtain ⟨ns, e, hn⟩ := key sh h2
  have hb := overs_bound sh 1 (by omega) (by omega) h2 h3
  have hf : sh.foldl (· * ·) 1 = ((prodN ns : Nat) : Int) := by
    have := foldl_prodN ns 1
    rw [Nat.one_mul] at this
    rw [e]
    exact this
  rw [hf] at hb
  refine ⟨ns, e, by rw [e] at h1; simpa using h1, hn, by omega, by omega, ?_⟩
  unfold elems
  rw [h]
  exact hf

theorem shape_nat_two {sh : List Int} (h : shapeV sh = .nil) (hl : sh.length = 2) : ∃ m n : Nat, sh = [(m : Int), (n : Int)] ∧ (1 ≤ m ∧ m ≤ 256) ∧ (1 ≤ n ∧ n ≤ 256) ∧ m * n ≤ 16384 ∧ elems sh = ((m * n : Nat) : Int) := by
  obtain ⟨ns, e, _, hn, _, h5, h6⟩ := shape_nat h
  rw [e] at hl
  match ns, hl with
  | [m, n], _ =>
    simp only [prodN, Nat.mul_one] at h5 h6
    exact ⟨m, n, e, hn m (by simp), hn n (by simp), h5, h6⟩

theorem tensV_iff (t : T) : tensV t = .nil ↔ shapeV t.1.1 = .nil ∧ (t.2.length : Int) = elems t.1.1 ∧ ∀ x, x ∈ t.2 → fitsB t.1.2 x = true := by
  unfold tensV
  constructor
  · intro h
    split at h
    · rename_i h1
      split at h
      · rename_i h2
        refine ⟨(isNil_iff _).1 h1, h2, ?_⟩
        split at h
        · cases h
        · rename_i h3
          rw [List.findIdx?_eq_none_iff] at h3
          intro x hx
          simpa using h3 x hx
      · cases h
    · rename_i h1
      rw [h] at h1
      exact absurd rfl h1
  · rintro ⟨h1, h2, h3⟩
    have : t.2.findIdx? (fun n => !fitsB t.1.2 n) = none := by
      rw [List.findIdx?_eq_none_iff]
      intro x hx
      simp [h3 x hx]
    rw [h1, if_pos (show Er.nil.isNil = true from rfl), if_pos h2, this]

theorem fitsB_narrow {x : Int} : fitsB false x = true ↔ -128 ≤ x ∧ x ≤ 127 := by simp [fitsB]

theorem fitsB_wide {x : Int} : fitsB true x = true ↔ -2147483648 ≤ x ∧ x ≤ 2147483647 := by simp [fitsB]

theorem narrowB_iff {x : Int} : narrowB x = true ↔ -128 ≤ x ∧ x ≤ 127 := by simp [narrowB]

theorem shapeV_three {a b c : Nat} (ha : 1 ≤ a ∧ a ≤ 256) (hb : 1 ≤ b ∧ b ≤ 256) (hc : 1 ≤ c ∧ c ≤ 256) (h : a * b * c ≤ 16384) : shapeV [(a : Int), (b : Int), (c : Int)] = .nil := by
  rw [shapeV_nil]
  have e : (a : Int) * b = ((a * b : Nat) : Int) := by simp
  have e' : ((a * b : Nat) : Int) * c = ((a * b * c : Nat) : Int) := by simp
  have h1 : a * b ≤ a * b * c := Nat.le_mul_of_pos_right _ (by omega)
  refine ⟨by simp, ?_, ?_⟩
  · simp [badDim]; omega
  · simp only [overs, Int.one_mul, e, e', Bool.or_false, Bool.or_eq_false_iff, decide_eq_false_iff_not]
    generalize a * b * c = P at *
    generalize a * b = Q at *
    omega

theorem elems_three {a b c : Nat} (ha : 1 ≤ a ∧ a ≤ 256) (hb : 1 ≤ b ∧ b ≤ 256) (hc : 1 ≤ c ∧ c ≤ 256) (h : a * b * c ≤ 16384) : elems [(a : Int), (b : Int), (c : Int)] = ((a * b * c : Nat) : Int) := by
  unfold elems
  rw [shapeV_three ha hb hc h]
  simp [Er.isNil]

theorem shapeV_four {a b c d : Nat} (ha : 1 ≤ a ∧ a ≤ 256) (hb : 1 ≤ b ∧ b ≤ 256) (hc : 1 ≤ c ∧ c ≤ 256) (hd : 1 ≤ d ∧ d ≤ 256) (h : a * b * c * d ≤ 16384) : shapeV [(a : Int), (b : Int), (c : Int), (d : Int)] = .nil := by
  rw [shapeV_nil]
  have e : (a : Int) * b = ((a * b : Nat) : Int) := by simp
  have e' : ((a * b : Nat) : Int) * c = ((a * b * c : Nat) : Int) := by simp
  have e'' : ((a * b * c : Nat) : Int) * d = ((a * b * c * d : Nat) : Int) := by simp
  have h1 : a * b ≤ a * b * c := Nat.le_mul_of_pos_right _ (by omega)
  have h2 : a * b * c ≤ a * b * c * d := Nat.le_mul_of_pos_right _ (by omega)
  refine ⟨by simp, ?_, ?_⟩
  · simp [badDim]; omega
  · simp only [overs, Int.one_mul, e, e', e'', Bool.or_false, Bool.or_eq_false_iff, decide_eq_false_iff_not]
    generalize a * b * c * d = R at *
    generalize a * b * c = P at *
    generalize a * b = Q at *
    omega

theorem elems_four {a b c d : Nat} (ha : 1 ≤ a ∧ a ≤ 256) (hb : 1 ≤ b ∧ b ≤ 256) (hc : 1 ≤ c ∧ c ≤ 256) (hd : 1 ≤ d ∧ d ≤ 256) (h : a * b * c * d ≤ 16384) : elems [(a : Int), (b : Int), (c : Int), (d : Int)] = ((a * b * c * d : Nat) : Int) := by
  unfold elems
  rw [shapeV_four ha hb hc hd h]
  simp [Er.isNil]

theorem tensV_narrow {s d : List Int} {n : Nat} (hs : shapeV s = .nil) (he : elems s = (n : Int)) (hd : d.length = n) (hf : ∀ x, x ∈ d → -128 ≤ x ∧ x ≤ 127) : tensV ((s, false), d) = .nil := by
  unfold tensV
  rw [hs, he, hd]
  simp only [Er.isNil, if_true]
  have : d.findIdx? (fun n => !fitsB false n) = none := by
    rw [List.findIdx?_eq_none_iff]
    intro x hx
    have := hf x hx
    simp [fitsB, this]
  rw [this]

theorem slices_Clone_spec (N : Nat) (l : List Int) (hl : l.length < 1000000) : F_slices_Clone_int_int N l = some (l, ()) := by
  unfold F_slices_Clone_int_int
  refine cT (by simp [most]; omega) ?_
  refine cT (by simp) ?_
  rfl

theorem shape_Clone_spec (N : Nat) (d : D) (h : d.1.length < 1000000) : F_shape_Clone N d = some ((d.1, (d.2, ())), ()) := by
  unfold F_shape_Clone
  exact bnd _ (slices_Clone_spec N _ h) (cT rfl rfl)

theorem shape_Same_spec {N : Nat} (a b : D) (hl : a.1.length < 1000000) (hN : a.1.length < N) : F_shape_Same N a b = some (decide (a = b), ()) := by
  obtain ⟨a1, a2⟩ := a
  obtain ⟨b1, b2⟩ := b
  unfold F_shape_Same
  by_cases h2 : a2 = b2
  case neg => exact bF (by simpa using h2) (by simp [h2])
  refine bT (by simpa using h2) (bnd _ (slices_Equal_spec _ _ hl hN) ?_)
  simp [h2]

theorem mat_narrow_spec (N : Nat) (n : Int) : F_mat_narrow N n = some (narrowB n, ()) := by
  unfold F_mat_narrow narrowB
  rw [tens_Narrow_spec]
  simp only [Option.bind_some]
  congr 2
  rw [← Bool.decide_and]
  congr 1
  apply propext
  omega

theorem loop_mat_Result {N : Nat} (hN : 20000 ≤ N) (za zb : Int) (a b : D × Unit) (t : List Int × Bool × Unit) (l : List D) (hl : l.length < 1000000) : ∀ (n i : Nat), i ≤ l.length → l.length < n + i →
    g_mat_Result_0 N n za zb a b t l l.length i = match (l.drop i).find? (fun d => !(shapeV d.1).isNil) with
      | some d => some (.inr (([], (false, ())), (shapeV d.1, ())))
      | none => some (.inl (za, (zb, (a, (b, (t, ()))))))
  | 0, i, h, h' => by omega
  | n + 1, i, h, h' => by
    rw [g_mat_Result_0]
    simp only [cond_dec, Int.ofNat_lt, Int.toNat_natCast, Int.natCast_nonneg, if_true, Nat.zero_add, shape_Valid_spec hN, Option.bind_some]
    by_cases hi : i < l.length
    · rw [if_pos hi, if_pos hi, if_pos hi, drop_cons hi ([], false), List.find?_cons, wi64_succ (by omega)]
      cases hf : (shapeV (l.getD i ([], false)).1).isNil with
      | false => simp
      | true =>
        simp only [Bool.not_true, cond_false]
        exact loop_mat_Result hN za zb a b t l hl n (i + 1) hi (by omega)
    · rw [if_neg hi, List.drop_eq_nil_of_le (by omega)]
      rfl

/-- what a product looks like -/
def matRes (za zb : Int) (a b : D) : D × Er :=
  if !(shapeV a.1).isNil then (noD, shapeV a.1)
  else if !(shapeV b.1).isNil then (noD, shapeV b.1)
  else if a.1.length ≠ 2 ∨ b.1.length ≠ 2 ∨ a.1.getD 1 0 ≠ b.1.getD 0 0 ∨ a.2 = true ∨ b.2 = true then (noD, .s ErrShape)
  else if narrowB za = false ∨ narrowB zb = false then (noD, .s ErrRange)
  else if (shapeV [a.1.getD 0 0, b.1.getD 1 0]).isNil then (([a.1.getD 0 0, b.1.getD 1 0], true), .nil)
  else (noD, shapeV [a.1.getD 0 0, b.1.getD 1 0])

theorem mat_Result_spec {N : Nat} (hN : 20000 ≤ N) (za zb : Int) (a b : D) : F_mat_Result N za zb a b = some ((matRes za zb a b).1, ((matRes za zb a b).2, ())) := by
  unfold F_mat_Result matRes
  have h0 := loop_mat_Result hN za zb (a, ()) (b, ()) ([], false, ()) [a, b] (by simp) N 0 (by simp) (by simp; omega)
  rw [show ((0 : Nat) : Int) = 0 from rfl, List.drop_zero] at h0
  simp only [List.length_cons, List.length_nil, Nat.zero_add, Nat.reduceAdd] at h0
  rw [h0]
  cases ha : (shapeV a.1).isNil with
  | false => simp [ha, noD, cond_dec]
  | true =>
    cases hb : (shapeV b.1).isNil with
    | false => simp [ha, hb, noD, cond_dec]
    | true =>
      simp only [List.find?_cons, List.find?_nil, ha, hb, Bool.not_true, Option.bind_some, Sum.elim_inl, cond_dec, mat_narrow_spec, shape_Valid_spec hN, Bool.false_eq_true, if_false]
      by_cases h1 : a.1.length = 2
      case neg => rw [if_pos (by omega), if_pos (.inl h1)]; rfl
      rw [if_neg (by omega)]
      by_cases h2 : b.1.length = 2
      case neg => rw [if_pos (by omega), if_pos (.inr (.inl h2))]; rfl
      rw [if_neg (by omega), if_pos (show 1 < a.1.length by omega), if_pos (show 0 < b.1.length by omega)]
      by_cases h3 : a.1.getD 1 0 = b.1.getD 0 0
      case neg => rw [if_pos h3, if_pos (.inr (.inr (.inl h3)))]; rfl
      rw [if_neg (fun h => h h3)]
      have f1 : 0 < a.1.length := by omega
      have f2 : 1 < b.1.length := by omega
      simp only [if_pos f1, if_pos f2, h1, h2, h3, ne_eq, not_true, false_or]
      cases h4 : a.2 <;> cases h5 : b.2 <;> cases h6 : narrowB za <;> cases h7 : narrowB zb <;> cases h8 : (shapeV [a.1.getD 0 0, b.1.getD 1 0]).isNil <;>
        simp only [cond_true, cond_false, Bool.not_true, Bool.not_false, Bool.false_eq_true, or_true, true_or, or_false, false_or, or_self, if_true, if_false, reduceCtorEq] <;> rfl

/-- what the product of tensors looks like -/
def matRes' (a b : T) (za zb : Int) : D × Er :=
  if !(tensV a).isNil then (noD, tensV a)
  else if !(tensV b).isNil then (noD, tensV b)
  else matRes za zb a.1 b.1

/-- what a product is made of -/
structure MulOK (a b : T) (za zb : Int) (m k n : Nat) : Prop where
  hm : 1 ≤ m ∧ m ≤ 256
  hk : 1 ≤ k ∧ k ≤ 256
  hn : 1 ≤ n ∧ n ≤ 256
  hA : a.2.length = m * k
  hB : b.2.length = k * n
  fA : ∀ p, -128 ≤ a.2.getD p 0 ∧ a.2.getD p 0 ≤ 127
  fB : ∀ p, -128 ≤ b.2.getD p 0 ∧ b.2.getD p 0 ≤ 127
  hza : -128 ≤ za ∧ za ≤ 127
  hzb : -128 ≤ zb ∧ zb ≤ 127

/-- one of a product's parts -/
def mulF (A B : List Int) (za zb : Int) (k n i j x : Nat) : Int := (A.getD (i * k + x) 0 - za) * (B.getD (x * n + j) 0 - zb)

/-- an element of a product -/
def mulC (A B : List Int) (za zb : Int) (k n p : Nat) : Int := round32 (sumN (mulF A B za zb k n (p / n) (p % n)) k)

/-- a product's numbers -/
def mulL (A B : List Int) (za zb : Int) (m k n : Nat) : List Int := (List.range (m * n)).map (mulC A B za zb k n)

section

variable {N : Nat} {a b : T} {za zb : Int} {m k n : Nat}

theorem MulOK.part (h : MulOK a b za zb m k n) (i j x : Nat) : -65025 ≤ mulF a.2 b.2 za zb k n i j x ∧ mulF a.2 b.2 za zb k n i j x ≤ 65025 := by
  have h1 := h.fA (i * k + x)
  have h2 := h.fB (x * n + j)
  have h3 := h.hza
  have h4 := h.hzb
  exact mul_abs (A := 255) (B := 255) (by omega) (by omega) (by omega) (by omega)

abbrev outAt (A B : List Int) (za zb : Int) (m k n q : Nat) : List Int := (List.range (m * n)).map fun p => if p < q then mulC A B za zb k n p else 0

end

theorem shapeV_two {m k : Nat} (hm : 1 ≤ m ∧ m ≤ 256) (hk : 1 ≤ k ∧ k ≤ 256) (h : m * k ≤ 16384) : shapeV [(m : Int), (k : Int)] = .nil := by
  rw [shapeV_nil]
  have e : (m : Int) * k = ((m * k : Nat) : Int) := by simp
  refine ⟨by simp, ?_, ?_⟩
  · simp [badDim]; omega
  · simp only [overs, Int.one_mul, e, Bool.or_false, Bool.or_eq_false_iff, decide_eq_false_iff_not]
    generalize m * k = P at h
    omega

theorem elems_two {m k : Nat} (hm : 1 ≤ m ∧ m ≤ 256) (hk : 1 ≤ k ∧ k ≤ 256) (h : m * k ≤ 16384) : elems [(m : Int), (k : Int)] = ((m * k : Nat) : Int) := by
  unfold elems
  rw [shapeV_two hm hk h]
  simp [Er.isNil]

theorem tensV_two {m k : Nat} {d : List Int} (hm : 1 ≤ m ∧ m ≤ 256) (hk : 1 ≤ k ∧ k ≤ 256) (h : m * k ≤ 16384) (hd : d.length = m * k) (hf : ∀ x, x ∈ d → -128 ≤ x ∧ x ≤ 127) :
    tensV (([(m : Int), (k : Int)], false), d) = .nil := by
  unfold tensV
  rw [shapeV_two hm hk h, elems_two hm hk h, hd]
  simp only [Er.isNil, if_true]
  have : d.findIdx? (fun n => !fitsB false n) = none := by
    rw [List.findIdx?_eq_none_iff]
    intro x hx
    have := hf x hx
    simp [fitsB, this]
  rw [this]

theorem mulL_length (A B : List Int) (za zb : Int) (m k n : Nat) : (mulL A B za zb m k n).length = m * n := by simp [mulL]

/-- a matrix's numbers, turned -/
def turnL (A : List Int) (m n : Nat) : List Int := (List.range (m * n)).map fun i => A.getD (i % m * n + i / m) 0

theorem turnL_length (A : List Int) (m n : Nat) : (turnL A m n).length = m * n := by simp [turnL]

theorem turn_idx {m n i : Nat} (h : i < m * n) : i % m < m ∧ i / m < n ∧ i % m * n + i / m < m * n := by
  have hm : 0 < m := by
    rcases Nat.eq_zero_or_pos m with h0 | h0
    · rw [h0, Nat.zero_mul] at h; omega
    · exact h0
  have h1 := Nat.mod_lt i hm
  have h2 : i / m < n := Nat.div_lt_of_lt_mul h
  refine ⟨h1, h2, ?_⟩
  have : (i % m + 1) * n ≤ m * n := Nat.mul_le_mul_right n h1
  rw [Nat.add_mul] at this
  omega

theorem matRes'_good {m k n : Nat} {A B : List Int} {za zb : Int} (hm : 1 ≤ m ∧ m ≤ 256) (hk : 1 ≤ k ∧ k ≤ 256) (hn : 1 ≤ n ∧ n ≤ 256) (hmk : m * k ≤ 16384) (hkn : k * n ≤ 16384) (hmn : m * n ≤ 16384)
    (hA : A.length = m * k) (hB : B.length = k * n) (fA : ∀ x, x ∈ A → -128 ≤ x ∧ x ≤ 127) (fB : ∀ x, x ∈ B → -128 ≤ x ∧ x ≤ 127) (hza : -128 ≤ za ∧ za ≤ 127) (hzb : -128 ≤ zb ∧ zb ≤ 127) :
    matRes' (([(m : Int), (k : Int)], false), A) (([(k : Int), (n : Int)], false), B) za zb = (([(m : Int), (n : Int)], true), .nil) := by
  unfold matRes' matRes
  rw [tensV_two hm hk hmk hA fA, tensV_two hk hn hkn hB fB]
  simp only [Er.isNil, Bool.not_true, Bool.false_eq_true, if_false]
  rw [shapeV_two hm hk hmk, shapeV_two hk hn hkn]
  have n1 : narrowB za = true := by simp [narrowB, hza]
  have n2 : narrowB zb = true := by simp [narrowB, hzb]
  simp only [Er.isNil, Bool.not_true, Bool.false_eq_true, if_false, n1, n2, List.length_cons, List.length_nil, List.getD_cons_zero, List.getD_cons_succ]
  rw [if_neg (by simp), if_neg (by simp), shapeV_two hm hn hmn]
  rfl

/-! how many elements, by the document -/

theorem overs_foldl : ∀ (l : List Int) (m : Int), 1 ≤ m → l.any badDim = false → (overs m l || decide (16384 < m)) = decide (16384 < l.foldl (· * ·) m)
  | [], m, _, _ => by
    rw [overs, Bool.false_or]
    exact decide_eq_decide.2 Iff.rfl
  | k :: r, m, hm, hb => by
    simp only [List.any_cons, Bool.or_eq_false_iff] at hb
    have hk := hb.1
    simp only [badDim, Bool.or_eq_false_iff, decide_eq_false_iff_not] at hk
    have h1 : m ≤ m * k := by
      have := Int.mul_le_mul (Int.le_refl m) (show 1 ≤ k by omega) (by omega) (by omega)
      omega
    have ih := overs_foldl r (m * k) (by omega) hb.2
    rw [List.foldl_cons, ← ih, overs]
    by_cases h2 : 16384 < m
    · have h3 : 16384 < m * k := by omega
      simp [h2, h3]
    · rw [decide_eq_false h2, Bool.or_false, Bool.or_comm]

theorem loop_VD (N : Nat) (d : D × Unit) (hl : d.1.1.length ≤ 4) : ∀ (n i : Nat) (m : Int), 1 ≤ m → m ≤ ((256 ^ i : Nat) : Int) → i ≤ d.1.1.length → d.1.1.length < n + i →
    g_lodgeref3_ValidDesc_0 N n d m i = if (d.1.1.drop i).any badDim then some (.inr (102, ())) else some (.inl ((d.1.1.drop i).foldl (· * ·) m, ()))
  | 0, i, m, _, _, h, h' => by omega
  | n + 1, i, m, h1, h2, h, h' => by
    rw [g_lodgeref3_ValidDesc_0]
    by_cases hi : i < d.1.1.length
    · refine cT (by omega) ?_
      refine cT (by omega) ?_
      refine cT (by simpa using hi) ?_
      rw [drop_cons hi 0, List.any_cons, Int.toNat_natCast]
      generalize hx : d.1.1.getD i 0 = x
      by_cases hx1 : x < 1
      · refine cT hx1 ?_
        simp [badDim, hx1]
      refine cF hx1 ?_
      refine cT (by omega) ?_
      refine cT hi ?_
      by_cases hx2 : 256 < x
      · refine cT hx2 ?_
        simp [badDim, hx2]
      refine cF hx2 ?_
      refine cT (by omega) ?_
      refine cT hi ?_
      have hp : (256 : Nat) ^ i ≤ 256 ^ 4 := Nat.pow_le_pow_right (by omega) (by omega)
      have hm : m * x ≤ ((256 ^ i : Nat) : Int) * 256 := Int.mul_le_mul h2 (by omega) (by omega) (by omega)
      have hm1 : 1 ≤ m * x := by
        have := Int.mul_le_mul h1 (show 1 ≤ x by omega) (by omega) (by omega)
        omega
      rw [wi64_in (n := m * x) (by omega) (by omega), wi64_succ (by omega)]
      have hbd : badDim x = false := by simp [badDim]; omega
      rw [hbd, Bool.false_or, List.foldl_cons]
      exact loop_VD N d hl n (i + 1) (m * x) hm1 (by rw [Nat.pow_succ]; omega) hi (by omega)
    · refine cF (by omega) ?_
      rw [List.drop_eq_nil_of_le (by omega)]
      rfl

/-- why a tensor may not look so, by the document's numbers -/
def vdCode (sh : List Int) : Int := if 4 < sh.length then 104 else if sh.any badDim then 102 else if overs 1 sh then 104 else 0

theorem lodgeref3_ValidDesc_spec {N : Nat} (hN : 20000 ≤ N) (d : D) : F_lodgeref3_ValidDesc N d = some (vdCode d.1, ()) := by
  unfold F_lodgeref3_ValidDesc vdCode
  by_cases h4 : 4 < d.1.length
  · rw [if_pos h4]
    exact cT (by omega) rfl
  rw [if_neg h4]
  refine cF (by omega) ?_
  have h0 := loop_VD N (d, ()) (by simpa using h4) N 0 1 (by omega) (by simp) (by omega) (by simp only; omega)
  rw [show ((0 : Nat) : Int) = 0 from rfl, List.drop_zero] at h0
  cases hb : d.1.any badDim with
  | true =>
    rw [if_pos hb] at h0
    exact bnd _ h0 rfl
  | false =>
    rw [if_neg (by simp [hb])] at h0
    refine bnd _ h0 ?_
    have e := overs_foldl d.1 1 (by omega) hb
    rw [show decide ((16384 : Int) < 1) = false from rfl, Bool.or_false] at e
    simp only [Sum.elim_inl, Bool.false_eq_true, if_false]
    rw [e]
    by_cases h1 : 16384 < d.1.foldl (· * ·) 1
    · refine cT h1 ?_
      simp [h1]
    · refine cF h1 ?_
      simp [h1]

theorem vdCode_zero (sh : List Int) : vdCode sh = 0 ↔ shapeV sh = .nil := by
  rw [shapeV_nil]
  unfold vdCode
  by_cases h4 : 4 < sh.length
  · rw [if_pos h4]; omega
  · rw [if_neg h4]
    cases hb : sh.any badDim <;> cases ho : overs 1 sh <;> simp <;> omega

theorem loop_Elems3 (N : Nat) (l : List Int) (hl : l.length ≤ 4) (hb : l.any badDim = false) : ∀ (n i : Nat) (m : Int), 1 ≤ m → m ≤ ((256 ^ i : Nat) : Int) → i ≤ l.length → l.length < n + i →
    g_lodgeref3_Elems_0 N n l m i = some ((l.drop i).foldl (· * ·) m, ())
  | 0, i, m, _, _, h, h' => by omega
  | n + 1, i, m, h1, h2, h, h' => by
    rw [g_lodgeref3_Elems_0]
    by_cases hi : i < l.length
    · refine cT (by omega) ?_
      refine cT (by omega) ?_
      refine cT (by simpa using hi) ?_
      rw [drop_cons hi 0, Int.toNat_natCast]
      have hx : badDim (l.getD i 0) = false := by
        rw [List.any_eq_false] at hb
        rw [getD_lt hi]
        simpa using hb _ (List.getElem_mem hi)
      generalize l.getD i 0 = x at *
      simp only [badDim, Bool.or_eq_false_iff, decide_eq_false_iff_not] at hx
      have hp : (256 : Nat) ^ i ≤ 256 ^ 4 := Nat.pow_le_pow_right (by omega) (by omega)
      have hm : m * x ≤ ((256 ^ i : Nat) : Int) * 256 := Int.mul_le_mul h2 (by omega) (by omega) (by omega)
      have hm1 : 1 ≤ m * x := by
        have := Int.mul_le_mul h1 (show 1 ≤ x by omega) (by omega) (by omega)
        omega
      rw [wi64_in (n := m * x) (by omega) (by omega), wi64_succ (by omega), List.foldl_cons]
      exact loop_Elems3 N l hl hb n (i + 1) (m * x) hm1 (by rw [Nat.pow_succ]; omega) hi (by omega)
    · refine cF (by omega) ?_
      rw [List.drop_eq_nil_of_le (by omega)]
      rfl

theorem lodgeref3_Elems_spec {N : Nat} (hN : 20000 ≤ N) (sh : List Int) : F_lodgeref3_Elems N sh = some (elems sh, ()) := by
  unfold F_lodgeref3_Elems elems
  refine bnd _ (lodgeref3_ValidDesc_spec hN _) ?_
  by_cases h : vdCode sh = 0
  · refine cF (by simpa using h) ?_
    have h2 := (vdCode_zero sh).1 h
    obtain ⟨h3, h4, h5⟩ := shapeV_nil.1 h2
    have h0 := loop_Elems3 N sh h3 h4 N 0 1 (by omega) (by simp) (by omega) (by omega)
    rw [show ((0 : Nat) : Int) = 0 from rfl, List.drop_zero] at h0
    refine bnd _ h0 ?_
    rw [h2]
    rfl
  · refine cT (by simpa using h) ?_
    have h2 : ¬ (shapeV sh).isNil = true := fun e => h ((vdCode_zero sh).2 ((isNil_iff _).1 e))
    rw [if_neg h2]

theorem ifT {α : Type} {c : Bool} {a b : α} (h : c = true) : (if c = true then a else b) = a := by rw [h]; rfl

theorem ifF {α : Type} {c : Bool} {a b : α} (h : c = false) : (if c = true then a else b) = b := by rw [h]; rfl

theorem ifNT {α : Type} {c : Bool} {a b : α} (h : c = true) : (if (!c) = true then a else b) = b := by rw [h]; rfl

theorem ifNF {α : Type} {c : Bool} {a b : α} (h : c = false) : (if (!c) = true then a else b) = a := by rw [h]; rfl

theorem nilT {e : Er} (h : e = .nil) : e.isNil = true := by rw [h]; rfl

/-! the document's numbers for errors -/

def codeS (k : Nat) : Int := 101 + (([ErrShape, ErrRange, ErrKind, ErrMany, 1004, 1005, 1006, 1007, 1008, 1009, 1010, 1011, 1012, 1013, 1014, 1015, 1016, 1017, 1018, 1019, 1020].idxOf k : Nat) : Int)

def codeE : Er → Int
  | .nil => 0
  | .s k => codeS k
  | .at _ k => codeS k

def faultE : Er → Int × (Bool × Int)
  | .nil => (0, (false, 0))
  | .s k => (codeS k, (false, 0))
  | .at p k => (codeS k, (true, p))

def erOK : Er → Prop
  | .nil => True
  | .s k => k < 21
  | .at _ k => k < 21

def bareE : Er → Prop
  | .at _ _ => False
  | _ => True

theorem codeS_pos (k : Nat) : 101 ≤ codeS k := by unfold codeS; omega

theorem codeE_zero (e : Er) : codeE e = 0 ↔ e = .nil := by
  cases e with
  | nil => simp [codeE]
  | s k => have := codeS_pos k; simp only [codeE, reduceCtorEq, iff_false]; omega
  | «at» p k => have := codeS_pos k; simp only [codeE, reduceCtorEq, iff_false]; omega

theorem faultE_bare {e : Er} (h : bareE e) : faultE e = (codeE e, (false, 0)) := by
  cases e with
  | «at» p k => exact False.elim h
  | _ => rfl

theorem faultE_one (e : Er) : (faultE e).1 = codeE e := by cases e <;> rfl

theorem lodgeref_SameDesc_spec {N : Nat} (a b : D) (hl : a.1.length < 1000000) (hN : a.1.length < N) : F_lodgeref_SameDesc N a b = some (decide (a = b), ()) := by
  obtain ⟨a1, a2⟩ := a
  obtain ⟨b1, b2⟩ := b
  unfold F_lodgeref_SameDesc
  refine bnd _ (lodgeref_SameInts_spec _ _ hl hN) ?_
  by_cases h1 : a1 = b1
  case neg => exact cF h1 (by simp [h1])
  refine cT h1 ?_
  subst h1
  cases a2 <;> cases b2 <;> simp

theorem lodgeref_SameTensor_spec {N : Nat} (a b : T) (hl : a.1.1.length < 1000000) (hN : a.1.1.length < N) (hl' : a.2.length < 1000000) (hN' : a.2.length < N) : F_lodgeref_SameTensor N a b = some (decide (a = b), ()) := by
  obtain ⟨a1, a2⟩ := a
  obtain ⟨b1, b2⟩ := b
  unfold F_lodgeref_SameTensor
  refine bnd _ (lodgeref_SameDesc_spec _ _ hl hN) (bnd _ (lodgeref_SameInts_spec _ _ hl' hN') ?_)
  by_cases h1 : a1 = b1
  case neg => exact cF h1 (by simp [h1])
  refine cT h1 ?_
  simp [h1]

theorem lodgeref_SameDesc_self {N : Nat} {a b : D} (h : a = b) (hl : a.1.length < 1000000) (hN : a.1.length < N) : F_lodgeref_SameDesc N a b = some (true, ()) := by
  rw [lodgeref_SameDesc_spec a b hl hN, h]; simp

theorem lodgeref_SameTensor_self {N : Nat} {a b : T} (h : a = b) (hl : a.1.1.length < 1000000) (hN : a.1.1.length < N) (hl' : a.2.length < 1000000) (hN' : a.2.length < N) : F_lodgeref_SameTensor N a b = some (true, ()) := by
  rw [lodgeref_SameTensor_spec a b hl hN hl' hN', h]; simp

theorem lodgeref3_in_spec (N : Nat) (n : Int) (w : Bool) : F_lodgeref3_in N n w = some (fitsB w n, ()) := by
  unfold F_lodgeref3_in fitsB
  cases w
  · simp only [cond_false]
    by_cases h : (-128 : Int) ≤ n <;> simp [h]
  · simp only [cond_true]
    by_cases h : (-2147483648 : Int) ≤ n <;> simp [h]

theorem lodgeref3_narrow_spec (N : Nat) (n : Int) : F_lodgeref3_narrow N n = some (narrowB n, ()) := by
  unfold F_lodgeref3_narrow
  exact bnd _ (lodgeref3_in_spec N n false) (by simp [fitsB, narrowB])

theorem shapeV_bare (sh : List Int) : bareE (shapeV sh) := by
  unfold shapeV
  split
  · exact True.intro
  · split
    · exact True.intro
    · split <;> exact True.intro

theorem shapeV_OK (sh : List Int) : erOK (shapeV sh) := by
  unfold shapeV
  split
  · exact (by decide : ErrMany < 21)
  · split
    · exact (by decide : ErrRange < 21)
    · split
      · exact (by decide : ErrMany < 21)
      · exact True.intro

theorem vdCode_code (sh : List Int) : vdCode sh = codeE (shapeV sh) := by
  unfold vdCode shapeV
  split
  · rfl
  · split
    · rfl
    · split <;> rfl

theorem VD_spec {N : Nat} (hN : 20000 ≤ N) (d : D) : F_lodgeref3_ValidDesc N d = some (codeE (shapeV d.1), ()) := by
  rw [lodgeref3_ValidDesc_spec hN, vdCode_code]

theorem shapeV_cases (sh : List Int) : shapeV sh = .nil ∨ ((shapeV sh).isNil = false ∧ codeE (shapeV sh) ≠ 0) := by
  cases h : shapeV sh with
  | nil => exact .inl rfl
  | s k => refine .inr ⟨rfl, ?_⟩; have := codeS_pos k; simp only [codeE]; omega
  | «at» p k => refine .inr ⟨rfl, ?_⟩; have := codeS_pos k; simp only [codeE]; omega

theorem isNil_false {e : Er} (h : e ≠ .nil) : e.isNil = false := by cases e <;> simp_all [Er.isNil]

theorem tensV_OK (t : T) : erOK (tensV t) := by
  unfold tensV
  split
  · split
    · split
      · exact (by decide : ErrRange < 21)
      · exact True.intro
    · exact (by decide : ErrShape < 21)
  · exact shapeV_OK _

/-! what tensors look like -/

/-- the first of these that may not be -/
def firstBad : List D → Er
  | [] => .nil
  | d :: r => if (shapeV d.1).isNil then firstBad r else shapeV d.1

theorem firstBad_bare : ∀ l, bareE (firstBad l)
  | [] => True.intro
  | d :: r => by
    unfold firstBad
    split
    · exact firstBad_bare r
    · exact shapeV_bare _

theorem firstBad_OK : ∀ l, erOK (firstBad l)
  | [] => True.intro
  | d :: r => by
    unfold firstBad
    split
    · exact firstBad_OK r
    · exact shapeV_OK _

theorem loop_descs {N : Nat} (hN : 20000 ≤ N) (l : List D) (hl : l.length < 1000000) : ∀ (n i : Nat), i ≤ l.length → l.length < n + i →
    g_lodgeref3_descs_0 N n l i = if firstBad (l.drop i) = .nil then some (.inl ()) else some (.inr (codeE (firstBad (l.drop i)), ()))
  | 0, i, h, h' => by omega
  | n + 1, i, h, h' => by
    rw [g_lodgeref3_descs_0]
    by_cases hi : i < l.length
    · refine cT (by omega) (cT (by omega) (cT (by simpa using hi) ?_))
      refine bnd _ (VD_spec hN _) ?_
      rw [drop_cons hi ([], false), Int.toNat_natCast, wi64_succ (by omega), firstBad]
      rcases shapeV_cases (l.getD i ([], false)).1 with h1 | ⟨h1, h2⟩
      · rw [h1]
        refine cF (by simp [codeE]) ?_
        rw [ifT (c := Er.nil.isNil) rfl]
        exact loop_descs hN l hl n (i + 1) hi (by omega)
      · refine cT h2 ?_
        have h3 : ¬ shapeV (l.getD i ([], false)).1 = .nil := fun e => by rw [e] at h1; cases h1
        rw [ifF h1, if_neg h3]
    · refine cF (by omega) ?_
      rw [List.drop_eq_nil_of_le (by omega)]
      rfl

theorem lodgeref3_descs_spec {N : Nat} (hN : 20000 ≤ N) (l : List D) (hl : l.length ≤ 10000) : F_lodgeref3_descs N l = some (codeE (firstBad l), ()) := by
  unfold F_lodgeref3_descs
  have h0 := loop_descs hN l (by omega) N 0 (by omega) (by omega)
  rw [show ((0 : Nat) : Int) = 0 from rfl, List.drop_zero] at h0
  by_cases h : firstBad l = .nil
  · rw [h0, if_pos h, h]
    rfl
  · rw [h0, if_neg h]
    rfl

abbrev boxD (d : D) : List Int × (Bool × Unit) := (d.1, (d.2, ()))

theorem lodgeref_Desc_spec {N : Nat} (d : D) (hl : d.1.length < 1000000) (hN : d.1.length < N) : F_lodgeref_Desc N d = some (boxD d, ()) := by
  unfold F_lodgeref_Desc
  exact bnd _ (lodgeref_Ints_spec _ hl hN) (cT rfl rfl)

/-- … if that may be -/
def seenD (d : D) : D × Er := if (shapeV d.1).isNil then (d, .nil) else (noD, shapeV d.1)

theorem seenD_bare (d : D) : bareE (seenD d).2 := by
  unfold seenD
  split
  · exact True.intro
  · exact shapeV_bare _

theorem seenD_OK (d : D) : erOK (seenD d).2 := by
  unfold seenD
  split
  · exact True.intro
  · exact shapeV_OK _

theorem lodgeref3_seen_spec {N : Nat} (hN : 20000 ≤ N) (d : D) : F_lodgeref3_seen N d = some (boxD (seenD d).1, (codeE (seenD d).2, ())) := by
  unfold F_lodgeref3_seen seenD
  refine bnd _ (VD_spec hN _) ?_
  rcases shapeV_cases d.1 with h | ⟨h, h'⟩
  · have h4 := (shapeV_nil.1 h).1
    rw [h]
    refine cF (by simp [codeE]) ?_
    exact bnd _ (lodgeref_Desc_spec d (by omega) (by omega)) (cT rfl rfl)
  · refine cT h' ?_
    rw [h]
    rfl

theorem lodgeworld_Tensor_spec (N : Nat) (t : T) (m : Int) : F_lodgeworld_Tensor N t m = some (decide ((t.1.1.length : Int) ≤ 8 ∧ (t.2.length : Int) ≤ m), ()) := by
  unfold F_lodgeworld_Tensor F_lodgeworld_Desc
  refine bnd _ rfl ?_
  by_cases h : (t.1.1.length : Int) ≤ 8
  · exact cT h (by simp [h])
  · exact cF h (by simp [h])

/-- the first of tensors that may not be -/
def firstBadT : List T → Er
  | [] => .nil
  | t :: r => if (tensV t).isNil then firstBadT r else tensV t

theorem firstBadT_OK : ∀ l, erOK (firstBadT l)
  | [] => True.intro
  | d :: r => by
    unfold firstBadT
    split
    · exact firstBadT_OK r
    · exact tensV_OK _

/-! products, by the document -/

theorem matRes_bare (za zb : Int) (a b : D) : bareE (matRes za zb a b).2 := by
  unfold matRes
  repeat' split
  all_goals first | exact True.intro | (dsimp only; exact shapeV_bare _)

theorem matRes_OK (za zb : Int) (a b : D) : erOK (matRes za zb a b).2 := by
  unfold matRes
  repeat' split
  all_goals first | exact True.intro | exact (show ErrShape < 21 by decide) | exact (show ErrRange < 21 by decide) | (dsimp only; exact shapeV_OK _)

theorem matRes'_OK (a b : T) (za zb : Int) : erOK (matRes' a b za zb).2 := by
  unfold matRes'
  repeat' split
  all_goals first | exact tensV_OK _ | exact matRes_OK _ _ _ _

theorem lodgeref3_MatResult_spec {N : Nat} (hN : 20000 ≤ N) (za zb : Int) (a b : D) : F_lodgeref3_MatResult N za zb a b = some (boxD (matRes za zb a b).1, (codeE (matRes za zb a b).2, ())) := by
  unfold F_lodgeref3_MatResult matRes
  refine bnd _ (lodgeref3_descs_spec hN _ (by simp)) ?_
  unfold firstBad firstBad firstBad
  rcases shapeV_cases a.1 with ha | ⟨ha, ha'⟩
  case inr => rw [ifF ha, ifNF ha]; exact cT ha' rfl
  rcases shapeV_cases b.1 with hb | ⟨hb, hb'⟩
  case inr => rw [ifT (nilT ha), ifF hb, ifNT (nilT ha), ifNF hb]; exact cT hb' rfl
  rw [ifT (nilT ha), ifT (nilT hb), ifNT (nilT ha), ifNT (nilT hb)]
  refine cF (by simp [codeE, ha, firstBad]) ?_
  by_cases h1 : a.1.length = 2
  case neg => rw [if_pos (.inl h1)]; exact cT (by omega) rfl
  refine cF (by omega) ?_
  by_cases h2 : b.1.length = 2
  case neg => rw [if_pos (.inr (.inl h2))]; exact cT (by omega) rfl
  refine cF (by omega) ?_
  cases h3 : a.2
  case true => rw [if_pos (.inr (.inr (.inr (.inl rfl))))]; rfl
  cases h4 : b.2
  case true => rw [if_pos (.inr (.inr (.inr (.inr rfl))))]; rfl
  refine bF rfl (bF rfl (cT (by omega) (cT (by omega) ?_)))
  by_cases h5 : a.1.getD 1 0 = b.1.getD 0 0
  case neg => rw [if_pos (.inr (.inr (.inl h5)))]; exact cT h5 rfl
  rw [if_neg (by rintro (h | h | h | h | h); exact h h1; exact h h2; exact h h5; cases h; cases h)]
  refine cF (fun h => h h5) ?_
  refine bnd _ (lodgeref3_narrow_spec N _) ?_
  cases h6 : narrowB za
  case false => rw [if_pos (.inl rfl)]; rfl
  refine bF rfl (bnd _ (lodgeref3_narrow_spec N _) ?_)
  cases h7 : narrowB zb
  case false => rw [if_pos (.inr rfl)]; rfl
  refine bF rfl ?_
  rw [if_neg (by simp)]
  refine cT (by omega) (cT (by omega) ?_)
  refine bnd _ (lodgeref3_seen_spec hN _) ?_
  unfold seenD
  refine cT rfl ?_
  split <;> rfl

theorem ref_Result_mat {N : Nat} (hN : 20000 ≤ N) (za zb : Int) (a b : D) : F_lodgeref3_Result N 12 [za, zb] [a, b] = some (boxD (matRes za zb a b).1, (codeE (matRes za zb a b).2, ())) := by
  unfold F_lodgeref3_Result
  refine bnd _ rfl (bF rfl (cF (by decide) ?_))
  refine bnd _ (bnd _ rfl (cF (by simp) (cT (by decide) (bnd _ rfl rfl)))) ?_
  (repeat first | refine bT rfl ?_ | refine bF rfl ?_)
  exact bnd _ (lodgeref3_MatResult_spec hN _ _ _ _) (cT rfl rfl)

/-- two matrices whose product may be -/
theorem matRes'_ok {a b : T} {za zb : Int} (h : (matRes' a b za zb).2 = .nil) : ∃ m k n : Nat, (1 ≤ m ∧ m ≤ 256) ∧ (1 ≤ k ∧ k ≤ 256) ∧ (1 ≤ n ∧ n ≤ 256) ∧ m * k ≤ 16384 ∧ k * n ≤ 16384 ∧ m * n ≤ 16384 ∧
    a.1 = ([(m : Int), (k : Int)], false) ∧ b.1 = ([(k : Int), (n : Int)], false) ∧ a.2.length = m * k ∧ b.2.length = k * n ∧ (∀ x, x ∈ a.2 → -128 ≤ x ∧ x ≤ 127) ∧ (∀ x, x ∈ b.2 → -128 ≤ x ∧ x ≤ 127) ∧ (-128 ≤ za ∧ za ≤ 127) ∧ (-128 ≤ zb ∧ zb ≤ 127) ∧ tensV a = .nil ∧ tensV b = .nil := by
  unfold matRes' at h
  by_cases ha : tensV a = .nil
  case neg => rw [ifNF (isNil_false ha)] at h; exact absurd h ha
  by_cases hb : tensV b = .nil
  case neg => rw [ifNT (nilT ha), ifNF (isNil_false hb)] at h; exact absurd h hb
  rw [ifNT (nilT ha), ifNT (nilT hb)] at h
  obtain ⟨a1, a2, a3⟩ := (tensV_iff a).1 ha
  obtain ⟨b1, b2, b3⟩ := (tensV_iff b).1 hb
  unfold matRes at h
  rw [ifNT (nilT a1), ifNT (nilT b1)] at h
  split at h
  · cases h
  rename_i c1
  split at h
  · cases h
  rename_i c2
  simp only [not_or, Decidable.not_not, Bool.not_eq_true] at c1
  have cz : narrowB za = true ∧ narrowB zb = true := by simpa using c2
  obtain ⟨c3, c4, c5, c6, c7⟩ := c1
  obtain ⟨m, k, e1, hm, hk, hmk, ea⟩ := shape_nat_two a1 c3
  obtain ⟨k', n, e2, hk', hn, hkn, eb⟩ := shape_nat_two b1 c4
  have ekk : (k : Int) = k' := by simpa [e1, e2] using c5
  have ekk : k' = k := by omega
  subst ekk
  have hs : shapeV [(m : Int), (n : Int)] = .nil := by
    have e : shapeV [a.1.1.getD 0 0, b.1.1.getD 1 0] = shapeV [(m : Int), (n : Int)] := by rw [e1, e2]; rfl
    rw [e] at h
    by_cases hs : shapeV [(m : Int), (n : Int)] = .nil
    · exact hs
    · rw [ifF (isNil_false hs)] at h
      exact h
  obtain ⟨m', n', e3, _, _, hmn, _⟩ := shape_nat_two hs rfl
  simp only [List.cons.injEq, Int.ofNat_inj, and_true] at e3
  refine ⟨m, k', n, hm, hk, hn, hmk, hkn, by rw [e3.1, e3.2]; exact hmn, ?_, ?_, by rw [ea] at a2; omega, by rw [eb] at b2; omega, ?_, ?_, narrowB_iff.1 cz.1, narrowB_iff.1 cz.2, ha, hb⟩
  · rw [← c6, ← e1]
  · rw [← c7, ← e2]
  · intro x hx; have := a3 x hx; rw [c6] at this; exact fitsB_narrow.1 this
  · intro x hx; have := b3 x hx; rw [c7] at this; exact fitsB_narrow.1 this

/-! turned -/

def turnRes (a : D) : D × Er :=
  if !(shapeV a.1).isNil then (noD, shapeV a.1)
  else if a.1.length ≠ 2 then (noD, .s ErrShape)
  else (([a.1.getD 1 0, a.1.getD 0 0], a.2), .nil)

theorem ref_Result_turn {N : Nat} (hN : 20000 ≤ N) (a : D) : F_lodgeref3_Result N 21 [] [a] = some (boxD (turnRes a).1, (codeE (turnRes a).2, ())) := by
  unfold F_lodgeref3_Result turnRes
  refine bnd _ rfl (bF rfl (cF (by decide) ?_))
  refine bnd _ (bnd _ rfl (cF (by simp) (cT (by decide) (bnd _ rfl rfl)))) ?_
  (repeat first | refine bT rfl ?_ | refine bF rfl ?_)
  refine bnd _ rfl ?_
  (repeat first | refine bT rfl ?_ | refine bF rfl ?_)
  refine bnd _ rfl ?_
  (repeat first | refine bT rfl ?_ | refine bF rfl ?_)
  refine bnd _ (VD_spec hN _) ?_
  simp only [List.getD_cons_zero]
  rcases shapeV_cases a.1 with ha | ⟨ha, ha'⟩
  case inr => rw [ifNF ha]; exact cT ha' rfl
  rw [ifNT (nilT ha)]
  refine cF (by simp [codeE, ha]) ?_
  (repeat first | refine bT rfl ?_ | refine bF rfl ?_)
  by_cases h1 : a.1.length = 2
  case neg => rw [if_pos h1]; exact cT (by omega) rfl
  rw [if_neg (fun h => h h1)]
  refine cF (by omega) (cT (by omega) (cT (by omega) ?_))
  obtain ⟨m, n, e, hm, hn, hmn, _⟩ := shape_nat_two ha h1
  refine bnd _ (lodgeref3_seen_spec hN _) ?_
  (repeat first | refine cT rfl ?_ | refine cT True.intro ?_)
  rw [e]
  simp only [List.getD_cons_zero, List.getD_cons_succ, seenD]
  rw [shapeV_two hn hm (by rw [Nat.mul_comm]; exact hmn)]
  rfl

theorem loop_conv_Result {N : Nat} (hN : 20000 ≤ N) (ar : List Int) (a b : D × Unit) (t : List Int × Bool × Unit) (l : List D) (hl : l.length < 1000000) : ∀ (n i : Nat), i ≤ l.length → l.length < n + i →
    g_conv_Result_0 N n ar a b t l l.length i = match (l.drop i).find? (fun d => !(shapeV d.1).isNil) with
      | some d => some (.inr (([], (false, ())), (shapeV d.1, ())))
      | none => some (.inl (ar, (a, (b, (t, ())))))
  | 0, i, h, h' => by omega
  | n + 1, i, h, h' => by
    rw [g_conv_Result_0]
    simp only [cond_dec, Int.ofNat_lt, Int.toNat_natCast, Int.natCast_nonneg, if_true, Nat.zero_add, shape_Valid_spec hN, Option.bind_some]
    by_cases hi : i < l.length
    · rw [if_pos hi, if_pos hi, if_pos hi, drop_cons hi ([], false), List.find?_cons, wi64_succ (by omega)]
      cases hf : (shapeV (l.getD i ([], false)).1).isNil with
      | false => simp
      | true =>
        simp only [Bool.not_true, cond_false]
        exact loop_conv_Result hN ar a b t l hl n (i + 1) hi (by omega)
    · rw [if_neg hi, List.drop_eq_nil_of_le (by omega)]
      rfl

/-- what a convolution looks like -/
def convSh (s p : Int) (a k : List Int) : List Int := [(a.getD 0 0 + 2 * p - k.getD 0 0) / s + 1, (a.getD 1 0 + 2 * p - k.getD 1 0) / s + 1, k.getD 3 0]

def convRes (ar : List Int) (a k : D) : D × Er :=
  if ar.length ≠ 3 then (noD, .s ErrShape)
  else if !(shapeV a.1).isNil then (noD, shapeV a.1)
  else if !(shapeV k.1).isNil then (noD, shapeV k.1)
  else if a.1.length ≠ 3 ∨ k.1.length ≠ 4 ∨ a.1.getD 2 0 ≠ k.1.getD 2 0 ∨ a.2 = true ∨ k.2 = true then (noD, .s ErrShape)
  else if ar.getD 0 0 < 1 ∨ 16 < ar.getD 0 0 ∨ ar.getD 1 0 < 0 ∨ 15 < ar.getD 1 0 ∨ narrowB (ar.getD 2 0) = false then (noD, .s ErrRange)
  else if a.1.getD 0 0 + 2 * ar.getD 1 0 - k.1.getD 0 0 < 0 ∨ a.1.getD 1 0 + 2 * ar.getD 1 0 - k.1.getD 1 0 < 0 then (noD, .s ErrShape)
  else if (shapeV (convSh (ar.getD 0 0) (ar.getD 1 0) a.1 k.1)).isNil then ((convSh (ar.getD 0 0) (ar.getD 1 0) a.1 k.1, true), .nil)
  else (noD, shapeV (convSh (ar.getD 0 0) (ar.getD 1 0) a.1 k.1))

theorem shapeV_dims {sh : List Int} (h : shapeV sh = .nil) (i : Nat) (hi : i < sh.length) : 1 ≤ sh.getD i 0 ∧ sh.getD i 0 ≤ 256 := by
  obtain ⟨_, h2, _⟩ := shapeV_nil.1 h
  rw [List.any_eq_false] at h2
  have := h2 _ (List.getElem_mem hi)
  rw [getD_lt hi]
  simp only [badDim, Bool.or_eq_true, decide_eq_true_eq, not_or] at this
  omega

theorem tdiv_pos {a b : Int} (h : 0 ≤ a) (h' : a ≤ 1000000) (hb : 1 ≤ b) : wi64 (Int.tdiv a b) = a / b := by
  rw [Int.tdiv_eq_ediv_of_nonneg h]
  have h1 : 0 ≤ a / b := Int.ediv_nonneg h (by omega)
  have h2 : a / b ≤ a := Int.ediv_le_self b h
  exact wi64_in (by omega) (by omega)

theorem conv_Result_spec {N : Nat} (hN : 20000 ≤ N) (ar : List Int) (a k : D) : F_conv_Result N ar a k = some ((convRes ar a k).1, ((convRes ar a k).2, ())) := by
  unfold F_conv_Result convRes
  by_cases hl : ar.length = 3
  case neg =>
    rw [if_pos hl]
    exact cT (by omega) rfl
  rw [if_neg (fun h => h hl)]
  refine cF (by omega) ?_
  have h0 := loop_conv_Result hN ar (a, ()) (k, ()) ([], false, ()) [a, k] (by simp) N 0 (by simp) (by simp; omega)
  rw [show ((0 : Nat) : Int) = 0 from rfl, List.drop_zero] at h0
  simp only [List.length_cons, List.length_nil, Nat.zero_add, Nat.reduceAdd] at h0
  rw [h0]
  cases ha0 : (shapeV a.1).isNil with
  | false =>
    simp only [List.find?_cons, ha0, Bool.not_false, Option.bind_some, Sum.elim_inr, if_true]
    rfl
  | true =>
    cases hk0 : (shapeV k.1).isNil with
    | false =>
      simp only [List.find?_cons, ha0, hk0, Bool.not_true, Bool.not_false, Option.bind_some, Sum.elim_inr, if_true, Bool.false_eq_true, if_false]
      rfl
    | true =>
      have ha := (isNil_iff _).1 ha0
      have hk := (isNil_iff _).1 hk0
      simp only [List.find?_cons, List.find?_nil, ha0, hk0, Bool.not_true, Option.bind_some, Sum.elim_inl, Bool.false_eq_true, if_false]
      obtain ⟨β, hβ⟩ : ∃ β : Bool, β = decide (a.1.length ≠ 3 ∨ k.1.length ≠ 4 ∨ a.1.getD 2 0 ≠ k.1.getD 2 0 ∨ a.2 = true ∨ k.2 = true) := ⟨_, rfl⟩
      refine bnd (ar, ((a, ()), ((k, ()), (([], (false, ())), (β, ()))))) ?_ ?_
      · by_cases h1 : a.1.length = 3
        case neg =>
          refine cT (by first | omega | (dsimp only; omega) | (simp; omega)) ?_
          (repeat first | refine cT rfl ?_ | refine cT True.intro ?_)
          rw [show β = true by rw [hβ]; exact decide_eq_true (.inl h1)]
        refine cF (by first | omega | (dsimp only; omega) | (simp; omega)) ?_
        by_cases h2 : k.1.length = 4
        case neg =>
          refine cT (by first | omega | (dsimp only; omega) | (simp; omega)) ?_
          (repeat first | refine cT rfl ?_ | refine cT True.intro ?_)
          rw [show β = true by rw [hβ]; exact decide_eq_true (.inr (.inl h2))]
        refine cF (by first | omega | (dsimp only; omega) | (simp; omega)) (cT (by omega) (cT (by omega) ?_))
        by_cases h3 : a.1.getD 2 0 = k.1.getD 2 0
        case neg =>
          refine cT h3 ?_
          (repeat first | refine cT rfl ?_ | refine cT True.intro ?_)
          rw [show β = true by rw [hβ]; exact decide_eq_true (.inr (.inr (.inl h3)))]
        refine cF (fun h => h h3) ?_
        by_cases h4 : a.2 = true
        · refine bT h4 ?_
          (repeat first | refine cT rfl ?_ | refine cT True.intro ?_)
          rw [show β = true by rw [hβ]; exact decide_eq_true (.inr (.inr (.inr (.inl h4))))]
        refine bF (by simpa using h4) ?_
        (repeat first | refine cT rfl ?_ | refine cT True.intro ?_)
        by_cases h5 : k.2 = true
        · rw [show β = true by rw [hβ]; exact decide_eq_true (.inr (.inr (.inr (.inr h5)))), h5]
        · rw [show β = false by rw [hβ]; exact decide_eq_false (by rintro (h | h | h | h | h); exact h h1; exact h h2; exact h h3; exact h4 h; exact h5 h), show k.2 = false by simpa using h5]
      rw [hβ]
      by_cases hB : a.1.length ≠ 3 ∨ k.1.length ≠ 4 ∨ a.1.getD 2 0 ≠ k.1.getD 2 0 ∨ a.2 = true ∨ k.2 = true
      case pos => rw [if_pos hB]; exact cT hB rfl
      rw [if_neg hB]
      refine cF hB ?_
      simp only [not_or, ne_eq, Decidable.not_not] at hB
      obtain ⟨h1, h2, h3, h4, h5⟩ := hB
      refine cT (by dsimp only; omega) (cT (by dsimp only; omega) (cT (by dsimp only; omega) ?_))
      dsimp only
      obtain ⟨β, hβ⟩ : ∃ β : Bool, β = decide (ar.getD 0 0 < 1 ∨ 16 < ar.getD 0 0 ∨ ar.getD 1 0 < 0 ∨ 15 < ar.getD 1 0 ∨ narrowB (ar.getD 2 0) = false) := ⟨_, rfl⟩
      refine bnd ((a, ()), ((k, ()), (([], (false, ())), (ar.getD 0 0, (ar.getD 1 0, (β, ())))))) ?_ ?_
      · by_cases r1 : ar.getD 0 0 < 1
        · refine cT r1 ?_
          (repeat first | refine cT rfl ?_ | refine cT True.intro ?_)
          rw [show β = true by rw [hβ]; exact decide_eq_true (.inl r1)]
        refine cF r1 ?_
        by_cases r2 : 16 < ar.getD 0 0
        · refine cT r2 ?_
          (repeat first | refine cT rfl ?_ | refine cT True.intro ?_)
          rw [show β = true by rw [hβ]; exact decide_eq_true (.inr (.inl r2))]
        refine cF r2 ?_
        by_cases r3 : ar.getD 1 0 < 0
        · refine cT r3 ?_
          (repeat first | refine cT rfl ?_ | refine cT True.intro ?_)
          rw [show β = true by rw [hβ]; exact decide_eq_true (.inr (.inr (.inl r3)))]
        refine cF r3 ?_
        by_cases r4 : 15 < ar.getD 1 0
        · refine cT r4 ?_
          (repeat first | refine cT rfl ?_ | refine cT True.intro ?_)
          rw [show β = true by rw [hβ]; exact decide_eq_true (.inr (.inr (.inr (.inl r4))))]
        refine cF r4 (bnd _ (tens_Narrow_spec N _) ?_)
        (repeat first | refine cT rfl ?_ | refine cT True.intro ?_)
        by_cases r5 : narrowB (ar.getD 2 0) = false
        · rw [show β = true by rw [hβ]; exact decide_eq_true (.inr (.inr (.inr (.inr r5))))]
          rw [decide_eq_true]
          simp only [narrowB, Bool.and_eq_false_iff, decide_eq_false_iff_not] at r5
          intro e
          omega
        · rw [show β = false by rw [hβ]; exact decide_eq_false (by rintro (h | h | h | h | h); exact r1 h; exact r2 h; exact r3 h; exact r4 h; exact r5 h)]
          rw [decide_eq_false]
          simp only [narrowB, Bool.not_eq_false, Bool.and_eq_true, decide_eq_true_eq] at r5
          intro e
          apply e
          omega
      rw [hβ]
      by_cases hB : ar.getD 0 0 < 1 ∨ 16 < ar.getD 0 0 ∨ ar.getD 1 0 < 0 ∨ 15 < ar.getD 1 0 ∨ narrowB (ar.getD 2 0) = false
      case pos => rw [if_pos hB]; exact cT hB rfl
      rw [if_neg hB]
      refine cF hB ?_
      simp only [not_or, Int.not_lt] at hB
      obtain ⟨r1, r2, r3, r4, r5⟩ := hB
      have a0 := shapeV_dims ha 0 (by omega)
      have a1 := shapeV_dims ha 1 (by omega)
      have k0 := shapeV_dims hk 0 (by omega)
      have k1 := shapeV_dims hk 1 (by omega)
      have w2 : wi64 (2 * ar.getD 1 0) = 2 * ar.getD 1 0 := wi64_in (by omega) (by omega)
      have e0 : wi64 (a.1.getD 0 0 + 2 * ar.getD 1 0) = a.1.getD 0 0 + 2 * ar.getD 1 0 := wi64_in (by omega) (by omega)
      have e1 : wi64 (a.1.getD 1 0 + 2 * ar.getD 1 0) = a.1.getD 1 0 + 2 * ar.getD 1 0 := wi64_in (by omega) (by omega)
      have e0' : wi64 (a.1.getD 0 0 + 2 * ar.getD 1 0 - k.1.getD 0 0) = a.1.getD 0 0 + 2 * ar.getD 1 0 - k.1.getD 0 0 := wi64_in (by omega) (by omega)
      have e1' : wi64 (a.1.getD 1 0 + 2 * ar.getD 1 0 - k.1.getD 1 0) = a.1.getD 1 0 + 2 * ar.getD 1 0 - k.1.getD 1 0 := wi64_in (by omega) (by omega)
      simp only [w2, e0, e1, e0', e1']
      refine cT (by omega) (cT (by omega) (cT (by omega) (cT (by omega) ?_)))
      refine bnd ((k, ()), (([], (false, ())), (ar.getD 0 0, (a.1.getD 0 0 + 2 * ar.getD 1 0 - k.1.getD 0 0, (a.1.getD 1 0 + 2 * ar.getD 1 0 - k.1.getD 1 0, (decide (a.1.getD 0 0 + 2 * ar.getD 1 0 - k.1.getD 0 0 < 0 ∨ a.1.getD 1 0 + 2 * ar.getD 1 0 - k.1.getD 1 0 < 0), ())))))) ?_ ?_
      · by_cases q1 : a.1.getD 0 0 + 2 * ar.getD 1 0 - k.1.getD 0 0 < 0
        · refine cT q1 ?_
          (repeat first | refine cT rfl ?_ | refine cT True.intro ?_)
          rw [decide_eq_true (p := _ ∨ _) (.inl q1)]
        refine cF q1 ?_
        (repeat first | refine cT rfl ?_ | refine cT True.intro ?_)
        by_cases q2 : a.1.getD 1 0 + 2 * ar.getD 1 0 - k.1.getD 1 0 < 0
        · rw [decide_eq_true (p := _ ∨ _) (.inr q2), decide_eq_true q2]
        · rw [decide_eq_false (p := _ ∨ _) (by rintro (h | h) <;> contradiction), decide_eq_false q2]
      by_cases hB : a.1.getD 0 0 + 2 * ar.getD 1 0 - k.1.getD 0 0 < 0 ∨ a.1.getD 1 0 + 2 * ar.getD 1 0 - k.1.getD 1 0 < 0
      case pos => rw [if_pos hB]; exact cT hB rfl
      rw [if_neg hB]
      refine cF hB ?_
      simp only [not_or, Int.not_lt] at hB
      obtain ⟨q1, q2⟩ := hB
      have b1 : 0 ≤ (a.1.getD 0 0 + 2 * ar.getD 1 0 - k.1.getD 0 0) / ar.getD 0 0 := Int.ediv_nonneg (by omega) (by omega)
      have b2 : (a.1.getD 0 0 + 2 * ar.getD 1 0 - k.1.getD 0 0) / ar.getD 0 0 ≤ a.1.getD 0 0 + 2 * ar.getD 1 0 - k.1.getD 0 0 := Int.ediv_le_self _ (by omega)
      have b3 : 0 ≤ (a.1.getD 1 0 + 2 * ar.getD 1 0 - k.1.getD 1 0) / ar.getD 0 0 := Int.ediv_nonneg (by omega) (by omega)
      have b4 : (a.1.getD 1 0 + 2 * ar.getD 1 0 - k.1.getD 1 0) / ar.getD 0 0 ≤ a.1.getD 1 0 + 2 * ar.getD 1 0 - k.1.getD 1 0 := Int.ediv_le_self _ (by omega)
      refine cT (by dsimp only; omega) (cT (by dsimp only; omega) (cT (by dsimp only; omega) ?_))
      dsimp only
      rw [tdiv_pos (by omega) (by omega) (by omega), tdiv_pos (by omega) (by omega) (by omega), wi64_in (n := (a.1.getD 0 0 + 2 * ar.getD 1 0 - k.1.getD 0 0) / ar.getD 0 0 + 1) (by omega) (by omega), wi64_in (n := (a.1.getD 1 0 + 2 * ar.getD 1 0 - k.1.getD 1 0) / ar.getD 0 0 + 1) (by omega) (by omega)]
      refine bnd _ (shape_Valid_spec hN _) ?_
      unfold convSh
      cases hv : (shapeV [(a.1.getD 0 0 + 2 * ar.getD 1 0 - k.1.getD 0 0) / ar.getD 0 0 + 1, (a.1.getD 1 0 + 2 * ar.getD 1 0 - k.1.getD 1 0) / ar.getD 0 0 + 1, k.1.getD 3 0]).isNil with
      | true => exact bF (by simp [hv]) rfl
      | false => exact bT (by simp [hv]) rfl

/-- what the convolution of tensors looks like -/
def convRes' (a k : T) (ar : List Int) : D × Er :=
  if !(tensV a).isNil then (noD, tensV a)
  else if !(tensV k).isNil then (noD, tensV k)
  else convRes ar a.1 k.1

/-- what a convolution is made of -/
structure ConvOK (a k : T) (za : Int) (h w c kh kw n s p : Nat) : Prop where
  hh : 1 ≤ h ∧ h ≤ 256
  hw : 1 ≤ w ∧ w ≤ 256
  hc : 1 ≤ c ∧ c ≤ 256
  hkh : 1 ≤ kh ∧ kh ≤ 256
  hkw : 1 ≤ kw ∧ kw ≤ 256
  hn : 1 ≤ n ∧ n ≤ 256
  hs : 1 ≤ s ∧ s ≤ 16
  hp : p ≤ 15
  sa : a.1.1 = [(h : Int), (w : Int), (c : Int)]
  sk : k.1.1 = [(kh : Int), (kw : Int), (c : Int), (n : Int)]
  hA : a.2.length = h * w * c
  hK : k.2.length = kh * kw * c * n
  bA : h * w * c ≤ 16384
  bK : kh * kw * c * n ≤ 16384
  fA : ∀ p, -128 ≤ a.2.getD p 0 ∧ a.2.getD p 0 ≤ 127
  fK : ∀ p, -128 ≤ k.2.getD p 0 ∧ k.2.getD p 0 ≤ 127
  hza : -128 ≤ za ∧ za ≤ 127

/-- one of its parts -/
def cvP (A K : List Int) (za : Int) (w c kw n r q dy dx o ch : Nat) : Int := (A.getD ((r * w + q) * c + ch) 0 - za) * K.getD (((dy * kw + dx) * c + ch) * n + o) 0

/-- what one of the kernel's places gives -/
def cvT (A K : List Int) (za : Int) (h w c kw n s p y x o dy dx : Nat) : Int :=
  if p ≤ y * s + dy ∧ y * s + dy - p < h ∧ p ≤ x * s + dx ∧ x * s + dx - p < w then sumN (cvP A K za w c kw n (y * s + dy - p) (x * s + dx - p) dy dx o) c else 0

/-- an element, by its place -/
def cvS (A K : List Int) (za : Int) (h w c kh kw n s p y x o : Nat) : Int := sumN (fun dy => sumN (cvT A K za h w c kw n s p y x o dy) kw) kh

def cvC (A K : List Int) (za : Int) (h w c kh kw n s p ow i : Nat) : Int := round32 (cvS A K za h w c kh kw n s p (i / n / ow) (i / n % ow) (i % n))

section

variable {a k : T} {za : Int} {h w c kh kw n s p : Nat}

theorem ConvOK.part (H : ConvOK a k za h w c kh kw n s p) (r q dy dx o ch : Nat) : -32640 ≤ cvP a.2 k.2 za w c kw n r q dy dx o ch ∧ cvP a.2 k.2 za w c kw n r q dy dx o ch ≤ 32640 := by
  have h1 := H.fA ((r * w + q) * c + ch)
  have h2 := H.fK (((dy * kw + dx) * c + ch) * n + o)
  have h3 := H.hza
  exact mul_abs (A := 255) (B := 128) (by omega) (by omega) (by omega) (by omega)

theorem ConvOK.place (H : ConvOK a k za h w c kh kw n s p) (y x o dy dx : Nat) : -8355840 ≤ cvT a.2 k.2 za h w c kw n s p y x o dy dx ∧ cvT a.2 k.2 za h w c kw n s p y x o dy dx ≤ 8355840 := by
  unfold cvT
  have := H.hc
  split
  · have := sumN_bound (cvP a.2 k.2 za w c kw n (y * s + dy - p) (x * s + dx - p) dy dx o) 32640 (fun ch => H.part _ _ _ _ _ ch) c
    omega
  · omega

theorem ConvOK.row (H : ConvOK a k za h w c kh kw n s p) (y x o dy : Nat) : -2139095040 ≤ sumN (cvT a.2 k.2 za h w c kw n s p y x o dy) kw ∧ sumN (cvT a.2 k.2 za h w c kw n s p y x o dy) kw ≤ 2139095040 := by
  have := H.hkw
  have := sumN_bound (cvT a.2 k.2 za h w c kw n s p y x o dy) 8355840 (fun dx => H.place y x o dy dx) kw
  omega

theorem three_idx {a b c i j k : Nat} (hi : i < a) (hj : j < b) (hk : k < c) : (i * b + j) * c + k < a * b * c := by
  have h1 : i * b + j < a * b := by
    have : (i + 1) * b ≤ a * b := Nat.mul_le_mul_right b hi
    rw [Nat.add_mul] at this
    omega
  have : (i * b + j + 1) * c ≤ a * b * c := Nat.mul_le_mul_right c h1
  rw [Nat.add_mul] at this
  omega

theorem idx_key {P X p q dx : Nat} (hP : P ≤ 256 * 256) (hX : X ≤ 1000000) (hp : p ≤ 15) (h : q + p = X + dx) (hq : q ≤ 1000000 := by omega) : wi64 (wi64 ((P : Int) + ((X : Int) - p)) + dx) = ((P + q : Nat) : Int) := by
  rw [wi64_in (n := (P : Int) + ((X : Int) - p)) (by omega) (by omega), wi64_in (by omega) (by omega)]
  omega

theorem sumN_zero {f : Nat → Int} : ∀ {k : Nat}, (∀ x, x < k → f x = 0) → sumN f k = 0
  | 0, _ => rfl
  | k + 1, h => by simp only [sumN]; rw [sumN_zero (fun x hx => h x (by omega)), h k (by omega)]; rfl

theorem sumN_cut {f : Nat → Int} {t : Nat} : ∀ {k : Nat}, t ≤ k → (∀ x, t ≤ x → x < k → f x = 0) → sumN f k = sumN f t
  | 0, h, _ => by
    have : t = 0 := by omega
    rw [this]
  | k + 1, h, hz => by
    by_cases he : t = k + 1
    · rw [he]
    · simp only [sumN]
      rw [sumN_cut (by omega) (fun x h1 h2 => hz x h1 (by omega)), hz k (by omega) (by omega), Int.add_zero]

end

/-! convolutions, by the document -/

theorem convRes_bare (ar : List Int) (a k : D) : bareE (convRes ar a k).2 := by
  unfold convRes
  repeat' split
  all_goals first | exact True.intro | (dsimp only; exact shapeV_bare _)

theorem convRes_OK (ar : List Int) (a k : D) : erOK (convRes ar a k).2 := by
  unfold convRes
  repeat' split
  all_goals first | exact True.intro | exact (show ErrShape < 21 by decide) | exact (show ErrRange < 21 by decide) | (dsimp only; exact shapeV_OK _)

theorem lodgeref3_ConvResult_spec {N : Nat} (hN : 20000 ≤ N) (ar : List Int) (a k : D) : F_lodgeref3_ConvResult N ar a k = some (boxD (convRes ar a k).1, (codeE (convRes ar a k).2, ())) := by
  unfold F_lodgeref3_ConvResult convRes
  by_cases hl : ar.length = 3
  case neg =>
    rw [if_pos hl]
    exact cT (by omega) rfl
  rw [if_neg (fun h => h hl)]
  refine cF (by omega) ?_
  refine bnd _ (lodgeref3_descs_spec hN _ (by simp)) ?_
  unfold firstBad firstBad firstBad
  rcases shapeV_cases a.1 with ha | ⟨ha, ha'⟩
  case inr => rw [ifF ha, ifNF ha]; exact cT ha' rfl
  rcases shapeV_cases k.1 with hk | ⟨hk, hk'⟩
  case inr => rw [ifT (nilT ha), ifF hk, ifNT (nilT ha), ifNF hk]; exact cT hk' rfl
  rw [ifT (nilT ha), ifT (nilT hk), ifNT (nilT ha), ifNT (nilT hk)]
  refine cF (by simp [codeE]) ?_
  refine bnd (ar, ((a, ()), ((k, ()), (([], (false, ())), (decide (a.1.length ≠ 3 ∨ k.1.length ≠ 4 ∨ a.1.getD 2 0 ≠ k.1.getD 2 0 ∨ a.2 = true ∨ k.2 = true), ()))))) ?_ ?_
  · by_cases h1 : a.1.length = 3
    case neg => exact cT (by omega) (by rw [decide_eq_true (p := _ ∨ _) (.inl h1)])
    refine cF (by omega) ?_
    by_cases h2 : k.1.length = 4
    case neg => exact cT (by omega) (by rw [decide_eq_true (p := _ ∨ _) (.inr (.inl h2))])
    refine cF (by omega) ?_
    by_cases h4 : a.2 = true
    · exact bT h4 (by rw [decide_eq_true (p := _ ∨ _) (.inr (.inr (.inr (.inl h4))))])
    refine bF (by simpa using h4) ?_
    by_cases h5 : k.2 = true
    · exact bT h5 (by rw [decide_eq_true (p := _ ∨ _) (.inr (.inr (.inr (.inr h5))))])
    refine bF (by simpa using h5) (cT (by omega) (cT (by omega) ?_))
    by_cases h3 : a.1.getD 2 0 = k.1.getD 2 0
    · rw [decide_eq_false (fun h => h h3), decide_eq_false]
      rintro (h | h | h | h | h)
      exact h h1
      exact h h2
      exact h h3
      exact h4 h
      exact h5 h
    · rw [decide_eq_true h3, decide_eq_true (p := _ ∨ _) (.inr (.inr (.inl h3)))]
  by_cases hB : a.1.length ≠ 3 ∨ k.1.length ≠ 4 ∨ a.1.getD 2 0 ≠ k.1.getD 2 0 ∨ a.2 = true ∨ k.2 = true
  case pos => rw [if_pos hB]; exact cT hB rfl
  rw [if_neg hB]
  refine cF hB ?_
  simp only [not_or, ne_eq, Decidable.not_not] at hB
  obtain ⟨h1, h2, h3, h4, h5⟩ := hB
  refine cT (by dsimp only; omega) (cT (by dsimp only; omega) ?_)
  dsimp only
  refine bnd ((a, ()), ((k, ()), (([], (false, ())), (ar.getD 0 0, (ar.getD 1 0, (decide (ar.getD 0 0 < 1 ∨ 16 < ar.getD 0 0 ∨ ar.getD 1 0 < 0 ∨ 15 < ar.getD 1 0 ∨ narrowB (ar.getD 2 0) = false), ())))))) ?_ ?_
  · by_cases r1 : ar.getD 0 0 < 1
    · refine cT r1 ?_
      (repeat first | refine cT rfl ?_ | refine cT True.intro ?_)
      rw [decide_eq_true (p := _ ∨ _) (.inl r1)]
    refine cF r1 ?_
    by_cases r2 : 16 < ar.getD 0 0
    · refine cT r2 ?_
      (repeat first | refine cT rfl ?_ | refine cT True.intro ?_)
      rw [decide_eq_true (p := _ ∨ _) (.inr (.inl r2))]
    refine cF r2 ?_
    by_cases r3 : ar.getD 1 0 < 0
    · refine cT r3 ?_
      (repeat first | refine cT rfl ?_ | refine cT True.intro ?_)
      rw [decide_eq_true (p := _ ∨ _) (.inr (.inr (.inl r3)))]
    refine cF r3 ?_
    by_cases r4 : 15 < ar.getD 1 0
    · refine cT r4 ?_
      (repeat first | refine cT rfl ?_ | refine cT True.intro ?_)
      rw [decide_eq_true (p := _ ∨ _) (.inr (.inr (.inr (.inl r4))))]
    refine cF r4 (cT (by omega) ?_)
    refine bnd _ (lodgeref3_narrow_spec N _) ?_
    (repeat first | refine cT rfl ?_ | refine cT True.intro ?_)
    cases r5 : narrowB (ar.getD 2 0) with
    | false => rw [decide_eq_true (p := _ ∨ _) (.inr (.inr (.inr (.inr rfl))))]; rfl
    | true => rw [decide_eq_false (p := _ ∨ _) (by rintro (h | h | h | h | h); exact r1 h; exact r2 h; exact r3 h; exact r4 h; cases h)]; rfl
  by_cases hB : ar.getD 0 0 < 1 ∨ 16 < ar.getD 0 0 ∨ ar.getD 1 0 < 0 ∨ 15 < ar.getD 1 0 ∨ narrowB (ar.getD 2 0) = false
  case pos => rw [if_pos hB]; exact cT hB rfl
  rw [if_neg hB]
  refine cF hB ?_
  simp only [not_or, Int.not_lt] at hB
  obtain ⟨r1, r2, r3, r4, r5⟩ := hB
  have a0 := shapeV_dims ha 0 (by omega)
  have a1 := shapeV_dims ha 1 (by omega)
  have k0 := shapeV_dims hk 0 (by omega)
  have k1 := shapeV_dims hk 1 (by omega)
  have w2 : wi64 (2 * ar.getD 1 0) = 2 * ar.getD 1 0 := wi64_in (by omega) (by omega)
  have e0 : wi64 (a.1.getD 0 0 + 2 * ar.getD 1 0) = a.1.getD 0 0 + 2 * ar.getD 1 0 := wi64_in (by omega) (by omega)
  have e1 : wi64 (a.1.getD 1 0 + 2 * ar.getD 1 0) = a.1.getD 1 0 + 2 * ar.getD 1 0 := wi64_in (by omega) (by omega)
  have e0' : wi64 (a.1.getD 0 0 + 2 * ar.getD 1 0 - k.1.getD 0 0) = a.1.getD 0 0 + 2 * ar.getD 1 0 - k.1.getD 0 0 := wi64_in (by omega) (by omega)
  have e1' : wi64 (a.1.getD 1 0 + 2 * ar.getD 1 0 - k.1.getD 1 0) = a.1.getD 1 0 + 2 * ar.getD 1 0 - k.1.getD 1 0 := wi64_in (by omega) (by omega)
  simp only [w2, e0, e1, e0', e1']
  refine bnd ((a, ()), ((k, ()), (([], (false, ())), (ar.getD 0 0, (ar.getD 1 0, (decide (a.1.getD 0 0 + 2 * ar.getD 1 0 - k.1.getD 0 0 < 0 ∨ a.1.getD 1 0 + 2 * ar.getD 1 0 - k.1.getD 1 0 < 0), ())))))) ?_ ?_
  · refine cT (by omega) (cT (by omega) ?_)
    by_cases q1 : a.1.getD 0 0 + 2 * ar.getD 1 0 - k.1.getD 0 0 < 0
    · refine cT (by omega) ?_
      (repeat first | refine cT rfl ?_ | refine cT True.intro ?_)
      rw [decide_eq_true (p := _ ∨ _) (.inl q1)]
    refine cF (by omega) (cT (by omega) (cT (by omega) ?_))
    (repeat first | refine cT rfl ?_ | refine cT True.intro ?_)
    by_cases q2 : a.1.getD 1 0 + 2 * ar.getD 1 0 - k.1.getD 1 0 < 0
    · rw [decide_eq_true (p := _ ∨ _) (.inr q2), decide_eq_true (show a.1.getD 1 0 + 2 * ar.getD 1 0 < k.1.getD 1 0 by omega)]
    · rw [decide_eq_false (p := _ ∨ _) (by rintro (h | h) <;> contradiction), decide_eq_false (show ¬ a.1.getD 1 0 + 2 * ar.getD 1 0 < k.1.getD 1 0 by omega)]
  by_cases hB : a.1.getD 0 0 + 2 * ar.getD 1 0 - k.1.getD 0 0 < 0 ∨ a.1.getD 1 0 + 2 * ar.getD 1 0 - k.1.getD 1 0 < 0
  case pos => rw [if_pos hB]; exact cT hB rfl
  rw [if_neg hB]
  refine cF hB ?_
  simp only [not_or, Int.not_lt] at hB
  obtain ⟨q1, q2⟩ := hB
  have b1 : 0 ≤ (a.1.getD 0 0 + 2 * ar.getD 1 0 - k.1.getD 0 0) / ar.getD 0 0 := Int.ediv_nonneg (by omega) (by omega)
  have b2 : (a.1.getD 0 0 + 2 * ar.getD 1 0 - k.1.getD 0 0) / ar.getD 0 0 ≤ a.1.getD 0 0 + 2 * ar.getD 1 0 - k.1.getD 0 0 := Int.ediv_le_self _ (by omega)
  have b3 : 0 ≤ (a.1.getD 1 0 + 2 * ar.getD 1 0 - k.1.getD 1 0) / ar.getD 0 0 := Int.ediv_nonneg (by omega) (by omega)
  have b4 : (a.1.getD 1 0 + 2 * ar.getD 1 0 - k.1.getD 1 0) / ar.getD 0 0 ≤ a.1.getD 1 0 + 2 * ar.getD 1 0 - k.1.getD 1 0 := Int.ediv_le_self _ (by omega)
  refine cT (by dsimp only; omega) (cT (by dsimp only; omega) (cT (by dsimp only; omega) (cT (by dsimp only; omega) (cT (by dsimp only; omega) (cT (by dsimp only; omega) (cT (by dsimp only; omega) ?_))))))
  dsimp only
  simp only [w2, e0, e1, e0', e1']
  rw [tdiv_pos (by omega) (by omega) (by omega), tdiv_pos (by omega) (by omega) (by omega), wi64_in (n := (a.1.getD 0 0 + 2 * ar.getD 1 0 - k.1.getD 0 0) / ar.getD 0 0 + 1) (by omega) (by omega), wi64_in (n := (a.1.getD 1 0 + 2 * ar.getD 1 0 - k.1.getD 1 0) / ar.getD 0 0 + 1) (by omega) (by omega)]
  refine bnd _ (lodgeref3_seen_spec hN _) ?_
  (repeat first | refine cT rfl ?_ | refine cT True.intro ?_)
  unfold seenD convSh
  dsimp only

theorem ref_Result_conv {N : Nat} (hN : 20000 ≤ N) (x y z : Int) (a k : D) : F_lodgeref3_Result N 13 [x, y, z] [a, k] = some (boxD (convRes [x, y, z] a k).1, (codeE (convRes [x, y, z] a k).2, ())) := by
  unfold F_lodgeref3_Result
  refine bnd _ rfl ?_
  (repeat first | refine bT rfl ?_ | refine bF rfl ?_)
  refine bnd _ rfl ?_
  (repeat first | refine bT rfl ?_ | refine bF rfl ?_)
  exact bnd _ (lodgeref3_ConvResult_spec hN _ _ _) (cT rfl rfl)

section

variable {a k : T} {za : Int} {h w c kh kw n s p : Nat}

end

end Go.Proofs.YtnblnlanicpagaaDoor.Lg
