/-
  What the program's functions come to, in plain words.
-/
import Derived.Test.YtbpifndhkdbmhaaDoorLgConvAF
import Derived.Test.YtbpifndhkdbmhaaDoorLgLaw
namespace Go.Proofs.YtbpifndhkdbmhaaDoor.Lg
open Go Go.Eng Go.Proofs

abbrev D := List Int × Bool
abbrev T := D × List Int

def badDim (k : Int) : Bool := decide (k < 1) || decide (256 < k)
def overs : Int → List Int → Bool
  | _, [] => false
  | n, k :: r => decide (16384 < n * k) || overs (n * k) r

/-- what is amiss with what a tensor looks like -/
def shapeV (sh : List Int) : Er :=
  if 4 < sh.length then .s ErrMany else if sh.any badDim then .s ErrRange else if overs 1 sh then .s ErrMany else .nil

theorem loop_Valid_0 (N : Nat) (d : D × Unit) (m : Int) (l : List Int) (hl : l.length < 1000) : ∀ (n i : Nat), i ≤ l.length → l.length < n + i →
    g_shape_Valid_0 N n d m l l.length i = if (l.drop i).any badDim then some (.inr (.s ErrRange, ())) else some (.inl (d, (m, ())))
  | 0, i, h, h' => by omega
  | n + 1, i, h, h' => by
    rw [g_shape_Valid_0]
    simp only [cond_dec, Int.ofNat_lt, Int.toNat_natCast, Int.natCast_nonneg, if_true]
    by_cases hi : i < l.length
    · rw [if_pos hi, if_pos hi, wi64_succ (by omega), drop_cons hi 0, List.any_cons]
      rw [loop_Valid_0 N d m l hl n (i + 1) hi (by omega)]
      by_cases h1 : l.getD i 0 < 1
      · simp only [badDim, h1, decide_true, Bool.true_or, if_true]
      · by_cases h2 : 256 < l.getD i 0
        · simp only [badDim, h1, h2, decide_true, decide_false, Bool.or_true, Bool.true_or, if_true, if_false]
        · simp only [badDim, h1, h2, decide_false, Bool.or_self, Bool.false_or, if_false]
    · rw [if_neg hi, List.drop_eq_nil_of_le (by omega)]
      rfl

theorem loop_Valid_1 (N : Nat) (l : List Int) (hl : l.length < 1000) (hb : l.any badDim = false) : ∀ (n i : Nat) (m : Int), 1 ≤ m → m ≤ 16384 → i ≤ l.length → l.length < n + i →
    g_shape_Valid_1 N n m l l.length i = if overs m (l.drop i) then some (.inr (.s ErrMany, ())) else some (.inl ())
  | 0, i, m, _, _, h, h' => by omega
  | n + 1, i, m, hm, hm', h, h' => by
    rw [g_shape_Valid_1]
    simp only [cond_dec, Int.ofNat_lt, Int.toNat_natCast, Int.natCast_nonneg, if_true]
    by_cases hi : i < l.length
    · have hk : badDim (l.getD i 0) = false := by
        rw [getD_lt hi]
        rw [List.any_eq_false] at hb
        simpa using hb _ (List.getElem_mem hi)
      obtain ⟨k, hk0⟩ : ∃ k, k = l.getD i 0 := ⟨_, rfl⟩
      rw [← hk0] at hk
      simp only [badDim, Bool.or_eq_false_iff, decide_eq_false_iff_not] at hk
      have h1 : 1 ≤ m * k := by
        have := Int.mul_le_mul hm (show 1 ≤ k by omega) (by omega) (by omega)
        omega
      have h2 : m * k ≤ 16384 * 256 := Int.mul_le_mul hm' (by omega) (by omega) (by omega)
      rw [if_pos hi, if_pos hi, wi64_succ (by omega), drop_cons hi 0, overs, ← hk0, wi64_in (n := m * k) (by omega) (by omega)]
      by_cases h3 : 16384 < m * k
      · simp [h3]
      · rw [if_neg h3, loop_Valid_1 N l hl hb n (i + 1) (m * k) h1 (by omega) hi (by omega)]
        simp [h3]
    · rw [if_neg hi, List.drop_eq_nil_of_le (by omega)]
      rfl

theorem shape_Valid_spec {N : Nat} (hN : 20000 ≤ N) (d : D) : F_shape_Valid N d = some (shapeV d.1, ()) := by
  unfold F_shape_Valid shapeV
  simp only [cond_dec]
  by_cases h4 : 4 < d.1.length
  · rw [if_pos (by omega), if_pos h4]
  · rw [if_neg (by omega), if_neg h4]
    have h0 := loop_Valid_0 N (d, ()) 1 d.1 (by omega) N 0 (by omega) (by omega)
    rw [show ((0 : Nat) : Int) = 0 from rfl] at h0
    rw [h0, List.drop_zero]
    cases hb : d.1.any badDim with
    | true => rfl
    | false =>
      have h1 := loop_Valid_1 N d.1 (by omega) hb N 0 1 (by omega) (by omega) (by omega) (by omega)
      rw [show ((0 : Nat) : Int) = 0 from rfl, List.drop_zero] at h1
      simp only [Bool.false_eq_true, if_false, Option.bind_some, Sum.elim_inl]
      rw [h1]
      cases overs 1 d.1 <;> rfl

theorem shapeV_nil {sh : List Int} : shapeV sh = .nil ↔ sh.length ≤ 4 ∧ sh.any badDim = false ∧ overs 1 sh = false := by
  unfold shapeV
  by_cases h4 : 4 < sh.length
  · rw [if_pos h4]
    constructor
    · intro h; cases h
    · intro h; omega
  · rw [if_neg h4]
    cases hb : sh.any badDim <;> cases ho : overs 1 sh <;> simp <;> omega

/-- how many elements there are -/
def elems (sh : List Int) : Int := if (shapeV sh).isNil then sh.foldl (· * ·) 1 else 0

theorem shape_fair_spec {N : Nat} (hN : 20000 ≤ N) (sh : List Int) : F_shape_fair N sh = some ((shapeV sh).isNil, ()) := by
  unfold F_shape_fair
  rw [shape_Valid_spec hN]
  rfl

theorem loop_Elems (N : Nat) (l : List Int) (hl : l.length < 1000) (hb : l.any badDim = false) : ∀ (n i : Nat) (m : Int), 1 ≤ m → m ≤ 16384 → overs m (l.drop i) = false → i ≤ l.length → l.length < n + i →
    g_shape_Elems_0 N n m l l.length i = some ((l.drop i).foldl (· * ·) m, ())
  | 0, i, m, _, _, _, h, h' => by omega
  | n + 1, i, m, hm, hm', ho, h, h' => by
    rw [g_shape_Elems_0]
    simp only [cond_dec, Int.ofNat_lt, Int.toNat_natCast, Int.natCast_nonneg, if_true]
    by_cases hi : i < l.length
    · have hk : badDim (l.getD i 0) = false := by
        rw [getD_lt hi]
        rw [List.any_eq_false] at hb
        simpa using hb _ (List.getElem_mem hi)
      rw [drop_cons hi 0] at ho
      obtain ⟨k, hk0⟩ : ∃ k, k = l.getD i 0 := ⟨_, rfl⟩
      rw [← hk0] at hk ho
      simp only [badDim, Bool.or_eq_false_iff, decide_eq_false_iff_not] at hk
      simp only [overs, Bool.or_eq_false_iff, decide_eq_false_iff_not] at ho
      have h1 : 1 ≤ m * k := by
        have := Int.mul_le_mul hm (show 1 ≤ k by omega) (by omega) (by omega)
        omega
      rw [if_pos hi, if_pos hi, wi64_succ (by omega), drop_cons hi 0, ← hk0, wi64_in (n := m * k) (by omega) (by omega)]
      rw [loop_Elems N l hl hb n (i + 1) (m * k) h1 (by omega) ho.2 hi (by omega)]
      rfl
    · rw [if_neg hi, List.drop_eq_nil_of_le (by omega)]
      rfl

theorem shape_Elems_spec {N : Nat} (hN : 20000 ≤ N) (sh : List Int) : F_shape_Elems N sh = some (elems sh, ()) := by
  unfold F_shape_Elems elems
  rw [shape_fair_spec hN]
  simp only [Option.bind_some]
  cases h : (shapeV sh).isNil with
  | false => rfl
  | true =>
    obtain ⟨h1, h2, h3⟩ := shapeV_nil.1 ((isNil_iff _).1 h)
    have := loop_Elems N sh (by omega) h2 N 0 1 (by omega) (by omega) h3 (by omega) (by omega)
    rw [show ((0 : Nat) : Int) = 0 from rfl, List.drop_zero] at this
    simp only [Bool.not_true, cond_false, if_true]
    rw [this]
    rfl

theorem overs_bound : ∀ (l : List Int) (m : Int), 1 ≤ m → m ≤ 16384 → l.any badDim = false → overs m l = false → 1 ≤ l.foldl (· * ·) m ∧ l.foldl (· * ·) m ≤ 16384
  | [], m, h, h', _, _ => ⟨h, h'⟩
  | k :: r, m, h, h', hb, ho => by
    simp only [List.any_cons, Bool.or_eq_false_iff] at hb
    simp only [badDim, Bool.or_eq_false_iff, decide_eq_false_iff_not] at hb
    simp only [overs, Bool.or_eq_false_iff, decide_eq_false_iff_not] at ho
    have h1 : 1 ≤ m * k := by
      have := Int.mul_le_mul h (show 1 ≤ k by omega) (by omega) (by omega)
      omega
    exact overs_bound r (m * k) h1 (by omega) hb.2 ho.2

theorem elems_bound (sh : List Int) : 0 ≤ elems sh ∧ elems sh ≤ 16384 := by
  unfold elems
  split
  · rename_i h
    obtain ⟨h1, h2, h3⟩ := shapeV_nil.1 ((isNil_iff _).1 h)
    have := overs_bound sh 1 (by omega) (by omega) h2 h3
    omega
  · omega

/-- is a number one of a kind? -/
def fitsB (wide : Bool) (n : Int) : Bool := if wide then decide (-2147483648 ≤ n) && decide (n ≤ 2147483647) else decide (-128 ≤ n) && decide (n ≤ 127)

theorem tens_fits_spec (N : Nat) (n : Int) (w : Bool) : F_tens_fits N n w = some (fitsB w n, ()) := by
  unfold F_tens_fits fitsB
  cases w
  · simp only [cond_false]
    by_cases h : (-128 : Int) ≤ n <;> simp [h]
  · simp only [cond_true]
    by_cases h : (-2147483648 : Int) ≤ n <;> simp [h]

/-- what is amiss with a tensor -/
def tensV (t : T) : Er :=
  if (shapeV t.1.1).isNil then
    if (t.2.length : Int) = elems t.1.1 then
      match t.2.findIdx? (fun n => !fitsB t.1.2 n) with
      | some i => .at i ErrRange
      | none => .nil
    else .s ErrShape
  else shapeV t.1.1

theorem loop_tens_Valid (N : Nat) (t : T) (l : List Int) (hl : l.length < 1000000) : ∀ (n i : Nat), i ≤ l.length → l.length < n + i →
    g_tens_Valid_0 N n (t, ()) l l.length i = match (l.drop i).findIdx? (fun n => !fitsB t.1.2 n) with
      | some j => some (.inr (.at ((i + j : Nat) : Int) ErrRange, ()))
      | none => some (.inl ())
  | 0, i, h, h' => by omega
  | n + 1, i, h, h' => by
    rw [g_tens_Valid_0]
    simp only [cond_dec, Int.ofNat_lt, Int.toNat_natCast, Int.natCast_nonneg, if_true, tens_fits_spec, Option.bind_some]
    by_cases hi : i < l.length
    · rw [if_pos hi, if_pos hi, drop_cons hi 0, List.findIdx?_cons, wi64_succ (by omega)]
      cases hf : fitsB t.1.2 (l.getD i 0) with
      | false => simp
      | true =>
        simp only [Bool.not_true, cond_false, Bool.false_eq_true, if_false]
        rw [loop_tens_Valid N t l hl n (i + 1) hi (by omega)]
        cases (l.drop (i + 1)).findIdx? (fun n => !fitsB t.1.2 n) with
        | none => rfl
        | some j => simp only [Option.map_some]; rw [show i + 1 + j = i + (j + 1) from by omega]
    · rw [if_neg hi, List.drop_eq_nil_of_le (by omega)]
      rfl

theorem tens_Valid_spec {N : Nat} (hN : 20000 ≤ N) (t : T) : F_tens_Valid N t = some (tensV t, ()) := by
  unfold F_tens_Valid tensV
  rw [shape_Valid_spec hN, shape_Elems_spec hN]
  simp only [Option.bind_some]
  cases h : (shapeV t.1.1).isNil with
  | false => simp
  | true =>
    have hb := elems_bound t.1.1
    simp only [Bool.not_true, cond_false, cond_dec, if_true]
    by_cases he : (t.2.length : Int) = elems t.1.1
    · rw [if_neg (by simpa using he), if_pos he]
      have := loop_tens_Valid N t t.2 (by omega) N 0 (by omega) (by omega)
      rw [show ((0 : Nat) : Int) = 0 from rfl, List.drop_zero] at this
      rw [this]
      cases t.2.findIdx? (fun n => !fitsB t.1.2 n) with
      | none => rfl
      | some j => simp
    · rw [if_pos (by simpa using he), if_neg he]

def narrowB (n : Int) : Bool := decide (-128 ≤ n) && decide (n ≤ 127)

theorem tens_Narrow_spec (N : Nat) (n : Int) : F_tens_Narrow N n = some (max (-128) (min n 127), ()) := by
  unfold F_tens_Narrow imax imin
  congr 2
  split <;> split <;> omega

def noD : D := ([], false)
def noT : T := (noD, [])

theorem tens_Wide_spec (N : Nat) (n : Int) : F_tens_Wide N n = some (round32 n, ()) := by
  unfold F_tens_Wide
  rw [wide_chain]

abbrev boxT (l : List Int) (w : Bool) (d : List Int) : List Int × (Bool × (List Int × Unit)) := (l, (w, (d, ())))

theorem lodgeworld_Number_spec (N : Nat) (n b : Int) (h : 0 < b) (h' : b ≤ 1099511627776) : F_lodgeworld_Number N n b = some (n % b, ()) := by
  unfold F_lodgeworld_Number
  have := tmod_lt (n := n) h
  simp only [cond_dec]
  rw [if_pos (by omega), if_pos (by omega), wi64_in (by omega) (by omega), tmod_below h]

theorem loop_Ints (N : Nat) (l : List Int) (hl : l.length < 1000000) : ∀ (n i : Nat), i ≤ l.length → l.length < n + i →
    g_lodgeref_Ints_0 N n l (l.take i) i = some (l, ())
  | 0, i, h, h' => by omega
  | n + 1, i, h, h' => by
    rw [g_lodgeref_Ints_0]
    simp only [cond_dec, Int.ofNat_lt, Int.toNat_natCast, Int.natCast_nonneg, if_true, Nat.zero_add, List.length_append, List.length_cons, List.length_nil, List.length_take, Nat.min_eq_left h, Nat.min_self]
    by_cases hi : i < l.length
    · rw [if_pos hi, if_pos hi, if_pos (by unfold most; omega), wi64_succ (by omega), List.take_of_length_le (by simp; omega)]
      have : List.take i l ++ [l.getD i 0] = List.take (i + 1) l := by rw [getD_lt hi]; simp
      rw [this]
      exact loop_Ints N l hl n (i + 1) hi (by omega)
    · rw [if_neg hi, List.take_of_length_le (by omega)]

theorem lodgeref_Ints_spec {N : Nat} (l : List Int) (hl : l.length < 1000000) (hN : l.length < N) : F_lodgeref_Ints N l = some (l, ()) := by
  unfold F_lodgeref_Ints
  have h0 := loop_Ints N l hl N 0 (by omega) (by omega)
  rw [show ((0 : Nat) : Int) = 0 from rfl, List.take_zero] at h0
  simp only [cond_dec, List.replicate_zero]
  rw [if_pos (by unfold most; omega), h0]
  simp

theorem loop_SameInts (N : Nat) (a b : List Int) (ha : a.length = b.length) (hl : a.length < 1000000) : ∀ (n i : Nat), i ≤ a.length → a.length < n + i → a.take i = b.take i →
    g_lodgeref_SameInts_0 N n a b i = if a = b then some (.inl ()) else some (.inr (false, ()))
  | 0, i, h, h', _ => by omega
  | n + 1, i, h, h', ht => by
    rw [g_lodgeref_SameInts_0]
    simp only [cond_dec, Int.ofNat_lt, Int.toNat_natCast, Int.natCast_nonneg, if_true]
    by_cases hi : i < a.length
    · rw [if_pos hi, if_pos hi, if_pos (by omega), wi64_succ (by omega)]
      by_cases he : a.getD i 0 = b.getD i 0
      · simp only [he, decide_true, Bool.not_true, cond_false]
        refine loop_SameInts N a b ha hl n (i + 1) hi (by omega) ?_
        rw [List.take_succ_eq_append_getElem hi, List.take_succ_eq_append_getElem (by omega), ht]
        rw [getD_lt hi, getD_lt (by omega)] at he
        rw [he]
      · have : a ≠ b := fun e => he (by rw [e])
        rw [if_neg this]
        simp only [he, decide_false, Bool.not_false, cond_true]
    · rw [if_neg hi]
      have : a = b := by
        rw [List.take_of_length_le (by omega), List.take_of_length_le (by omega)] at ht
        exact ht
      rw [if_pos this]

theorem lodgeref_SameInts_spec {N : Nat} (a b : List Int) (hl : a.length < 1000000) (hN : a.length < N) : F_lodgeref_SameInts N a b = some (decide (a = b), ()) := by
  unfold F_lodgeref_SameInts
  simp only [cond_dec]
  by_cases h : a.length = b.length
  · rw [if_neg (by omega)]
    have := loop_SameInts N a b h hl N 0 (by omega) (by omega) (by simp)
    rw [show ((0 : Nat) : Int) = 0 from rfl] at this
    rw [this]
    by_cases e : a = b <;> simp [e]
  · rw [if_pos (by omega)]
    have : a ≠ b := fun e => h (by rw [e])
    simp [this]

theorem getD_in {d : List Int} (hf : ∀ x, x ∈ d → -128 ≤ x ∧ x ≤ 127) (p : Nat) : -128 ≤ d.getD p 0 ∧ d.getD p 0 ≤ 127 := by
  rcases Nat.lt_or_ge p d.length with h | h
  · rw [getD_lt h]; exact hf _ (List.getElem_mem h)
  · rw [List.getD_eq_getElem?_getD, List.getElem?_eq_none h]; simp

theorem mod_nat (n : Int) (b : Nat) (hb : 0 < b) : ∃ M : Nat, M < b ∧ n % (b : Int) = (M : Int) := by
  have h1 := Int.emod_nonneg n (show (b : Int) ≠ 0 by omega)
  have h2 := Int.emod_lt_of_pos n (show (0 : Int) < b by omega)
  exact ⟨(n % (b : Int)).toNat, by omega, by omega⟩

theorem take_app_one (l : List Int) (x : Int) : List.take (l.length + 1) (List.take l.length l ++ [x]) = l ++ [x] := by
  rw [List.take_length]
  exact List.take_of_length_le (by simp)

theorem Number_nat {N : Nat} (n : Int) (b : Nat) (hb : 0 < b) (hb' : b ≤ 1000) : ∃ M : Nat, M < b ∧ F_lodgeworld_Number N n (b : Int) = some ((M : Int), ()) := by
  obtain ⟨M, hM, e⟩ := mod_nat n b hb
  exact ⟨M, hM, by rw [lodgeworld_Number_spec N n b (by omega) (by omega), e]⟩

theorem loop_Equal (N : Nat) (a b : List Int) (ha : a.length = b.length) (hl : a.length < 1000000) : ∀ (n i : Nat), i ≤ a.length → a.length < n + i → a.take i = b.take i →
    g_slices_Equal_int_int_0 N n a b a.length i = if a = b then some (.inl ()) else some (.inr (false, ()))
  | 0, i, h, h', _ => by omega
  | n + 1, i, h, h', ht => by
    rw [g_slices_Equal_int_int_0]
    simp only [cond_dec, Int.ofNat_lt, Int.toNat_natCast, Int.natCast_nonneg, if_true]
    by_cases hi : i < a.length
    · rw [if_pos hi, if_pos hi, if_pos (by omega), wi64_succ (by omega)]
      by_cases he : a.getD i 0 = b.getD i 0
      · rw [if_neg (fun h => h he)]
        refine loop_Equal N a b ha hl n (i + 1) hi (by omega) ?_
        rw [List.take_succ_eq_append_getElem hi, List.take_succ_eq_append_getElem (by omega), ht]
        rw [getD_lt hi, getD_lt (by omega)] at he
        rw [he]
      · have : a ≠ b := fun e => he (by rw [e])
        rw [if_neg this, if_pos he]
    · rw [if_neg hi]
      have : a = b := by
        rw [List.take_of_length_le (by omega), List.take_of_length_le (by omega)] at ht
        exact ht
      rw [if_pos this]

theorem slices_Equal_spec {N : Nat} (a b : List Int) (hl : a.length < 1000000) (hN : a.length < N) : F_slices_Equal_int_int N a b = some (decide (a = b), ()) := by
  unfold F_slices_Equal_int_int
  simp only [cond_dec]
  by_cases h : a.length = b.length
  · rw [if_neg (by omega)]
    have := loop_Equal N a b h hl N 0 (by omega) (by omega) (by simp)
    rw [show ((0 : Nat) : Int) = 0 from rfl] at this
    rw [this]
    by_cases e : a = b <;> simp [e]
  · rw [if_pos (by omega)]
    have : a ≠ b := fun e => h (by rw [e])
    simp [this]

theorem tens_Same_refl {N : Nat} (a : T) (h1 : a.1.1.length < 1000000) (h1' : a.1.1.length < N) (h2 : a.2.length < 1000000) (h2' : a.2.length < N) : F_tens_Same N a a = some (true, ()) := by
  unfold F_tens_Same F_shape_Same
  refine bnd (true, ()) ?_ ?_
  · refine bT (by simp) ?_
    refine bnd _ (slices_Equal_spec _ _ h1 h1') ?_
    simp
  · refine bT rfl ?_
    refine bnd _ (slices_Equal_spec _ _ h2 h2') ?_
    simp

theorem imax_eq (a b : Int) : imax a b = max a b := by
  unfold imax
  split <;> omega
theorem imin_eq (a b : Int) : imin a b = min a b := by
  unfold imin
  split <;> omega

/-- which of a kernel's places lie inside: of numbers that are small -/
def insF (s p o : Int) : Int := max 0 (p - o * s)
def insT (n k s p o : Int) : Int := min k (n - (o * s - p))

theorem conv_Inside_zero (N : Nat) (n k s p o : Int) (h : n < 0 ∨ p < 0 ∨ o < 0 ∨ k < 1 ∨ n < 1 ∨ s < 1) : F_conv_Inside N n k s p o = some (0, (0, ())) := by
  unfold F_conv_Inside
  simp only [cond_dec]
  by_cases h1 : n < 0
  · rw [if_pos h1]
  rw [if_neg h1]
  by_cases h2 : p < 0
  · rw [if_pos h2]
  rw [if_neg h2]
  by_cases h3 : o < 0
  · rw [if_pos h3]
  rw [if_neg h3]
  by_cases h4 : k < 1
  · rw [if_pos h4]
  rw [if_neg h4]
  by_cases h5 : n < 1
  · rw [if_pos h5]
  rw [if_neg h5]
  rw [if_pos (by omega)]

theorem conv_Inside_spec (N : Nat) (n k s p o : Int) (hn : 1 ≤ n ∧ n ≤ 1048576) (hk : 1 ≤ k ∧ k ≤ 1048576) (hs : 1 ≤ s ∧ s ≤ 1048576) (hp : 0 ≤ p ∧ p ≤ 1048576) (ho : 0 ≤ o ∧ o ≤ 1048576) :
    F_conv_Inside N n k s p o = some (if insT n k s p o ≤ insF s p o then (0, (0, ())) else (insF s p o, (insT n k s p o, ()))) := by
  have hos : 0 ≤ o * s ∧ o * s ≤ 1048576 * 1048576 := ⟨Int.mul_nonneg (by omega) (by omega), Int.mul_le_mul ho.2 hs.2 (by omega) (by omega)⟩
  unfold F_conv_Inside
  refine cF (by omega) ?_
  refine cF (by omega) ?_
  refine cF (by omega) ?_
  refine cF (by omega) ?_
  refine cF (by omega) ?_
  refine cF (by omega) ?_
  refine cF (by simp only [imax_eq]; omega) ?_
  have e0 : wi64 (o * s) = o * s := wi64_in (by omega) (by omega)
  have e1 : wi64 (o * s - p) = o * s - p := wi64_in (by omega) (by omega)
  have e2 : wi64 (n - (o * s - p)) = n - (o * s - p) := wi64_in (by omega) (by omega)
  have e3 : wi64 (0 - (o * s - p)) = p - o * s := by rw [wi64_in (by omega) (by omega)]; omega
  simp only [e0, e1, e2, e3, imax_eq, imin_eq, cond_dec]
  unfold insT insF
  by_cases h : min k (n - (o * s - p)) ≤ max 0 (p - o * s)
  · rw [if_pos h, if_pos h]
  · rw [if_neg h, if_neg h]

/-- both ends -/
def insA (n k s p o : Int) : Int := if insT n k s p o ≤ insF s p o then 0 else insF s p o
def insB (n k s p o : Int) : Int := if insT n k s p o ≤ insF s p o then 0 else insT n k s p o

theorem conv_Inside_ab (N : Nat) (n k s p o : Int) (hn : 1 ≤ n ∧ n ≤ 1048576) (hk : 1 ≤ k ∧ k ≤ 1048576) (hs : 1 ≤ s ∧ s ≤ 1048576) (hp : 0 ≤ p ∧ p ≤ 1048576) (ho : 0 ≤ o ∧ o ≤ 1048576) :
    F_conv_Inside N n k s p o = some (insA n k s p o, (insB n k s p o, ())) := by
  rw [conv_Inside_spec N n k s p o hn hk hs hp ho]
  unfold insA insB
  split <;> rfl

theorem ins_bounds (n k s p o : Int) (hk : 1 ≤ k) : 0 ≤ insA n k s p o ∧ insA n k s p o ≤ insB n k s p o ∧ insB n k s p o ≤ k := by
  unfold insA insB insF insT
  split <;> omega

theorem ins_iff (n k s p o d : Int) (hd : 0 ≤ d ∧ d < k) : (insA n k s p o ≤ d ∧ d < insB n k s p o) ↔ (0 ≤ o * s - p + d ∧ o * s - p + d < n) := by
  unfold insA insB insF insT
  split <;> omega

end Go.Proofs.YtbpifndhkdbmhaaDoor.Lg
