/-
  What the program's functions come to, in plain words.
-/
import Derived.Test.YtbpifndhkdbmhaaDoorLgConvBP
namespace Go.Proofs.YtbpifndhkdbmhaaDoor.Lg
open Go Go.Eng Go.Proofs

theorem imax_eq (a b : Int) : imax a b = max a b := by
  unfold imax
  split <;> omega

theorem imin_eq (a b : Int) : imin a b = min a b := by
  unfold imin
  split <;> omega

/-- which of a kernel's places lie inside: of numbers that are small -/
def insF (s p o : Int) : Int := max 0 (p - o * s)

def insT (n k s p o : Int) : Int := min k (n - (o * s - p))

theorem conv_Inside_zero (N : Nat) (n k s p o : Int) (h : n < 0 ∨ p < 0 ∨ o < 0 ∨ k < 1 ∨ n < 1 ∨ s < 1) : F_conv_Inside N n k s p o = some (0, (0, ())) := by
  unfold F_conv_Inside
  simp only [cond_dec]
  by_cases h1 : n < 0
  · rw [if_pos h1]
  rw [if_neg h1]
  by_cases h2 : p < 0
  · rw [if_pos h2]
  rw [if_neg h2]
  by_cases h3 : o < 0
  · rw [if_pos h3]
  rw [if_neg h3]
  by_cases h4 : k < 1
  · rw [if_pos h4]
  rw [if_neg h4]
  by_cases h5 : n < 1
  · rw [if_pos h5]
  rw [if_neg h5]
  rw [if_pos (by omega)]

theorem conv_Inside_spec (N : Nat) (n k s p o : Int) (hn : 1 ≤ n ∧ n ≤ 1048576) (hk : 1 ≤ k ∧ k ≤ 1048576) (hs : 1 ≤ s ∧ s ≤ 1048576) (hp : 0 ≤ p ∧ p ≤ 1048576) (ho : 0 ≤ o ∧ o ≤ 1048576) :
    F_conv_Inside N n k s p o = some (if insT n k s p o ≤ insF s p o then (0, (0, ())) else (insF s p o, (insT n k s p o, ()))) := by
  have hos : 0 ≤ o * s ∧ o * s ≤ 1048576 * 1048576 := ⟨Int.mul_nonneg (by omega) (by omega), Int.mul_le_mul ho.2 hs.2 (by omega) (by omega)⟩
  unfold F_conv_Inside
  refine cF (by omega) ?_
  refine cF (by omega) ?_
  refine cF (by omega) ?_
  refine cF (by omega) ?_
  refine cF (by omega) ?_
  refine cF (by omega) ?_
  refine cF (by simp only [imax_eq]; omega) ?_
  have e0 : wi64 (o * s) = o * s := wi64_in (by omega) (by omega)
  have e1 : wi64 (o * s - p) = o * s - p := wi64_in (by omega) (by omega)
  have e2 : wi64 (n - (o * s - p)) = n - (o * s - p) := wi64_in (by omega) (by omega)
  have e3 : wi64 (0 - (o * s - p)) = p - o * s := by rw [wi64_in (by omega) (by omega)]; omega
  simp only [e0, e1, e2, e3, imax_eq, imin_eq, cond_dec]
  unfold insT insF
  by_cases h : min k (n - (o * s - p)) ≤ max 0 (p - o * s)
  · rw [if_pos h, if_pos h]
  · rw [if_neg h, if_neg h]

/-- both ends -/
def insA (n k s p o : Int) : Int := if insT n k s p o ≤ insF s p o then 0 else insF s p o

def insB (n k s p o : Int) : Int := if insT n k s p o ≤ insF s p o then 0 else insT n k s p o

theorem conv_Inside_ab (N : Nat) (n k s p o : Int) (hn : 1 ≤ n ∧ n ≤ 1048576) (hk : 1 ≤ k ∧ k ≤ 1048576) (hs : 1 ≤ s ∧ s ≤ 1048576) (hp : 0 ≤ p ∧ p ≤ 1048576) (ho : 0 ≤ o ∧ o ≤ 1048576) :
    F_conv_Inside N n k s p o = some (insA n k s p o, (insB n k s p o, ())) := by
  rw [conv_Inside_spec N n k s p o hn hk hs hp ho]
  unfold insA insB
  split <;> rfl

theorem ins_bounds (n k s p o : Int) (hk : 1 ≤ k) : 0 ≤ insA n k s p o ∧ insA n k s p o ≤ insB n k s p o ∧ insB n k s p o ≤ k := by
  unfold insA insB insF insT
  split <;> omega

theorem ins_iff (n k s p o d : Int) (hd : 0 ≤ d ∧ d < k) : (insA n k s p o ≤ d ∧ d < insB n k s p o) ↔ (0 ≤ o * s - p + d ∧ o * s - p + d < n) := by
  unfold insA insB insF insT
  split <;> omega

theorem loop_conv_Result {N : Nat} (hN : 20000 ≤ N) (ar : List Int) (a b : D × Unit) (t : List Int × Bool × Unit) (l : List D) (hl : l.length < 1000000) : ∀ (n i : Nat), i ≤ l.length → l.length < n + i →
    g_conv_Result_0 N n ar a b t l l.length i = match (l.drop i).find? (fun d => !(shapeV d.1).isNil) with
      | some d => some (.inr (([], (false, ())), (shapeV d.1, ())))
      | none => some (.inl (ar, (a, (b, (t, ())))))
  | 0, i, h, h' => by omega
  | n + 1, i, h, h' => by
    rw [g_conv_Result_0]
    simp only [cond_dec, Int.ofNat_lt, Int.toNat_natCast, Int.natCast_nonneg, if_true, Nat.zero_add, shape_Valid_spec hN, Option.bind_some]
    by_cases hi : i < l.length
    · rw [if_pos hi, if_pos hi, if_pos hi, drop_cons hi ([], false), List.find?_cons, wi64_succ (by omega)]
      cases hf : (shapeV (l.getD i ([], false)).1).isNil with
      | false => simp
      | true =>
        simp only [Bool.not_true, cond_false]
        exact loop_conv_Result hN ar a b t l hl n (i + 1) hi (by omega)
    · rw [if_neg hi, List.drop_eq_nil_of_le (by omega)]
      rfl

/-- what a convolution looks like -/
def convSh (s p : Int) (a k : List Int) : List Int := [(a.getD 0 0 + 2 * p - k.getD 0 0) / s + 1, (a.getD 1 0 + 2 * p - k.getD 1 0) / s + 1, k.getD 3 0]

def convRes (ar : List Int) (a k : D) : D × Er :=
  if ar.length ≠ 3 then (noD, .s ErrShape)
  else if !(shapeV a.1).isNil then (noD, shapeV a.1)
  else if !(shapeV k.1).isNil then (noD, shapeV k.1)
  else if a.1.length ≠ 3 ∨ k.1.length ≠ 4 ∨ a.1.getD 2 0 ≠ k.1.getD 2 0 ∨ a.2 = true ∨ k.2 = true then (noD, .s ErrShape)
  else if ar.getD 0 0 < 1 ∨ 16 < ar.getD 0 0 ∨ ar.getD 1 0 < 0 ∨ 15 < ar.getD 1 0 ∨ narrowB (ar.getD 2 0) = false then (noD, .s ErrRange)
  else if a.1.getD 0 0 + 2 * ar.getD 1 0 - k.1.getD 0 0 < 0 ∨ a.1.getD 1 0 + 2 * ar.getD 1 0 - k.1.getD 1 0 < 0 then (noD, .s ErrShape)
  else if (shapeV (convSh (ar.getD 0 0) (ar.getD 1 0) a.1 k.1)).isNil then ((convSh (ar.getD 0 0) (ar.getD 1 0) a.1 k.1, true), .nil)
  else (noD, shapeV (convSh (ar.getD 0 0) (ar.getD 1 0) a.1 k.1))

theorem shapeV_dims {sh : List Int} (h : shapeV sh = .nil) (i : Nat) (hi : i < sh.length) : 1 ≤ sh.getD i 0 ∧ sh.getD i 0 ≤ 256 := by
  obtain ⟨_, h2, _⟩ := shapeV_nil.1 h
  rw [List.any_eq_false] at h2
  have := h2 _ (List.getElem_mem hi)
  rw [getD_lt hi]
  simp only [badDim, Bool.or_eq_true, decide_eq_true_eq, not_or] at this
  omega

theorem tdiv_pos {a b : Int} (h : 0 ≤ a) (h' : a ≤ 1000000) (hb : 1 ≤ b) : wi64 (Int.tdiv a b) = a / b := by
  rw [Int.tdiv_eq_ediv_of_nonneg h]
  have h1 : 0 ≤ a / b := Int.ediv_nonneg h (by omega)
  have h2 : a / b ≤ a := Int.ediv_le_self b h
  exact wi64_in (by omega) (by omega)

theorem conv_Result_spec {N : Nat} (hN : 20000 ≤ N) (ar : List Int) (a k : D) : F_conv_Result N ar a k = some ((convRes ar a k).1, ((convRes ar a k).2, ())) := by
  unfold F_conv_Result convRes
  by_cases hl : ar.length = 3
  case neg =>
    rw [if_pos hl]
    exact cT (by omega) rfl
  rw [if_neg (fun h => h hl)]
  refine cF (by omega) ?_
  have h0 := loop_conv_Result hN ar (a, ()) (k, ()) ([], false, ()) [a, k] (by simp) N 0 (by simp) (by simp; omega)
  rw [show ((0 : Nat) : Int) = 0 from rfl, List.drop_zero] at h0
  simp only [List.length_cons, List.length_nil, Nat.zero_add, Nat.reduceAdd] at h0
  rw [h0]
  cases ha0 : (shapeV a.1).isNil with
  | false =>
    simp only [List.find?_cons, ha0, Bool.not_false, Option.bind_some, Sum.elim_inr, if_true]
    rfl
  | true =>
    cases hk0 : (shapeV k.1).isNil with
    | false =>
      simp only [List.find?_cons, ha0, hk0, Bool.not_true, Bool.not_false, Option.bind_some, Sum.elim_inr, if_true, Bool.false_eq_true, if_false]
      rfl
    | true =>
      have ha := (isNil_iff _).1 ha0
      have hk := (isNil_iff _).1 hk0
      simp only [List.find?_cons, List.find?_nil, ha0, hk0, Bool.not_true, Option.bind_some, Sum.elim_inl, Bool.false_eq_true, if_false]
      obtain ⟨β, hβ⟩ : ∃ β : Bool, β = decide (a.1.length ≠ 3 ∨ k.1.length ≠ 4 ∨ a.1.getD 2 0 ≠ k.1.getD 2 0 ∨ a.2 = true ∨ k.2 = true) := ⟨_, rfl⟩
      refine bnd (ar, ((a, ()), ((k, ()), (([], (false, ())), (β, ()))))) ?_ ?_
      · by_cases h1 : a.1.length = 3
        case neg =>
          refine cT (by first | omega | (dsimp only; omega) | (simp; omega)) ?_
          (repeat first | refine cT rfl ?_ | refine cT True.intro ?_)
          rw [show β = true by rw [hβ]; exact decide_eq_true (.inl h1)]
        refine cF (by first | omega | (dsimp only; omega) | (simp; omega)) ?_
        by_cases h2 : k.1.length = 4
        case neg =>
          refine cT (by first | omega | (dsimp only; omega) | (simp; omega)) ?_
          (repeat first | refine cT rfl ?_ | refine cT True.intro ?_)
          rw [show β = true by rw [hβ]; exact decide_eq_true (.inr (.inl h2))]
        refine cF (by first | omega | (dsimp only; omega) | (simp; omega)) (cT (by omega) (cT (by omega) ?_))
        by_cases h3 : a.1.getD 2 0 = k.1.getD 2 0
        case neg =>
          refine cT h3 ?_
          (repeat first | refine cT rfl ?_ | refine cT True.intro ?_)
          rw [show β = true by rw [hβ]; exact decide_eq_true (.inr (.inr (.inl h3)))]
        refine cF (fun h => h h3) ?_
        by_cases h4 : a.2 = true
        · refine bT h4 ?_
          (repeat first | refine cT rfl ?_ | refine cT True.intro ?_)
          rw [show β = true by rw [hβ]; exact decide_eq_true (.inr (.inr (.inr (.inl h4))))]
        refine bF (by simpa using h4) ?_
        (repeat first | refine cT rfl ?_ | refine cT True.intro ?_)
        by_cases h5 : k.2 = true
        · rw [show β = true by rw [hβ]; exact decide_eq_true (.inr (.inr (.inr (.inr h5)))), h5]
        · rw [show β = false by rw [hβ]; exact decide_eq_false (by rintro (h | h | h | h | h); exact h h1; exact h h2; exact h h3; exact h4 h; exact h5 h), show k.2 = false by simpa using h5]
      rw [hβ]
      by_cases hB : a.1.length ≠ 3 ∨ k.1.length ≠ 4 ∨ a.1.getD 2 0 ≠ k.1.getD 2 0 ∨ a.2 = true ∨ k.2 = true
      case pos => rw [if_pos hB]; exact cT hB rfl
      rw [if_neg hB]
      refine cF hB ?_
      simp only [not_or, ne_eq, Decidable.not_not] at hB
      obtain ⟨h1, h2, h3, h4, h5⟩ := hB
      refine cT (by dsimp only; omega) (cT (by dsimp only; omega) (cT (by dsimp only; omega) ?_))
      dsimp only
      obtain ⟨β, hβ⟩ : ∃ β : Bool, β = decide (ar.getD 0 0 < 1 ∨ 16 < ar.getD 0 0 ∨ ar.getD 1 0 < 0 ∨ 15 < ar.getD 1 0 ∨ narrowB (ar.getD 2 0) = false) := ⟨_, rfl⟩
      refine bnd ((a, ()), ((k, ()), (([], (false, ())), (ar.getD 0 0, (ar.getD 1 0, (β, ())))))) ?_ ?_
      · by_cases r1 : ar.getD 0 0 < 1
        · refine cT r1 ?_
          (repeat first | refine cT rfl ?_ | refine cT True.intro ?_)
          rw [show β = true by rw [hβ]; exact decide_eq_true (.inl r1)]
        refine cF r1 ?_
        by_cases r2 : 16 < ar.getD 0 0
        · refine cT r2 ?_
          (repeat first | refine cT rfl ?_ | refine cT True.intro ?_)
          rw [show β = true by rw [hβ]; exact decide_eq_true (.inr (.inl r2))]
        refine cF r2 ?_
        by_cases r3 : ar.getD 1 0 < 0
        · refine cT r3 ?_
          (repeat first | refine cT rfl ?_ | refine cT True.intro ?_)
          rw [show β = true by rw [hβ]; exact decide_eq_true (.inr (.inr (.inl r3)))]
        refine cF r3 ?_
        by_cases r4 : 15 < ar.getD 1 0
        · refine cT r4 ?_
          (repeat first | refine cT rfl ?_ | refine cT True.intro ?_)
          rw [show β = true by rw [hβ]; exact decide_eq_true (.inr (.inr (.inr (.inl r4))))]
        refine cF r4 (bnd _ (tens_Narrow_spec N _) ?_)
        (repeat first | refine cT rfl ?_ | refine cT True.intro ?_)
        by_cases r5 : narrowB (ar.getD 2 0) = false
        · rw [show β = true by rw [hβ]; exact decide_eq_true (.inr (.inr (.inr (.inr r5))))]
          rw [decide_eq_true]
          simp only [narrowB, Bool.and_eq_false_iff, decide_eq_false_iff_not] at r5
          intro e
          omega
        · rw [show β = false by rw [hβ]; exact decide_eq_false (by rintro (h | h | h | h | h); exact r1 h; exact r2 h; exact r3 h; exact r4 h; exact r5 h)]
          rw [decide_eq_false]
          simp only [narrowB, Bool.not_eq_false, Bool.and_eq_true, decide_eq_true_eq] at r5
          intro e
          apply e
          omega
      rw [hβ]
      by_cases hB : ar.getD 0 0 < 1 ∨ 16 < ar.getD 0 0 ∨ ar.getD 1 0 < 0 ∨ 15 < ar.getD 1 0 ∨ narrowB (ar.getD 2 0) = false
      case pos => rw [if_pos hB]; exact cT hB rfl
      rw [if_neg hB]
      refine cF hB ?_
      simp only [not_or, Int.not_lt] at hB
      obtain ⟨r1, r2, r3, r4, r5⟩ := hB
      have a0 := shapeV_dims ha 0 (by omega)
      have a1 := shapeV_dims ha 1 (by omega)
      have k0 := shapeV_dims hk 0 (by omega)
      have k1 := shapeV_dims hk 1 (by omega)
      have w2 : wi64 (2 * ar.getD 1 0) = 2 * ar.getD 1 0 := wi64_in (by omega) (by omega)
      have e0 : wi64 (a.1.getD 0 0 + 2 * ar.getD 1 0) = a.1.getD 0 0 + 2 * ar.getD 1 0 := wi64_in (by omega) (by omega)
      have e1 : wi64 (a.1.getD 1 0 + 2 * ar.getD 1 0) = a.1.getD 1 0 + 2 * ar.getD 1 0 := wi64_in (by omega) (by omega)
      have e0' : wi64 (a.1.getD 0 0 + 2 * ar.getD 1 0 - k.1.getD 0 0) = a.1.getD 0 0 + 2 * ar.getD 1 0 - k.1.getD 0 0 := wi64_in (by omega) (by omega)
      have e1' : wi64 (a.1.getD 1 0 + 2 * ar.getD 1 0 - k.1.getD 1 0) = a.1.getD 1 0 + 2 * ar.getD 1 0 - k.1.getD 1 0 := wi64_in (by omega) (by omega)
      simp only [w2, e0, e1, e0', e1']
      refine cT (by omega) (cT (by omega) (cT (by omega) (cT (by omega) ?_)))
      refine bnd ((k, ()), (([], (false, ())), (ar.getD 0 0, (a.1.getD 0 0 + 2 * ar.getD 1 0 - k.1.getD 0 0, (a.1.getD 1 0 + 2 * ar.getD 1 0 - k.1.getD 1 0, (decide (a.1.getD 0 0 + 2 * ar.getD 1 0 - k.1.getD 0 0 < 0 ∨ a.1.getD 1 0 + 2 * ar.getD 1 0 - k.1.getD 1 0 < 0), ())))))) ?_ ?_
      · by_cases q1 : a.1.getD 0 0 + 2 * ar.getD 1 0 - k.1.getD 0 0 < 0
        · refine cT q1 ?_
          (repeat first | refine cT rfl ?_ | refine cT True.intro ?_)
          rw [decide_eq_true (p := _ ∨ _) (.inl q1)]
        refine cF q1 ?_
        (repeat first | refine cT rfl ?_ | refine cT True.intro ?_)
        by_cases q2 : a.1.getD 1 0 + 2 * ar.getD 1 0 - k.1.getD 1 0 < 0
        · rw [decide_eq_true (p := _ ∨ _) (.inr q2), decide_eq_true q2]
        · rw [decide_eq_false (p := _ ∨ _) (by rintro (h | h) <;> contradiction), decide_eq_false q2]
      by_cases hB : a.1.getD 0 0 + 2 * ar.getD 1 0 - k.1.getD 0 0 < 0 ∨ a.1.getD 1 0 + 2 * ar.getD 1 0 - k.1.getD 1 0 < 0
      case pos => rw [if_pos hB]; exact cT hB rfl
      rw [if_neg hB]
      refine cF hB ?_
      simp only [not_or, Int.not_lt] at hB
      obtain ⟨q1, q2⟩ := hB
      have b1 : 0 ≤ (a.1.getD 0 0 + 2 * ar.getD 1 0 - k.1.getD 0 0) / ar.getD 0 0 := Int.ediv_nonneg (by omega) (by omega)
      have b2 : (a.1.getD 0 0 + 2 * ar.getD 1 0 - k.1.getD 0 0) / ar.getD 0 0 ≤ a.1.getD 0 0 + 2 * ar.getD 1 0 - k.1.getD 0 0 := Int.ediv_le_self _ (by omega)
      have b3 : 0 ≤ (a.1.getD 1 0 + 2 * ar.getD 1 0 - k.1.getD 1 0) / ar.getD 0 0 := Int.ediv_nonneg (by omega) (by omega)
      have b4 : (a.1.getD 1 0 + 2 * ar.getD 1 0 - k.1.getD 1 0) / ar.getD 0 0 ≤ a.1.getD 1 0 + 2 * ar.getD 1 0 - k.1.getD 1 0 := Int.ediv_le_self _ (by omega)
      refine cT (by dsimp only; omega) (cT (by dsimp only; omega) (cT (by dsimp only; omega) ?_))
      dsimp only
      rw [tdiv_pos (by omega) (by omega) (by omega), tdiv_pos (by omega) (by omega) (by omega), wi64_in (n := (a.1.getD 0 0 + 2 * ar.getD 1 0 - k.1.getD 0 0) / ar.getD 0 0 + 1) (by omega) (by omega), wi64_in (n := (a.1.getD 1 0 + 2 * ar.getD 1 0 - k.1.getD 1 0) / ar.getD 0 0 + 1) (by omega) (by omega)]
      refine bnd _ (shape_Valid_spec hN _) ?_
      unfold convSh
      cases hv : (shapeV [(a.1.getD 0 0 + 2 * ar.getD 1 0 - k.1.getD 0 0) / ar.getD 0 0 + 1, (a.1.getD 1 0 + 2 * ar.getD 1 0 - k.1.getD 1 0) / ar.getD 0 0 + 1, k.1.getD 3 0]).isNil with
      | true => exact bF (by simp [hv]) rfl
      | false => exact bT (by simp [hv]) rfl

theorem loop_conv_result {N : Nat} (hN : 20000 ≤ N) (ar : List Int) (a b : T × Unit) (t : List Int × Bool × Unit) (l : List T) (hl : l.length < 1000000) : ∀ (n i : Nat), i ≤ l.length → l.length < n + i →
    g_conv_result_0 N n ar a b t l l.length i = match (l.drop i).find? (fun d => !(tensV d).isNil) with
      | some d => some (.inr (([], (false, ())), (tensV d, ())))
      | none => some (.inl (ar, (a, (b, (t, ())))))
  | 0, i, h, h' => by omega
  | n + 1, i, h, h' => by
    rw [g_conv_result_0]
    simp only [cond_dec, Int.ofNat_lt, Int.toNat_natCast, Int.natCast_nonneg, if_true, Nat.zero_add, tens_Valid_spec hN, Option.bind_some]
    by_cases hi : i < l.length
    · rw [if_pos hi, if_pos hi, if_pos hi, drop_cons hi (([], false), []), List.find?_cons, wi64_succ (by omega)]
      cases hf : (tensV (l.getD i (([], false), []))).isNil with
      | false => simp
      | true =>
        simp only [Bool.not_true, cond_false]
        exact loop_conv_result hN ar a b t l hl n (i + 1) hi (by omega)
    · rw [if_neg hi, List.drop_eq_nil_of_le (by omega)]
      rfl

/-- what the convolution of tensors looks like -/
def convRes' (a k : T) (ar : List Int) : D × Er :=
  if !(tensV a).isNil then (noD, tensV a)
  else if !(tensV k).isNil then (noD, tensV k)
  else convRes ar a.1 k.1

theorem conv_result_spec {N : Nat} (hN : 20000 ≤ N) (a k : T) (ar : List Int) : F_conv_result N a k ar = some ((convRes' a k ar).1, ((convRes' a k ar).2, ())) := by
  unfold F_conv_result convRes'
  have h0 := loop_conv_result hN ar (a, ()) (k, ()) ([], false, ()) [a, k] (by simp) N 0 (by simp) (by simp; omega)
  rw [show ((0 : Nat) : Int) = 0 from rfl, List.drop_zero] at h0
  simp only [List.length_cons, List.length_nil, Nat.zero_add, Nat.reduceAdd] at h0
  rw [h0]
  cases ha : (tensV a).isNil with
  | false => simp [ha, noD, cond_dec]
  | true =>
    cases hb : (tensV k).isNil with
    | false => simp [ha, hb, noD, cond_dec]
    | true =>
      simp only [List.find?_cons, List.find?_nil, ha, hb, Bool.not_true, Option.bind_some, Sum.elim_inl, conv_Result_spec hN, Bool.false_eq_true, if_false]

theorem conv_of_1_spec (N : Nat) (i : Nat) (t : T) (h : i < t.2.length) : F_conv_of_1 N (i : Int) t = some (t.2.getD i 0, ()) := by
  unfold F_conv_of_1
  refine cT (by omega) ?_
  refine cT (by simpa using h) ?_
  simp

/-- what a convolution is made of -/
structure ConvOK (a k : T) (za : Int) (h w c kh kw n s p : Nat) : Prop where
  hh : 1 ≤ h ∧ h ≤ 256
  hw : 1 ≤ w ∧ w ≤ 256
  hc : 1 ≤ c ∧ c ≤ 256
  hkh : 1 ≤ kh ∧ kh ≤ 256
  hkw : 1 ≤ kw ∧ kw ≤ 256
  hn : 1 ≤ n ∧ n ≤ 256
  hs : 1 ≤ s ∧ s ≤ 16
  hp : p ≤ 15
  sa : a.1.1 = [(h : Int), (w : Int), (c : Int)]
  sk : k.1.1 = [(kh : Int), (kw : Int), (c : Int), (n : Int)]
  hA : a.2.length = h * w * c
  hK : k.2.length = kh * kw * c * n
  bA : h * w * c ≤ 16384
  bK : kh * kw * c * n ≤ 16384
  fA : ∀ p, -128 ≤ a.2.getD p 0 ∧ a.2.getD p 0 ≤ 127
  fK : ∀ p, -128 ≤ k.2.getD p 0 ∧ k.2.getD p 0 ≤ 127
  hza : -128 ≤ za ∧ za ≤ 127

/-- one of its parts -/
def cvP (A K : List Int) (za : Int) (w c kw n r q dy dx o ch : Nat) : Int := (A.getD ((r * w + q) * c + ch) 0 - za) * K.getD (((dy * kw + dx) * c + ch) * n + o) 0

/-- what one of the kernel's places gives -/
def cvT (A K : List Int) (za : Int) (h w c kw n s p y x o dy dx : Nat) : Int :=
  if p ≤ y * s + dy ∧ y * s + dy - p < h ∧ p ≤ x * s + dx ∧ x * s + dx - p < w then sumN (cvP A K za w c kw n (y * s + dy - p) (x * s + dx - p) dy dx o) c else 0

/-- an element, by its place -/
def cvS (A K : List Int) (za : Int) (h w c kh kw n s p y x o : Nat) : Int := sumN (fun dy => sumN (cvT A K za h w c kw n s p y x o dy) kw) kh

def cvC (A K : List Int) (za : Int) (h w c kh kw n s p ow i : Nat) : Int := round32 (cvS A K za h w c kh kw n s p (i / n / ow) (i / n % ow) (i % n))

section

variable {a k : T} {za : Int} {h w c kh kw n s p : Nat}

theorem ConvOK.part (H : ConvOK a k za h w c kh kw n s p) (r q dy dx o ch : Nat) : -32640 ≤ cvP a.2 k.2 za w c kw n r q dy dx o ch ∧ cvP a.2 k.2 za w c kw n r q dy dx o ch ≤ 32640 := by
  have h1 := H.fA ((r * w + q) * c + ch)
  have h2 := H.fK (((dy * kw + dx) * c + ch) * n + o)
  have h3 := H.hza
  exact mul_abs (A := 255) (B := 128) (by omega) (by omega) (by omega) (by omega)

theorem ConvOK.place (H : ConvOK a k za h w c kh kw n s p) (y x o dy dx : Nat) : -8355840 ≤ cvT a.2 k.2 za h w c kw n s p y x o dy dx ∧ cvT a.2 k.2 za h w c kw n s p y x o dy dx ≤ 8355840 := by
  unfold cvT
  have := H.hc
  split
  · have := sumN_bound (cvP a.2 k.2 za w c kw n (y * s + dy - p) (x * s + dx - p) dy dx o) 32640 (fun ch => H.part _ _ _ _ _ ch) c
    omega
  · omega

theorem ConvOK.row (H : ConvOK a k za h w c kh kw n s p) (y x o dy : Nat) : -2139095040 ≤ sumN (cvT a.2 k.2 za h w c kw n s p y x o dy) kw ∧ sumN (cvT a.2 k.2 za h w c kw n s p y x o dy) kw ≤ 2139095040 := by
  have := H.hkw
  have := sumN_bound (cvT a.2 k.2 za h w c kw n s p y x o dy) 8355840 (fun dx => H.place y x o dy dx) kw
  omega

theorem three_idx {a b c i j k : Nat} (hi : i < a) (hj : j < b) (hk : k < c) : (i * b + j) * c + k < a * b * c := by
  have h1 : i * b + j < a * b := by
    have : (i + 1) * b ≤ a * b := Nat.mul_le_mul_right b hi
    rw [Nat.add_mul] at this
    omega
  have : (i * b + j + 1) * c ≤ a * b * c := Nat.mul_le_mul_right c h1
  rw [Nat.add_mul] at this
  omega

theorem idx_key {P X p q dx : Nat} (hP : P ≤ 256 * 256) (hX : X ≤ 1000000) (hp : p ≤ 15) (h : q + p = X + dx) (hq : q ≤ 1000000 := by omega) : wi64 (wi64 ((P : Int) + ((X : Int) - p)) + dx) = ((P + q : Nat) : Int) := by
  rw [wi64_in (n := (P : Int) + ((X : Int) - p)) (by omega) (by omega), wi64_in (by omega) (by omega)]
  omega

theorem loop_At_2 (H : ConvOK a k za h w c kh kw n s p) (N : Nat) {y x o dy dx : Nat} (ho : o < n) (hy : y * s ≤ 1000000) (hx : x * s ≤ 1000000) (hdy : dy < kh) (hdx : dx < kw)
    (hin : p ≤ y * s + dy ∧ y * s + dy - p < h ∧ p ≤ x * s + dx ∧ x * s + dx - p < w) (dyTo dxFrom dxTo s0 : Int) (hs0 : -1000000000000 ≤ s0 ∧ s0 ≤ 1000000000000) : ∀ (cnt ch : Nat), ch ≤ c → c < cnt + ch →
    g_conv_At_2 N cnt a.1.1 k.1.1 a k za c n o ((y : Int) * s - p) ((x : Int) * s - p) dyTo dxFrom dxTo (s0 + sumN (cvP a.2 k.2 za w c kw n (y * s + dy - p) (x * s + dx - p) dy dx o) ch) dy dx c ch =
      some (a.1.1, (k.1.1, (a, (k, (za, ((c : Int), ((n : Int), ((o : Int), ((y : Int) * s - p, ((x : Int) * s - p, (dyTo, (dxFrom, (dxTo, (s0 + sumN (cvP a.2 k.2 za w c kw n (y * s + dy - p) (x * s + dx - p) dy dx o) c, ((dy : Int), ((dx : Int), ()))))))))))))))))
  | 0, ch, h1, h2 => by omega
  | cnt + 1, ch, h1, h2 => by
    rw [g_conv_At_2]
    by_cases hch : ch < c
    · refine cT (by omega) ?_
      have hh := H.hh
      have hw := H.hw
      have hc := H.hc
      have hn := H.hn
      have hp := H.hp
      obtain ⟨r, hr⟩ : ∃ r, r = y * s + dy - p := ⟨_, rfl⟩
      obtain ⟨q, hq⟩ : ∃ q, q = x * s + dx - p := ⟨_, rfl⟩
      rw [← hr, ← hq] at hin ⊢
      have h3 := three_idx (a := h) (b := w) (c := c) (i := r) (j := q) (k := ch) (by omega) (by omega) hch
      have h4 := three_idx (a := kh) (b := kw) (c := c) (i := dy) (j := dx) (k := ch) hdy hdx hch
      have h5 : ((dy * kw + dx) * c + ch) * n + o < kh * kw * c * n := by
        have : ((dy * kw + dx) * c + ch + 1) * n ≤ kh * kw * c * n := Nat.mul_le_mul_right n h4
        rw [Nat.add_mul] at this
        omega
      have bA := H.bA
      have bK := H.bK
      have hrw : r * w ≤ 256 * 256 := Nat.mul_le_mul (by omega) hw.2
      have e1 : (y : Int) * s = ((y * s : Nat) : Int) := by simp
      have e2 : (x : Int) * s = ((x * s : Nat) : Int) := by simp
      have g1 : List.getD a.1.1 1 0 = (w : Int) := by rw [H.sa]; rfl
      have g2 : List.getD k.1.1 1 0 = (kw : Int) := by rw [H.sk]; rfl
      have i1 : wi64 ((y : Int) * s - p + dy) = (r : Int) := by rw [e1, wi64_in (by omega) (by omega)]; omega
      have i2 : wi64 (wi64 (wi64 ((r : Int) * w) + ((x : Int) * s - p)) + dx) = ((r * w + q : Nat) : Int) := by
        rw [wi64_mul (by omega), e2]
        exact idx_key hrw hx hp (by omega)
      have hP : r * w + q ≤ 100000 := by
        generalize r * w = P at *
        omega
      have i3 : wi64 (wi64 (((r * w + q : Nat) : Int) * c) + ch) = (((r * w + q) * c + ch : Nat) : Int) := wi64_row (by omega)
      have i4 : wi64 (wi64 ((dy : Int) * kw) + dx) = ((dy * kw + dx : Nat) : Int) := by
        have : dy * kw ≤ 256 * 256 := Nat.mul_le_mul (by have := H.hkh; omega) H.hkw.2
        have := H.hkw
        exact wi64_row (by omega)
      have i5 : wi64 (wi64 (((dy * kw + dx : Nat) : Int) * c) + ch) = (((dy * kw + dx) * c + ch : Nat) : Int) := by
        refine wi64_row ?_
        have : (dy * kw + dx) * c + ch ≤ ((dy * kw + dx) * c + ch) * n := Nat.le_mul_of_pos_right _ (by omega)
        omega
      have i6 : wi64 (wi64 ((((dy * kw + dx) * c + ch : Nat) : Int) * n) + o) = ((((dy * kw + dx) * c + ch) * n + o : Nat) : Int) := wi64_row (by omega)
      refine cT (by rw [H.sa]; simp) ?_
      refine bnd _ (by rw [g1, i1, i2, i3]; exact conv_of_1_spec N _ a (by rw [H.hA]; exact h3)) ?_
      refine cT (by rw [H.sk]; simp) ?_
      refine bnd _ (by rw [g2, i4, i5, i6]; exact conv_of_1_spec N _ k (by rw [H.hK]; exact h5)) ?_
      have f1 := H.fA ((r * w + q) * c + ch)
      have f2 := H.fK (((dy * kw + dx) * c + ch) * n + o)
      have f3 := H.hza
      have f4 := H.part r q dy dx o ch
      have f5 := sumN_bound (cvP a.2 k.2 za w c kw n r q dy dx o) 32640 (fun ch => H.part r q dy dx o ch) ch
      have e3 : wi64 (s0 + sumN (cvP a.2 k.2 za w c kw n r q dy dx o) ch + wi64 (wi64 (a.2.getD ((r * w + q) * c + ch) 0 - za) * k.2.getD (((dy * kw + dx) * c + ch) * n + o) 0)) = s0 + sumN (cvP a.2 k.2 za w c kw n r q dy dx o) (ch + 1) := by
        have : wi64 (wi64 (a.2.getD ((r * w + q) * c + ch) 0 - za) * k.2.getD (((dy * kw + dx) * c + ch) * n + o) 0) = cvP a.2 k.2 za w c kw n r q dy dx o ch := by
          unfold cvP at f4 ⊢
          rw [wi64_in (n := a.2.getD ((r * w + q) * c + ch) 0 - za) (by omega) (by omega), wi64_in (by omega) (by omega)]
        rw [this, wi64_in (by omega) (by omega)]
        simp only [sumN]
        omega
      simp only [e3]
      rw [wi64_succ (by omega)]
      have := loop_At_2 H N ho hy hx hdy hdx (by rw [← hr, ← hq]; exact hin) dyTo dxFrom dxTo s0 hs0 cnt (ch + 1) hch (by omega)
      rw [← hr, ← hq] at this
      exact this
    · have : ch = c := by omega
      subst this
      exact cF (by omega) rfl

theorem loop_At_1 (H : ConvOK a k za h w c kh kw n s p) {N : Nat} (hN : 20000 ≤ N) {y x o dy : Nat} (ho : o < n) (hy : y * s ≤ 1000000) (hx : x * s ≤ 1000000) (hdy : dy < kh)
    (hin : p ≤ y * s + dy ∧ y * s + dy - p < h) {f t : Nat} (hft : f ≤ t ∧ t ≤ kw) (hi : ∀ dx, dx < kw → ((f ≤ dx ∧ dx < t) ↔ (p ≤ x * s + dx ∧ x * s + dx - p < w))) (dyTo s0 : Int) (hs0 : -900000000000 ≤ s0 ∧ s0 ≤ 900000000000) : ∀ (cnt dx : Nat), f ≤ dx → dx ≤ t → t < cnt + dx →
    g_conv_At_1 N cnt a.1.1 k.1.1 a k za c n o ((y : Int) * s - p) ((x : Int) * s - p) dyTo f t (s0 + sumN (cvT a.2 k.2 za h w c kw n s p y x o dy) dx) dy dx =
      some (a.1.1, (k.1.1, (a, (k, (za, ((c : Int), ((n : Int), ((o : Int), ((y : Int) * s - p, ((x : Int) * s - p, (dyTo, ((f : Int), ((t : Int), (s0 + sumN (cvT a.2 k.2 za h w c kw n s p y x o dy) t, (((dy + 1 : Nat) : Int), ())))))))))))))))
  | 0, dx, h0, h1, h2 => by omega
  | cnt + 1, dx, h0, h1, h2 => by
    have hkh := H.hkh
    have hkw := H.hkw
    rw [g_conv_At_1]
    by_cases hd : dx < t
    · refine cF (by omega) ?_
      obtain ⟨g1, g2⟩ := (hi dx (by omega)).1 ⟨h0, hd⟩
      have f5 := sumN_bound (cvT a.2 k.2 za h w c kw n s p y x o dy) 8355840 (fun q => H.place y x o dy q) dx
      have h3 := loop_At_2 H N ho hy hx hdy (show dx < kw by omega) ⟨hin.1, hin.2, g1, g2⟩ dyTo f t (s0 + sumN (cvT a.2 k.2 za h w c kw n s p y x o dy) dx) (by omega) N 0 (by omega) (by have := H.hc; omega)
      simp only [sumN] at h3
      rw [Int.add_zero, show ((0 : Nat) : Int) = 0 from rfl] at h3
      refine bnd _ h3 ?_
      have e : s0 + sumN (cvT a.2 k.2 za h w c kw n s p y x o dy) dx + sumN (cvP a.2 k.2 za w c kw n (y * s + dy - p) (x * s + dx - p) dy dx o) c = s0 + sumN (cvT a.2 k.2 za h w c kw n s p y x o dy) (dx + 1) := by
        have : cvT a.2 k.2 za h w c kw n s p y x o dy dx = sumN (cvP a.2 k.2 za w c kw n (y * s + dy - p) (x * s + dx - p) dy dx o) c := by
          unfold cvT
          rw [if_pos ⟨hin.1, hin.2, g1, g2⟩]
        simp only [sumN, this]
        omega
      simp only [e]
      rw [wi64_succ (by omega)]
      exact loop_At_1 H hN ho hy hx hdy hin hft hi dyTo s0 hs0 cnt (dx + 1) (by omega) hd (by omega)
    · have : dx = t := by omega
      subst this
      refine cT (by omega) ?_
      rw [wi64_succ (by omega)]

theorem sumN_zero {f : Nat → Int} : ∀ {k : Nat}, (∀ x, x < k → f x = 0) → sumN f k = 0
  | 0, _ => rfl
  | k + 1, h => by simp only [sumN]; rw [sumN_zero (fun x hx => h x (by omega)), h k (by omega)]; rfl

theorem sumN_cut {f : Nat → Int} {t : Nat} : ∀ {k : Nat}, t ≤ k → (∀ x, t ≤ x → x < k → f x = 0) → sumN f k = sumN f t
  | 0, h, _ => by
    have : t = 0 := by omega
    rw [this]
  | k + 1, h, hz => by
    by_cases he : t = k + 1
    · rw [he]
    · simp only [sumN]
      rw [sumN_cut (by omega) (fun x h1 h2 => hz x h1 (by omega)), hz k (by omega) (by omega), Int.add_zero]

theorem loop_At_0 (H : ConvOK a k za h w c kh kw n s p) {N : Nat} (hN : 20000 ≤ N) {y x o : Nat} (ho : o < n) (hy : y * s ≤ 1000000) (hx : x * s ≤ 1000000)
    {F T0 : Nat} (hFT : F ≤ T0 ∧ T0 ≤ kh) (hI : ∀ dy, dy < kh → ((F ≤ dy ∧ dy < T0) ↔ (p ≤ y * s + dy ∧ y * s + dy - p < h))) {f t : Nat} (hft : f ≤ t ∧ t ≤ kw) (hi : ∀ dx, dx < kw → ((f ≤ dx ∧ dx < t) ↔ (p ≤ x * s + dx ∧ x * s + dx - p < w))) : ∀ (cnt dy : Nat), F ≤ dy → dy ≤ T0 → T0 < cnt + dy →
    g_conv_At_0 N cnt a.1.1 k.1.1 a k za c n o ((y : Int) * s - p) ((x : Int) * s - p) T0 f t (sumN (fun dy => sumN (cvT a.2 k.2 za h w c kw n s p y x o dy) kw) dy) dy =
      some (sumN (fun dy => sumN (cvT a.2 k.2 za h w c kw n s p y x o dy) kw) T0, ())
  | 0, dy, h0, h1, h2 => by omega
  | cnt + 1, dy, h0, h1, h2 => by
    have hkh := H.hkh
    have hkw := H.hkw
    rw [g_conv_At_0]
    by_cases hd : dy < T0
    · refine cT (by omega) ?_
      have hin := (hI dy (by omega)).1 ⟨h0, hd⟩
      have f5 := sumN_bound (fun dy => sumN (cvT a.2 k.2 za h w c kw n s p y x o dy) kw) 2139095040 (fun q => H.row y x o q) dy
      have z1 : sumN (cvT a.2 k.2 za h w c kw n s p y x o dy) f = 0 := sumN_zero fun dx hdx => by
        unfold cvT
        rw [if_neg]
        rintro ⟨_, _, g1, g2⟩
        have := (hi dx (by omega)).2 ⟨g1, g2⟩
        omega
      have z2 : sumN (cvT a.2 k.2 za h w c kw n s p y x o dy) kw = sumN (cvT a.2 k.2 za h w c kw n s p y x o dy) t := sumN_cut hft.2 fun dx g0 hdx => by
        unfold cvT
        rw [if_neg]
        rintro ⟨_, _, g1, g2⟩
        have := (hi dx hdx).2 ⟨g1, g2⟩
        omega
      have h3 := loop_At_1 H hN ho hy hx (show dy < kh by omega) hin hft hi T0 (sumN (fun dy => sumN (cvT a.2 k.2 za h w c kw n s p y x o dy) kw) dy) (by omega) N f (Nat.le_refl _) hft.1 (by omega)
      rw [z1, Int.add_zero] at h3
      refine bnd _ h3 ?_
      have e : sumN (fun dy => sumN (cvT a.2 k.2 za h w c kw n s p y x o dy) kw) dy + sumN (cvT a.2 k.2 za h w c kw n s p y x o dy) t = sumN (fun dy => sumN (cvT a.2 k.2 za h w c kw n s p y x o dy) kw) (dy + 1) := by
        rw [← z2]
        rfl
      simp only [e]
      exact loop_At_0 H hN ho hy hx hFT hI hft hi cnt (dy + 1) (by omega) hd (by omega)
    · have : dy = T0 := by omega
      subst this
      exact cF (by omega) rfl

/-- AN ELEMENT -/
theorem conv_At_spec (H : ConvOK a k za h w c kh kw n s p) {N : Nat} (hN : 20000 ≤ N) {ow : Nat} (how : 1 ≤ ow ∧ ow ≤ 256) {i : Nat} (hi : i ≤ 20000) :
    F_conv_At N [(s : Int), (p : Int), za] a.1.1 k.1.1 a k i ow = some (cvC a.2 k.2 za h w c kh kw n s p ow i, ()) := by
  have hh := H.hh
  have hw := H.hw
  have hc := H.hc
  have hn := H.hn
  have hs := H.hs
  have hp := H.hp
  have hkh := H.hkh
  have hkw := H.hkw
  unfold F_conv_At
  rw [show List.getD [(s : Int), (p : Int), za] 0 0 = (s : Int) from rfl, show List.getD [(s : Int), (p : Int), za] 1 0 = (p : Int) from rfl, show List.getD [(s : Int), (p : Int), za] 2 0 = za from rfl]
  have a0 : List.getD a.1.1 0 0 = (h : Int) := by rw [H.sa]; rfl
  have a1 : List.getD a.1.1 1 0 = (w : Int) := by rw [H.sa]; rfl
  have a2 : List.getD a.1.1 2 0 = (c : Int) := by rw [H.sa]; rfl
  have k0 : List.getD k.1.1 0 0 = (kh : Int) := by rw [H.sk]; rfl
  have k1 : List.getD k.1.1 1 0 = (kw : Int) := by rw [H.sk]; rfl
  have k3 : List.getD k.1.1 3 0 = (n : Int) := by rw [H.sk]; rfl
  have la : a.1.1.length = 3 := by rw [H.sa]; rfl
  have lk : k.1.1.length = 4 := by rw [H.sk]; rfl
  have tdiv : ∀ u v : Nat, u ≤ 20000 → wi64 (Int.tdiv (u : Int) (v : Int)) = ((u / v : Nat) : Int) := by
    intro u v hu
    rw [show Int.tdiv (u : Int) (v : Int) = ((u / v : Nat) : Int) from (Int.ofNat_tdiv u v).symm]
    have := Nat.div_le_self u v
    generalize u / v = q at *
    exact wi64_in (by omega) (by omega)
  have d1 : i / n ≤ i := Nat.div_le_self i n
  have d2 : i / n / ow ≤ i / n := Nat.div_le_self _ _
  have d3 : i / n % ow < ow := Nat.mod_lt _ (by omega)
  have d4 : i % n < n := Nat.mod_lt _ (by omega)
  simp only [a0, a1, a2, k0, k1, k3, la, lk, tmod_nat, tdiv i n hi, tdiv (i / n) ow (by omega)]
  obtain ⟨y, hy⟩ : ∃ y, y = i / n / ow := ⟨_, rfl⟩
  obtain ⟨x, hx⟩ : ∃ x, x = i / n % ow := ⟨_, rfl⟩
  obtain ⟨o, ho⟩ : ∃ o, o = i % n := ⟨_, rfl⟩
  unfold cvC
  rw [← hy, ← hx, ← ho]
  rw [← ho] at d4
  rw [← hy] at d2
  rw [← hx] at d3
  have ys : y * s ≤ 20000 * 16 := Nat.mul_le_mul (by omega) hs.2
  have xs : x * s ≤ 256 * 16 := Nat.mul_le_mul (by omega) hs.2
  have ysI : (y : Int) * s = ((y * s : Nat) : Int) := by simp
  have xsI : (x : Int) * s = ((x * s : Nat) : Int) := by simp
  have top : wi64 (wi64 ((y : Int) * s) - p) = (y : Int) * s - p := by rw [wi64_mul (by omega), wi64_in (by omega) (by omega), ysI]
  have left : wi64 (wi64 ((x : Int) * s) - p) = (x : Int) * s - p := by rw [wi64_mul (by omega), wi64_in (by omega) (by omega), xsI]
  obtain ⟨b1, b2, b3⟩ := ins_bounds h kh s p y (by omega)
  obtain ⟨c1, c2, c3⟩ := ins_bounds w kw s p x (by omega)
  obtain ⟨F, hF⟩ : ∃ F : Nat, insA h kh s p y = (F : Int) := ⟨(insA h kh s p y).toNat, by omega⟩
  obtain ⟨T0, hT0⟩ : ∃ T0 : Nat, insB h kh s p y = (T0 : Int) := ⟨(insB h kh s p y).toNat, by omega⟩
  obtain ⟨f, hf⟩ : ∃ f : Nat, insA w kw s p x = (f : Int) := ⟨(insA w kw s p x).toNat, by omega⟩
  obtain ⟨t, ht⟩ : ∃ t : Nat, insB w kw s p x = (t : Int) := ⟨(insB w kw s p x).toNat, by omega⟩
  have hI : ∀ dy, dy < kh → ((F ≤ dy ∧ dy < T0) ↔ (p ≤ y * s + dy ∧ y * s + dy - p < h)) := by
    intro dy hdy
    have := ins_iff h kh s p y dy (by omega)
    rw [hF, hT0, ysI] at this
    constructor
    · intro g
      have := this.1 (by omega)
      omega
    · intro g
      have := this.2 (by omega)
      omega
  have hi' : ∀ dx, dx < kw → ((f ≤ dx ∧ dx < t) ↔ (p ≤ x * s + dx ∧ x * s + dx - p < w)) := by
    intro dx hdx
    have := ins_iff w kw s p x dx (by omega)
    rw [hf, ht, xsI] at this
    constructor
    · intro g
      have := this.1 (by omega)
      omega
    · intro g
      have := this.2 (by omega)
      omega
  rw [hF, hT0] at b2
  rw [hT0] at b3
  rw [hf, ht] at c2
  rw [ht] at c3
  refine cT (by simp) ?_
  refine cT (by simp) ?_
  refine cT (by simp) ?_
  refine cT (by omega) ?_
  refine cT (by omega) ?_
  refine cT (by omega) ?_
  refine cT (by omega) ?_
  refine cT (by omega) ?_
  refine cT (by omega) ?_
  refine cT (by omega) ?_
  refine cT (by omega) ?_
  refine cT (by omega) ?_
  refine bnd _ (conv_Inside_ab N h kh s p y (by omega) (by omega) (by omega) (by omega) (by omega)) ?_
  refine cT (by omega) ?_
  refine cT (by omega) ?_
  refine bnd _ (conv_Inside_ab N w kw s p x (by omega) (by omega) (by omega) (by omega) (by omega)) ?_
  rw [hF, hT0, hf, ht, top, left]
  have z1 : sumN (fun dy => sumN (cvT a.2 k.2 za h w c kw n s p y x o dy) kw) F = 0 := sumN_zero fun dy hdy => sumN_zero fun dx hdx => by
    unfold cvT
    rw [if_neg]
    rintro ⟨g1, g2, _, _⟩
    have := (hI dy (by omega)).2 ⟨g1, g2⟩
    omega
  have z2 : cvS a.2 k.2 za h w c kh kw n s p y x o = sumN (fun dy => sumN (cvT a.2 k.2 za h w c kw n s p y x o dy) kw) T0 := sumN_cut (by omega) fun dy g0 hdy => sumN_zero fun dx hdx => by
    unfold cvT
    rw [if_neg]
    rintro ⟨g1, g2, _, _⟩
    have := (hI dy hdy).2 ⟨g1, g2⟩
    omega
  have h0 := loop_At_0 H hN d4 (by omega) (by omega) ⟨by omega, by omega⟩ hI ⟨by omega, by omega⟩ hi' N F (Nat.le_refl _) (by omega) (by omega)
  rw [z1] at h0
  refine bnd _ h0 ?_
  refine bnd _ (tens_Wide_spec N _) ?_
  rw [z2]

end

/-! how many elements, by the document -/

/-! a tensor of any numbers -/

def tenE (l : List Int) (p : Nat) : Int := if l.length = 0 then 0 else wi64 (l.getD (p % l.length) 0 + 7 * p) % 256 - 128

def tenD (l : List Int) (sz : Nat) : List Int := (List.range sz).map (tenE l)

theorem tenE_in (l : List Int) (p : Nat) : -128 ≤ tenE l p ∧ tenE l p ≤ 127 := by
  unfold tenE
  split <;> omega

theorem tenD_length (l : List Int) (sz : Nat) : (tenD l sz).length = sz := by simp [tenD]

theorem tenD_in (l : List Int) (sz : Nat) : ∀ x, x ∈ tenD l sz → -128 ≤ x ∧ x ≤ 127 := by
  intro x hx
  simp only [tenD, List.mem_map] at hx
  obtain ⟨i, _, rfl⟩ := hx
  exact tenE_in l i

theorem tenD_nil (sz : Nat) : tenD [] sz = List.replicate sz 0 := by
  rw [replicate_range]
  apply List.map_congr_left
  intro p _
  rfl

theorem tenD_getD {l : List Int} {sz p : Nat} (h : p < sz) : (tenD l sz).getD p 0 = tenE l p := by
  rw [getD_lt (by rw [tenD_length]; exact h)]
  simp [tenD]

/-! A CONVOLUTION -/

section

variable {a k : T} {za : Int} {h w c kh kw n s p : Nat}

theorem loop_Do (H : ConvOK a k za h w c kh kw n s p) {N : Nat} (hN : 20000 ≤ N) {ow : Nat} (how : 1 ≤ ow ∧ ow ≤ 256) (t6 : List Int × (Bool × (List Int × Unit))) (oh : Int) (wd : Bool) (sh : List Int) (ws : Bool) (sz : Nat) (hsz : sz ≤ 16384) :
    ∀ (cnt i : Nat), i ≤ sz → sz < cnt + i →
    g_conv_Do_0 N cnt [(s : Int), (p : Int), za] (a, ()) (k, ()) t6 (([oh, (ow : Int), (n : Int)], wd), ()) (boxT sh ws ((List.range i).map (cvC a.2 k.2 za h w c kh kw n s p ow))) sz i
      = some (t6, (boxT sh ws ((List.range sz).map (cvC a.2 k.2 za h w c kh kw n s p ow)), ()))
  | 0, i, hx, hx' => by omega
  | cnt + 1, i, hx, hx' => by
    rw [g_conv_Do_0]
    by_cases hi : i < sz
    · refine cT (by omega) ?_
      refine bnd (a, ()) rfl ?_
      refine bnd (k, ()) rfl ?_
      refine cT (by simp) ?_
      refine bnd _ (conv_At_spec H hN how (i := i) (by omega)) ?_
      refine cT (by simp) ?_
      refine cT (by simp [most]; omega) ?_
      refine cT rfl ?_
      refine cT rfl ?_
      refine cT (by simp) ?_
      have e : List.take (List.length ((List.range i).map (cvC a.2 k.2 za h w c kh kw n s p ow))) ((List.range i).map (cvC a.2 k.2 za h w c kh kw n s p ow)) ++ [cvC a.2 k.2 za h w c kh kw n s p ow i] = (List.range (i + 1)).map (cvC a.2 k.2 za h w c kh kw n s p ow) := by
        rw [List.take_length, List.range_succ, List.map_append]
        rfl
      rw [wi64_succ (by omega)]
      simp only [e]
      exact loop_Do H hN how t6 oh wd sh ws sz hsz cnt (i + 1) hi (by omega)
    · have : i = sz := by omega
      subst this
      refine cF (by omega) ?_
      refine cT rfl ?_
      refine cT rfl ?_
      exact cT rfl rfl

/-- what a convolution comes to -/
def cvL (A K : List Int) (za : Int) (h w c kh kw n s p oh ow : Nat) : List Int := (List.range (oh * ow * n)).map (cvC A K za h w c kh kw n s p ow)

theorem conv_Do_ok (H : ConvOK a k za h w c kh kw n s p) {N : Nat} (hN : 20000 ≤ N) {oh ow : Nat} (hoh : 1 ≤ oh ∧ oh ≤ 256) (how : 1 ≤ ow ∧ ow ≤ 256) (ho : oh * ow * n ≤ 16384)
    (hr : convRes' a k [(s : Int), (p : Int), za] = (([(oh : Int), (ow : Int), (n : Int)], true), .nil)) :
    F_conv_Do N a k [(s : Int), (p : Int), za] = some (boxT [(oh : Int), (ow : Int), (n : Int)] true (cvL a.2 k.2 za h w c kh kw n s p oh ow), (.nil, ())) := by
  unfold F_conv_Do
  refine bnd _ (conv_result_spec hN _ _ _) ?_
  rw [hr]
  refine bF rfl ?_
  refine bnd _ (shape_Elems_spec hN _) ?_
  rw [elems_three hoh how H.hn ho]
  have h0 := loop_Do H hN how ([], (false, ([], ()))) oh true [(oh : Int), (ow : Int), (n : Int)] true (oh * ow * n) ho N 0 (by omega) (by omega)
  refine bnd _ h0 ?_
  exact cT rfl rfl

theorem conv_Cell_ok (H : ConvOK a k za h w c kh kw n s p) {N : Nat} (hN : 20000 ≤ N) {oh ow : Nat} (hoh : 1 ≤ oh ∧ oh ≤ 256) (how : 1 ≤ ow ∧ ow ≤ 256) (ho : oh * ow * n ≤ 16384)
    (hr : convRes' a k [(s : Int), (p : Int), za] = (([(oh : Int), (ow : Int), (n : Int)], true), .nil)) (i : Int) :
    F_conv_Cell N a k i [(s : Int), (p : Int), za] = some (if 0 ≤ i ∧ i < ((oh * ow * n : Nat) : Int) then cvC a.2 k.2 za h w c kh kw n s p ow i.toNat else 0, ()) := by
  unfold F_conv_Cell
  refine bnd _ (conv_result_spec hN _ _ _) ?_
  rw [hr]
  refine bF rfl ?_
  by_cases h0 : i < 0
  · rw [if_neg (by omega)]
    exact cT h0 rfl
  refine cF h0 ?_
  refine bnd _ (shape_Elems_spec hN _) ?_
  rw [elems_three hoh how H.hn ho]
  by_cases h1 : ((oh * ow * n : Nat) : Int) ≤ i
  · rw [if_neg (by omega)]
    exact cT h1 rfl
  refine cF h1 ?_
  refine bnd (a, ()) rfl ?_
  refine bnd (k, ()) rfl ?_
  refine cT (by simp) ?_
  rw [if_pos (by omega)]
  have := conv_At_spec H hN how (i := i.toNat) (by omega)
  rw [show ((i.toNat : Nat) : Int) = i by omega] at this
  exact bnd _ this rfl

end

theorem conv_Do_bad {N : Nat} (hN : 20000 ≤ N) {a k : T} {ar : List Int} (h : (convRes' a k ar).2.isNil = false) : F_conv_Do N a k ar = some (boxT [] false [], ((convRes' a k ar).2, ())) := by
  unfold F_conv_Do
  refine bnd _ (conv_result_spec hN _ _ _) ?_
  exact bT (by simp [h]) rfl

theorem conv_Cell_bad {N : Nat} (hN : 20000 ≤ N) {a k : T} {ar : List Int} {i : Int} (h : (convRes' a k ar).2.isNil = false) : F_conv_Cell N a k i ar = some (0, ()) := by
  unfold F_conv_Cell
  refine bnd _ (conv_result_spec hN _ _ _) ?_
  exact bT (by simp [h]) rfl

/-- of places that are known -/
theorem convRes'_good {A K : List Int} {za : Int} {h w c kh kw n s p : Nat} (hh : 1 ≤ h ∧ h ≤ 256) (hw : 1 ≤ w ∧ w ≤ 256) (hc : 1 ≤ c ∧ c ≤ 256) (hkh : 1 ≤ kh ∧ kh ≤ 256) (hkw : 1 ≤ kw ∧ kw ≤ 256) (hn : 1 ≤ n ∧ n ≤ 256) (hs : 1 ≤ s ∧ s ≤ 16) (hp : p ≤ 15)
    (hA : A.length = h * w * c) (hK : K.length = kh * kw * c * n) (bA : h * w * c ≤ 16384) (bK : kh * kw * c * n ≤ 16384)
    (fA : ∀ x, x ∈ A → -128 ≤ x ∧ x ≤ 127) (fK : ∀ x, x ∈ K → -128 ≤ x ∧ x ≤ 127) (hza : -128 ≤ za ∧ za ≤ 127)
    (hkh' : kh ≤ h + 2 * p) (hkw' : kw ≤ w + 2 * p) {oh ow : Nat} (eoh : oh = (h + 2 * p - kh) / s + 1) (eow : ow = (w + 2 * p - kw) / s + 1) (hoh : oh ≤ 256) (how : ow ≤ 256) (ho : oh * ow * n ≤ 16384) :
    convRes' (([(h : Int), (w : Int), (c : Int)], false), A) (([(kh : Int), (kw : Int), (c : Int), (n : Int)], false), K) [(s : Int), (p : Int), za] = (([(oh : Int), (ow : Int), (n : Int)], true), .nil) := by
  have o1 : 1 ≤ oh := by rw [eoh]; exact Nat.le_add_left 1 _
  have o2 : 1 ≤ ow := by rw [eow]; exact Nat.le_add_left 1 _
  unfold convRes' convRes
  rw [tensV_narrow (shapeV_three hh hw hc bA) (elems_three hh hw hc bA) hA fA, tensV_narrow (shapeV_four hkh hkw hc hn bK) (elems_four hkh hkw hc hn bK) hK fK]
  simp only [Er.isNil, Bool.not_true, Bool.false_eq_true, if_false]
  rw [shapeV_three hh hw hc bA, shapeV_four hkh hkw hc hn bK]
  have n1 : narrowB za = true := by simp [narrowB, hza]
  simp only [Er.isNil, Bool.not_true, Bool.false_eq_true, if_false, List.length_cons, List.length_nil, List.getD_cons_zero, List.getD_cons_succ, n1]
  have e1 : ((h : Int) + 2 * p - kh) / s + 1 = (oh : Int) := by
    rw [show (h : Int) + 2 * p - kh = ((h + 2 * p - kh : Nat) : Int) by omega, eoh]
    simp
  have e2 : ((w : Int) + 2 * p - kw) / s + 1 = (ow : Int) := by
    rw [show (w : Int) + 2 * p - kw = ((w + 2 * p - kw : Nat) : Int) by omega, eow]
    simp
  have e3 : convSh (s : Int) (p : Int) [(h : Int), (w : Int), (c : Int)] [(kh : Int), (kw : Int), (c : Int), (n : Int)] = [(oh : Int), (ow : Int), (n : Int)] := by
    unfold convSh
    simp only [List.getD_cons_zero, List.getD_cons_succ]
    rw [e1, e2]
  rw [if_neg (by simp), if_neg (by simp), if_neg (by simp; omega), if_neg (by omega), e3, shapeV_three ⟨o1, hoh⟩ ⟨o2, how⟩ hn ho]
  rfl

end Go.Proofs.YtbpifndhkdbmhaaDoor.Lg
