/-
  What the program's functions come to, in plain words.
-/
import Derived.Test.YtbpifndhkdbmhaaDoorLgConvP2
namespace Go.Proofs.YtbpifndhkdbmhaaDoor.Lg
open Go Go.Eng Go.Proofs

theorem loop_conv_Result {N : Nat} (hN : 20000 ≤ N) (ar : List Int) (a b : D × Unit) (t : List Int × Bool × Unit) (l : List D) (hl : l.length < 1000000) : ∀ (n i : Nat), i ≤ l.length → l.length < n + i →
    g_conv_Result_0 N n ar a b t l l.length i = match (l.drop i).find? (fun d => !(shapeV d.1).isNil) with
      | some d => some (.inr (([], (false, ())), (shapeV d.1, ())))
      | none => some (.inl (ar, (a, (b, (t, ())))))
  | 0, i, h, h' => by omega
  | n + 1, i, h, h' => by
    rw [g_conv_Result_0]
    simp only [cond_dec, Int.ofNat_lt, Int.toNat_natCast, Int.natCast_nonneg, if_true, Nat.zero_add, shape_Valid_spec hN, Option.bind_some]
    by_cases hi : i < l.length
    · rw [if_pos hi, if_pos hi, if_pos hi, drop_cons hi ([], false), List.find?_cons, wi64_succ (by omega)]
      cases hf : (shapeV (l.getD i ([], false)).1).isNil with
      | false => simp
      | true =>
        simp only [Bool.not_true, cond_false]
        exact loop_conv_Result hN ar a b t l hl n (i + 1) hi (by omega)
    · rw [if_neg hi, List.drop_eq_nil_of_le (by omega)]
      rfl

/-- what a convolution looks like -/
def convSh (s p : Int) (a k : List Int) : List Int := [(a.getD 0 0 + 2 * p - k.getD 0 0) / s + 1, (a.getD 1 0 + 2 * p - k.getD 1 0) / s + 1, k.getD 3 0]
def convRes (ar : List Int) (a k : D) : D × Er :=
  if ar.length ≠ 3 then (noD, .s ErrShape)
  else if !(shapeV a.1).isNil then (noD, shapeV a.1)
  else if !(shapeV k.1).isNil then (noD, shapeV k.1)
  else if a.1.length ≠ 3 ∨ k.1.length ≠ 4 ∨ a.1.getD 2 0 ≠ k.1.getD 2 0 ∨ a.2 = true ∨ k.2 = true then (noD, .s ErrShape)
  else if ar.getD 0 0 < 1 ∨ 16 < ar.getD 0 0 ∨ ar.getD 1 0 < 0 ∨ 15 < ar.getD 1 0 ∨ narrowB (ar.getD 2 0) = false then (noD, .s ErrRange)
  else if a.1.getD 0 0 + 2 * ar.getD 1 0 - k.1.getD 0 0 < 0 ∨ a.1.getD 1 0 + 2 * ar.getD 1 0 - k.1.getD 1 0 < 0 then (noD, .s ErrShape)
  else if (shapeV (convSh (ar.getD 0 0) (ar.getD 1 0) a.1 k.1)).isNil then ((convSh (ar.getD 0 0) (ar.getD 1 0) a.1 k.1, true), .nil)
  else (noD, shapeV (convSh (ar.getD 0 0) (ar.getD 1 0) a.1 k.1))

theorem shapeV_dims {sh : List Int} (h : shapeV sh = .nil) (i : Nat) (hi : i < sh.length) : 1 ≤ sh.getD i 0 ∧ sh.getD i 0 ≤ 256 := by
  obtain ⟨_, h2, _⟩ := shapeV_nil.1 h
  rw [List.any_eq_false] at h2
  have := h2 _ (List.getElem_mem hi)
  rw [getD_lt hi]
  simp only [badDim, Bool.or_eq_true, decide_eq_true_eq, not_or] at this
  omega

theorem tdiv_pos {a b : Int} (h : 0 ≤ a) (h' : a ≤ 1000000) (hb : 1 ≤ b) : wi64 (Int.tdiv a b) = a / b := by
  rw [Int.tdiv_eq_ediv_of_nonneg h]
  have h1 : 0 ≤ a / b := Int.ediv_nonneg h (by omega)
  have h2 : a / b ≤ a := Int.ediv_le_self b h
  exact wi64_in (by omega) (by omega)

theorem conv_Result_spec {N : Nat} (hN : 20000 ≤ N) (ar : List Int) (a k : D) : F_conv_Result N ar a k = some ((convRes ar a k).1, ((convRes ar a k).2, ())) := by
  unfold F_conv_Result convRes
  by_cases hl : ar.length = 3
  case neg =>
    rw [if_pos hl]
    exact cT (by omega) rfl
  rw [if_neg (fun h => h hl)]
  refine cF (by omega) ?_
  have h0 := loop_conv_Result hN ar (a, ()) (k, ()) ([], false, ()) [a, k] (by simp) N 0 (by simp) (by simp; omega)
  rw [show ((0 : Nat) : Int) = 0 from rfl, List.drop_zero] at h0
  simp only [List.length_cons, List.length_nil, Nat.zero_add, Nat.reduceAdd] at h0
  rw [h0]
  cases ha : (shapeV a.1).isNil with
  | false => simp [ha, noD, cond_dec]
  | true =>
    cases hk : (shapeV k.1).isNil with
    | false => simp [ha, hk, noD, cond_dec]
    | true =>
      simp only [List.find?_cons, List.find?_nil, ha, hk, Bool.not_true, Option.bind_some, Sum.elim_inl, Bool.false_eq_true, if_false]
      by_cases h1 : a.1.length = 3
      case neg => rw [if_pos (.inl h1)]; exact cT (by omega) rfl
      refine cF (by omega) ?_
      by_cases h2 : k.1.length = 4
      case neg => rw [if_pos (.inr (.inl h2))]; exact cT (by omega) rfl
      refine cF (by omega) ?_
      refine cT (by omega) ?_
      refine cT (by omega) ?_
      by_cases h3 : a.1.getD 2 0 = k.1.getD 2 0
      case neg => rw [if_pos (.inr (.inr (.inl h3)))]; exact cT h3 rfl
      refine cF (fun h => h h3) ?_
      by_cases h4 : a.2 = true
      · rw [if_pos (.inr (.inr (.inr (.inl h4))))]; exact bT h4 rfl
      refine bF (by simpa using h4) ?_
      by_cases h5 : k.2 = true
      · rw [if_pos (.inr (.inr (.inr (.inr h5))))]; exact bT h5 rfl
      refine bF (by simpa using h5) ?_
      rw [if_neg (by
        rintro (h | h | h | h | h)
        · exact h h1
        · exact h h2
        · exact h h3
        · exact h4 h
        · exact h5 h)]
      refine cT (by omega) ?_
      refine cT (by omega) ?_
      refine cT (by omega) ?_
      by_cases r1 : ar.getD 0 0 < 1
      · rw [if_pos (.inl r1)]; exact cT r1 rfl
      refine cF r1 ?_
      by_cases r2 : 16 < ar.getD 0 0
      · rw [if_pos (.inr (.inl r2))]; exact cT r2 rfl
      refine cF r2 ?_
      by_cases r3 : ar.getD 1 0 < 0
      · rw [if_pos (.inr (.inr (.inl r3)))]; exact cT r3 rfl
      refine cF r3 ?_
      by_cases r4 : 15 < ar.getD 1 0
      · rw [if_pos (.inr (.inr (.inr (.inl r4))))]; exact cT r4 rfl
      refine cF r4 ?_
      refine bnd _ (tens_Narrow_spec N _) ?_
      by_cases r5 : narrowB (ar.getD 2 0) = false
      · rw [if_pos (.inr (.inr (.inr (.inr r5))))]
        refine cT ?_ rfl
        simp only [narrowB, Bool.and_eq_false_iff, decide_eq_false_iff_not] at r5
        intro e
        omega
      have r5' : -128 ≤ ar.getD 2 0 ∧ ar.getD 2 0 ≤ 127 := by
        have : narrowB (ar.getD 2 0) = true := by simpa using r5
        simpa [narrowB] using this
      refine cF (by simp only [ne_eq, Classical.not_not]; omega) ?_
      rw [if_neg (by
        rintro (h | h | h | h | h)
        · exact r1 h
        · exact r2 h
        · exact r3 h
        · exact r4 h
        · exact r5 h)]
      have a0 := shapeV_dims ((isNil_iff _).1 ha) 0 (by omega)
      have a1 := shapeV_dims ((isNil_iff _).1 ha) 1 (by omega)
      have k0 := shapeV_dims ((isNil_iff _).1 hk) 0 (by omega)
      have k1 := shapeV_dims ((isNil_iff _).1 hk) 1 (by omega)
      refine cT (by omega) ?_
      refine cT (by omega) ?_
      refine cT (by omega) ?_
      refine cT (by omega) ?_
      have w2 : wi64 (2 * ar.getD 1 0) = 2 * ar.getD 1 0 := wi64_in (by omega) (by omega)
      have e0 : wi64 (wi64 (a.1.getD 0 0 + 2 * ar.getD 1 0) - k.1.getD 0 0) = a.1.getD 0 0 + 2 * ar.getD 1 0 - k.1.getD 0 0 := by
        rw [wi64_in (n := a.1.getD 0 0 + 2 * ar.getD 1 0) (by omega) (by omega), wi64_in (by omega) (by omega)]
      have e1 : wi64 (wi64 (a.1.getD 1 0 + 2 * ar.getD 1 0) - k.1.getD 1 0) = a.1.getD 1 0 + 2 * ar.getD 1 0 - k.1.getD 1 0 := by
        rw [wi64_in (n := a.1.getD 1 0 + 2 * ar.getD 1 0) (by omega) (by omega), wi64_in (by omega) (by omega)]
      simp only [w2, e0, e1]
      by_cases q1 : a.1.getD 0 0 + 2 * ar.getD 1 0 - k.1.getD 0 0 < 0
      · rw [if_pos (.inl q1)]; exact cT q1 rfl
      refine cF q1 ?_
      by_cases q2 : a.1.getD 1 0 + 2 * ar.getD 1 0 - k.1.getD 1 0 < 0
      · rw [if_pos (.inr q2)]; exact cT q2 rfl
      refine cF q2 ?_
      rw [if_neg (by rintro (h | h) <;> contradiction)]
      refine cT (by omega) ?_
      refine cT (by omega) ?_
      refine cT (by omega) ?_
      have b1 : 0 ≤ (a.1.getD 0 0 + 2 * ar.getD 1 0 - k.1.getD 0 0) / ar.getD 0 0 := Int.ediv_nonneg (by omega) (by omega)
      have b2 : (a.1.getD 0 0 + 2 * ar.getD 1 0 - k.1.getD 0 0) / ar.getD 0 0 ≤ a.1.getD 0 0 + 2 * ar.getD 1 0 - k.1.getD 0 0 := Int.ediv_le_self _ (by omega)
      have b3 : 0 ≤ (a.1.getD 1 0 + 2 * ar.getD 1 0 - k.1.getD 1 0) / ar.getD 0 0 := Int.ediv_nonneg (by omega) (by omega)
      have b4 : (a.1.getD 1 0 + 2 * ar.getD 1 0 - k.1.getD 1 0) / ar.getD 0 0 ≤ a.1.getD 1 0 + 2 * ar.getD 1 0 - k.1.getD 1 0 := Int.ediv_le_self _ (by omega)
      rw [tdiv_pos (by omega) (by omega) (by omega), tdiv_pos (by omega) (by omega) (by omega), wi64_in (n := (a.1.getD 0 0 + 2 * ar.getD 1 0 - k.1.getD 0 0) / ar.getD 0 0 + 1) (by omega) (by omega), wi64_in (n := (a.1.getD 1 0 + 2 * ar.getD 1 0 - k.1.getD 1 0) / ar.getD 0 0 + 1) (by omega) (by omega)]
      refine bnd _ (shape_Valid_spec hN _) ?_
      unfold convSh
      cases hv : (shapeV [(a.1.getD 0 0 + 2 * ar.getD 1 0 - k.1.getD 0 0) / ar.getD 0 0 + 1, (a.1.getD 1 0 + 2 * ar.getD 1 0 - k.1.getD 1 0) / ar.getD 0 0 + 1, k.1.getD 3 0]).isNil with
      | true => exact bF (by simp [hv]) rfl
      | false => exact bT (by simp [hv]) rfl

theorem loop_conv_result {N : Nat} (hN : 20000 ≤ N) (ar : List Int) (a b : T × Unit) (t : List Int × Bool × Unit) (l : List T) (hl : l.length < 1000000) : ∀ (n i : Nat), i ≤ l.length → l.length < n + i →
    g_conv_result_0 N n ar a b t l l.length i = match (l.drop i).find? (fun d => !(tensV d).isNil) with
      | some d => some (.inr (([], (false, ())), (tensV d, ())))
      | none => some (.inl (ar, (a, (b, (t, ())))))
  | 0, i, h, h' => by omega
  | n + 1, i, h, h' => by
    rw [g_conv_result_0]
    simp only [cond_dec, Int.ofNat_lt, Int.toNat_natCast, Int.natCast_nonneg, if_true, Nat.zero_add, tens_Valid_spec hN, Option.bind_some]
    by_cases hi : i < l.length
    · rw [if_pos hi, if_pos hi, if_pos hi, drop_cons hi (([], false), []), List.find?_cons, wi64_succ (by omega)]
      cases hf : (tensV (l.getD i (([], false), []))).isNil with
      | false => simp
      | true =>
        simp only [Bool.not_true, cond_false]
        exact loop_conv_result hN ar a b t l hl n (i + 1) hi (by omega)
    · rw [if_neg hi, List.drop_eq_nil_of_le (by omega)]
      rfl

/-- what the convolution of tensors looks like -/
def convRes' (a k : T) (ar : List Int) : D × Er :=
  if !(tensV a).isNil then (noD, tensV a)
  else if !(tensV k).isNil then (noD, tensV k)
  else convRes ar a.1 k.1

theorem conv_result_spec {N : Nat} (hN : 20000 ≤ N) (a k : T) (ar : List Int) : F_conv_result N a k ar = some ((convRes' a k ar).1, ((convRes' a k ar).2, ())) := by
  unfold F_conv_result convRes'
  have h0 := loop_conv_result hN ar (a, ()) (k, ()) ([], false, ()) [a, k] (by simp) N 0 (by simp) (by simp; omega)
  rw [show ((0 : Nat) : Int) = 0 from rfl, List.drop_zero] at h0
  simp only [List.length_cons, List.length_nil, Nat.zero_add, Nat.reduceAdd] at h0
  rw [h0]
  cases ha : (tensV a).isNil with
  | false => simp [ha, noD, cond_dec]
  | true =>
    cases hb : (tensV k).isNil with
    | false => simp [ha, hb, noD, cond_dec]
    | true =>
      simp only [List.find?_cons, List.find?_nil, ha, hb, Bool.not_true, Option.bind_some, Sum.elim_inl, conv_Result_spec hN, Bool.false_eq_true, if_false]

end Go.Proofs.YtbpifndhkdbmhaaDoor.Lg
