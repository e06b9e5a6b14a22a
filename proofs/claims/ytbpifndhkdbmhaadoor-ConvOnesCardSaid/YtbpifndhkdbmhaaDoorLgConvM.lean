/-
  What the program's functions come to, in plain words.
-/
import Derived.Test.YtbpifndhkdbmhaaDoorLgConvP
namespace Go.Proofs.YtbpifndhkdbmhaaDoor.Lg
open Go Go.Eng Go.Proofs

theorem mat_narrow_spec (N : Nat) (n : Int) : F_mat_narrow N n = some (narrowB n, ()) := by
  unfold F_mat_narrow narrowB
  rw [tens_Narrow_spec]
  simp only [Option.bind_some]
  congr 2
  rw [← Bool.decide_and]
  congr 1
  apply propext
  omega

theorem loop_mat_Result {N : Nat} (hN : 20000 ≤ N) (za zb : Int) (a b : D × Unit) (t : List Int × Bool × Unit) (l : List D) (hl : l.length < 1000000) : ∀ (n i : Nat), i ≤ l.length → l.length < n + i →
    g_mat_Result_0 N n za zb a b t l l.length i = match (l.drop i).find? (fun d => !(shapeV d.1).isNil) with
      | some d => some (.inr (([], (false, ())), (shapeV d.1, ())))
      | none => some (.inl (za, (zb, (a, (b, (t, ()))))))
  | 0, i, h, h' => by omega
  | n + 1, i, h, h' => by
    rw [g_mat_Result_0]
    simp only [cond_dec, Int.ofNat_lt, Int.toNat_natCast, Int.natCast_nonneg, if_true, Nat.zero_add, shape_Valid_spec hN, Option.bind_some]
    by_cases hi : i < l.length
    · rw [if_pos hi, if_pos hi, if_pos hi, drop_cons hi ([], false), List.find?_cons, wi64_succ (by omega)]
      cases hf : (shapeV (l.getD i ([], false)).1).isNil with
      | false => simp
      | true =>
        simp only [Bool.not_true, cond_false]
        exact loop_mat_Result hN za zb a b t l hl n (i + 1) hi (by omega)
    · rw [if_neg hi, List.drop_eq_nil_of_le (by omega)]
      rfl

/-- what a product looks like -/
def matRes (za zb : Int) (a b : D) : D × Er :=
  if !(shapeV a.1).isNil then (noD, shapeV a.1)
  else if !(shapeV b.1).isNil then (noD, shapeV b.1)
  else if a.1.length ≠ 2 ∨ b.1.length ≠ 2 ∨ a.1.getD 1 0 ≠ b.1.getD 0 0 ∨ a.2 = true ∨ b.2 = true then (noD, .s ErrShape)
  else if narrowB za = false ∨ narrowB zb = false then (noD, .s ErrRange)
  else if (shapeV [a.1.getD 0 0, b.1.getD 1 0]).isNil then (([a.1.getD 0 0, b.1.getD 1 0], true), .nil)
  else (noD, shapeV [a.1.getD 0 0, b.1.getD 1 0])

theorem mat_Result_spec {N : Nat} (hN : 20000 ≤ N) (za zb : Int) (a b : D) : F_mat_Result N za zb a b = some ((matRes za zb a b).1, ((matRes za zb a b).2, ())) := by
  unfold F_mat_Result matRes
  have h0 := loop_mat_Result hN za zb (a, ()) (b, ()) ([], false, ()) [a, b] (by simp) N 0 (by simp) (by simp; omega)
  rw [show ((0 : Nat) : Int) = 0 from rfl, List.drop_zero] at h0
  simp only [List.length_cons, List.length_nil, Nat.zero_add, Nat.reduceAdd] at h0
  rw [h0]
  cases ha : (shapeV a.1).isNil with
  | false => simp [ha, noD, cond_dec]
  | true =>
    cases hb : (shapeV b.1).isNil with
    | false => simp [ha, hb, noD, cond_dec]
    | true =>
      simp only [List.find?_cons, List.find?_nil, ha, hb, Bool.not_true, Option.bind_some, Sum.elim_inl, cond_dec, mat_narrow_spec, shape_Valid_spec hN, Bool.false_eq_true, if_false]
      by_cases h1 : a.1.length = 2
      case neg => rw [if_pos (by omega), if_pos (.inl h1)]; rfl
      rw [if_neg (by omega)]
      by_cases h2 : b.1.length = 2
      case neg => rw [if_pos (by omega), if_pos (.inr (.inl h2))]; rfl
      rw [if_neg (by omega), if_pos (show 1 < a.1.length by omega), if_pos (show 0 < b.1.length by omega)]
      by_cases h3 : a.1.getD 1 0 = b.1.getD 0 0
      case neg => rw [if_pos h3, if_pos (.inr (.inr (.inl h3)))]; rfl
      rw [if_neg (fun h => h h3)]
      have f1 : 0 < a.1.length := by omega
      have f2 : 1 < b.1.length := by omega
      simp only [if_pos f1, if_pos f2, h1, h2, h3, ne_eq, not_true, false_or]
      cases h4 : a.2 <;> cases h5 : b.2 <;> cases h6 : narrowB za <;> cases h7 : narrowB zb <;> cases h8 : (shapeV [a.1.getD 0 0, b.1.getD 1 0]).isNil <;>
        simp only [cond_true, cond_false, Bool.not_true, Bool.not_false, Bool.false_eq_true, or_true, true_or, or_false, false_or, or_self, if_true, if_false, reduceCtorEq] <;> rfl

theorem loop_mat_result {N : Nat} (hN : 20000 ≤ N) (za zb : Int) (a b : T × Unit) (t : List Int × Bool × Unit) (l : List T) (hl : l.length < 1000000) : ∀ (n i : Nat), i ≤ l.length → l.length < n + i →
    g_mat_result_0 N n za zb a b t l l.length i = match (l.drop i).find? (fun d => !(tensV d).isNil) with
      | some d => some (.inr (([], (false, ())), (tensV d, ())))
      | none => some (.inl (za, (zb, (a, (b, (t, ()))))))
  | 0, i, h, h' => by omega
  | n + 1, i, h, h' => by
    rw [g_mat_result_0]
    simp only [cond_dec, Int.ofNat_lt, Int.toNat_natCast, Int.natCast_nonneg, if_true, Nat.zero_add, tens_Valid_spec hN, Option.bind_some]
    by_cases hi : i < l.length
    · rw [if_pos hi, if_pos hi, if_pos hi, drop_cons hi (([], false), []), List.find?_cons, wi64_succ (by omega)]
      cases hf : (tensV (l.getD i (([], false), []))).isNil with
      | false => simp
      | true =>
        simp only [Bool.not_true, cond_false]
        exact loop_mat_result hN za zb a b t l hl n (i + 1) hi (by omega)
    · rw [if_neg hi, List.drop_eq_nil_of_le (by omega)]
      rfl

/-- what the product of tensors looks like -/
def matRes' (a b : T) (za zb : Int) : D × Er :=
  if !(tensV a).isNil then (noD, tensV a)
  else if !(tensV b).isNil then (noD, tensV b)
  else matRes za zb a.1 b.1

theorem mat_result_spec {N : Nat} (hN : 20000 ≤ N) (a b : T) (za zb : Int) : F_mat_result N a b za zb = some ((matRes' a b za zb).1, ((matRes' a b za zb).2, ())) := by
  unfold F_mat_result matRes'
  have h0 := loop_mat_result hN za zb (a, ()) (b, ()) ([], false, ()) [a, b] (by simp) N 0 (by simp) (by simp; omega)
  rw [show ((0 : Nat) : Int) = 0 from rfl, List.drop_zero] at h0
  simp only [List.length_cons, List.length_nil, Nat.zero_add, Nat.reduceAdd] at h0
  rw [h0]
  cases ha : (tensV a).isNil with
  | false => simp [ha, noD, cond_dec]
  | true =>
    cases hb : (tensV b).isNil with
    | false => simp [ha, hb, noD, cond_dec]
    | true =>
      simp only [List.find?_cons, List.find?_nil, ha, hb, Bool.not_true, Option.bind_some, Sum.elim_inl, mat_Result_spec hN, Bool.false_eq_true, if_false]

/-- what a product is made of -/
structure MulOK (a b : T) (za zb : Int) (m k n : Nat) : Prop where
  hm : 1 ≤ m ∧ m ≤ 256
  hk : 1 ≤ k ∧ k ≤ 256
  hn : 1 ≤ n ∧ n ≤ 256
  hA : a.2.length = m * k
  hB : b.2.length = k * n
  fA : ∀ p, -128 ≤ a.2.getD p 0 ∧ a.2.getD p 0 ≤ 127
  fB : ∀ p, -128 ≤ b.2.getD p 0 ∧ b.2.getD p 0 ≤ 127
  hza : -128 ≤ za ∧ za ≤ 127
  hzb : -128 ≤ zb ∧ zb ≤ 127

/-- one of a product's parts -/
def mulF (A B : List Int) (za zb : Int) (k n i j x : Nat) : Int := (A.getD (i * k + x) 0 - za) * (B.getD (x * n + j) 0 - zb)
/-- an element of a product -/
def mulC (A B : List Int) (za zb : Int) (k n p : Nat) : Int := round32 (sumN (mulF A B za zb k n (p / n) (p % n)) k)
/-- a product's numbers -/
def mulL (A B : List Int) (za zb : Int) (m k n : Nat) : List Int := (List.range (m * n)).map (mulC A B za zb k n)

section
variable {N : Nat} {a b : T} {za zb : Int} {m k n : Nat}

theorem MulOK.part (h : MulOK a b za zb m k n) (i j x : Nat) : -65025 ≤ mulF a.2 b.2 za zb k n i j x ∧ mulF a.2 b.2 za zb k n i j x ≤ 65025 := by
  have h1 := h.fA (i * k + x)
  have h2 := h.fB (x * n + j)
  have h3 := h.hza
  have h4 := h.hzb
  exact mul_abs (A := 255) (B := 255) (by omega) (by omega) (by omega) (by omega)

theorem loop_Mul_2 (h : MulOK a b za zb m k n) (t8 out : List Int × (Bool × (List Int × Unit))) {i j : Nat} (hi : i < m) (hj : j < n) : ∀ (cnt x : Nat), x ≤ k → k < cnt + x →
    g_mat_Mul_2 N cnt za zb (a, ()) (b, ()) t8 m k n out i j (sumN (mulF a.2 b.2 za zb k n i j) x) k x =
      some (za, (zb, ((a, ()), ((b, ()), (t8, ((m : Int), ((k : Int), ((n : Int), (out, ((i : Int), ((j : Int), (sumN (mulF a.2 b.2 za zb k n i j) k, ()))))))))))))
  | 0, x, h1, h2 => by omega
  | cnt + 1, x, h1, h2 => by
    have hm := h.hm
    have hk := h.hk
    have hn := h.hn
    rw [g_mat_Mul_2]
    simp only [cond_dec, Int.ofNat_lt, if_true]
    by_cases hx : x < k
    · have hik : i * k + x < m * k := by
        have : (i + 1) * k ≤ m * k := Nat.mul_le_mul_right k hi
        rw [Nat.add_mul] at this
        omega
      have hxn : x * n + j < k * n := by
        have : (x + 1) * n ≤ k * n := Nat.mul_le_mul_right n hx
        rw [Nat.add_mul] at this
        omega
      have hmk : m * k ≤ 256 * 256 := Nat.mul_le_mul hm.2 hk.2
      have hkn : k * n ≤ 256 * 256 := Nat.mul_le_mul hk.2 hn.2
      have e1 : wi64 (wi64 ((i : Int) * k) + x) = ((i * k + x : Nat) : Int) := wi64_row (by omega)
      have e2 : wi64 (wi64 ((x : Int) * n) + j) = ((x * n + j : Nat) : Int) := wi64_row (by omega)
      have h3 := h.fA (i * k + x)
      have h4 := h.fB (x * n + j)
      have h5 := h.hza
      have h6 := h.hzb
      have h7 := h.part i j x
      have h8 := sumN_bound (mulF a.2 b.2 za zb k n i j) 65025 (fun q => h.part i j q) x
      have e3 : wi64 (sumN (mulF a.2 b.2 za zb k n i j) x + wi64 (wi64 (a.2.getD (i * k + x) 0 - za) * wi64 (b.2.getD (x * n + j) 0 - zb))) = sumN (mulF a.2 b.2 za zb k n i j) (x + 1) := by
        have : wi64 (wi64 (a.2.getD (i * k + x) 0 - za) * wi64 (b.2.getD (x * n + j) 0 - zb)) = mulF a.2 b.2 za zb k n i j x := by
          unfold mulF at h7 ⊢
          rw [wi64_in (n := a.2.getD (i * k + x) 0 - za) (by omega) (by omega), wi64_in (n := b.2.getD (x * n + j) 0 - zb) (by omega) (by omega), wi64_in (by omega) (by omega)]
        rw [this, wi64_in (by omega) (by omega)]
        rfl
      rw [if_pos hx]
      simp only [e1, e2, Int.toNat_natCast, Int.natCast_nonneg, if_true, h.hA, h.hB, hik, hxn, e3]
      rw [wi64_succ (by omega)]
      exact loop_Mul_2 h t8 out hi hj cnt (x + 1) hx (by omega)
    · have : x = k := by omega
      subst this
      rw [if_neg hx]

abbrev outAt (A B : List Int) (za zb : Int) (m k n q : Nat) : List Int := (List.range (m * n)).map fun p => if p < q then mulC A B za zb k n p else 0

theorem loop_Mul_1 (h : MulOK a b za zb m k n) (t8 : List Int × (Bool × (List Int × Unit))) (sh : List Int) (w : Bool) (hN : 20000 ≤ N) {i : Nat} (hi : i < m) : ∀ (cnt j : Nat), j ≤ n → n < cnt + j →
    g_mat_Mul_1 N cnt za zb (a, ()) (b, ()) t8 m k n (boxT sh w (outAt a.2 b.2 za zb m k n (i * n + j))) i j =
      some (.inr (za, (zb, ((a, ()), ((b, ()), (t8, ((m : Int), ((k : Int), ((n : Int), (boxT sh w (outAt a.2 b.2 za zb m k n ((i + 1) * n)), ((i : Int), ())))))))))))
  | 0, j, h1, h2 => by omega
  | cnt + 1, j, h1, h2 => by
    have hm := h.hm
    have hk := h.hk
    have hn := h.hn
    rw [g_mat_Mul_1]
    simp only [cond_dec, Int.ofNat_inj, if_true]
    by_cases hj : j = n
    · subst hj
      rw [if_pos rfl, Nat.add_mul, Nat.one_mul]
    · have hlt : j < n := by omega
      rw [if_neg hj, if_neg (by omega)]
      have h0 := loop_Mul_2 (N := N) h t8 (boxT sh w (outAt a.2 b.2 za zb m k n (i * n + j))) hi hlt N 0 (by omega) (by omega)
      simp only [sumN] at h0
      rw [show ((0 : Nat) : Int) = 0 from rfl] at h0
      rw [h0]
      have hin : i * n + j < m * n := by
        have : (i + 1) * n ≤ m * n := Nat.mul_le_mul_right n hi
        rw [Nat.add_mul] at this
        omega
      have hmn : m * n ≤ 256 * 256 := Nat.mul_le_mul hm.2 hn.2
      have e1 : wi64 (wi64 ((i : Int) * n) + j) = ((i * n + j : Nat) : Int) := wi64_row (by omega)
      have hc : round32 (sumN (mulF a.2 b.2 za zb k n i j) k) = mulC a.2 b.2 za zb k n (i * n + j) := by
        unfold mulC
        have d1 : (i * n + j) / n = i := by rw [Nat.mul_comm, Nat.mul_add_div (by omega), Nat.div_eq_of_lt hlt]; rfl
        have d2 : (i * n + j) % n = j := by rw [Nat.mul_comm, Nat.mul_add_mod, Nat.mod_eq_of_lt hlt]
        rw [d1, d2]
      simp only [Option.bind_some, tens_Wide_spec, e1, Int.toNat_natCast, Int.natCast_nonneg, if_true, Nat.zero_add, List.length_set, List.length_map, List.length_range, hin, hc]
      rw [set_upto _ _ _ _ hin, wi64_succ (by omega)]
      exact loop_Mul_1 h t8 sh w hN hi cnt (j + 1) hlt (by omega)

theorem loop_Mul_0 (h : MulOK a b za zb m k n) (t8 : List Int × (Bool × (List Int × Unit))) (sh : List Int) (w : Bool) (hN : 20000 ≤ N) : ∀ (cnt i : Nat), i ≤ m → m < cnt + i →
    g_mat_Mul_0 N cnt za zb (a, ()) (b, ()) t8 m k n (boxT sh w (outAt a.2 b.2 za zb m k n (i * n))) i = some (t8, (boxT sh w (mulL a.2 b.2 za zb m k n), ()))
  | 0, i, h1, h2 => by omega
  | cnt + 1, i, h1, h2 => by
    have hm := h.hm
    have hn := h.hn
    rw [g_mat_Mul_0]
    simp only [cond_dec, if_true]
    by_cases hi : i = m
    · subst hi
      obtain ⟨M, rfl⟩ : ∃ M, N = M + 1 := ⟨N - 1, by omega⟩
      rw [g_mat_Mul_1]
      simp only [cond_dec, if_true]
      rw [if_neg (by omega)]
      simp only [Option.bind_some, Sum.elim_inl, if_true, outAt, map_upto_all]
      rfl
    · have hlt : i < m := by omega
      have h0 := loop_Mul_1 h t8 sh w hN hlt N 0 (by omega) (by omega)
      rw [show ((0 : Nat) : Int) = 0 from rfl, Nat.add_zero] at h0
      rw [h0]
      simp only [Option.bind_some, Sum.elim_inr, if_true]
      rw [wi64_succ (by omega)]
      exact loop_Mul_0 h t8 sh w hN cnt (i + 1) hlt (by omega)

end

theorem shapeV_two {m k : Nat} (hm : 1 ≤ m ∧ m ≤ 256) (hk : 1 ≤ k ∧ k ≤ 256) (h : m * k ≤ 16384) : shapeV [(m : Int), (k : Int)] = .nil := by
  rw [shapeV_nil]
  have e : (m : Int) * k = ((m * k : Nat) : Int) := by simp
  refine ⟨by simp, ?_, ?_⟩
  · simp [badDim]; omega
  · simp only [overs, Int.one_mul, e, Bool.or_false, Bool.or_eq_false_iff, decide_eq_false_iff_not]
    generalize m * k = P at h
    omega

theorem elems_two {m k : Nat} (hm : 1 ≤ m ∧ m ≤ 256) (hk : 1 ≤ k ∧ k ≤ 256) (h : m * k ≤ 16384) : elems [(m : Int), (k : Int)] = ((m * k : Nat) : Int) := by
  unfold elems
  rw [shapeV_two hm hk h]
  simp [Er.isNil]

theorem tensV_two {m k : Nat} {d : List Int} (hm : 1 ≤ m ∧ m ≤ 256) (hk : 1 ≤ k ∧ k ≤ 256) (h : m * k ≤ 16384) (hd : d.length = m * k) (hf : ∀ x, x ∈ d → -128 ≤ x ∧ x ≤ 127) :
    tensV (([(m : Int), (k : Int)], false), d) = .nil := by
  unfold tensV
  rw [shapeV_two hm hk h, elems_two hm hk h, hd]
  simp only [Er.isNil, if_true]
  have : d.findIdx? (fun n => !fitsB false n) = none := by
    rw [List.findIdx?_eq_none_iff]
    intro x hx
    have := hf x hx
    simp [fitsB, this]
  rw [this]

/-- a product -/
theorem mat_Mul_good {N : Nat} (hN : 20000 ≤ N) {m k n : Nat} {A B : List Int} {za zb : Int} (hm : 1 ≤ m ∧ m ≤ 256) (hk : 1 ≤ k ∧ k ≤ 256) (hn : 1 ≤ n ∧ n ≤ 256) (hmk : m * k ≤ 16384) (hkn : k * n ≤ 16384) (hmn : m * n ≤ 16384)
    (hA : A.length = m * k) (hB : B.length = k * n) (fA : ∀ x, x ∈ A → -128 ≤ x ∧ x ≤ 127) (fB : ∀ x, x ∈ B → -128 ≤ x ∧ x ≤ 127) (hza : -128 ≤ za ∧ za ≤ 127) (hzb : -128 ≤ zb ∧ zb ≤ 127) :
    F_mat_Mul N (([(m : Int), (k : Int)], false), A) (([(k : Int), (n : Int)], false), B) za zb = some (boxT [(m : Int), (n : Int)] true (mulL A B za zb m k n), (.nil, ())) := by
  have hr : matRes' (([(m : Int), (k : Int)], false), A) (([(k : Int), (n : Int)], false), B) za zb = (([(m : Int), (n : Int)], true), .nil) := by
    unfold matRes' matRes
    rw [tensV_two hm hk hmk hA fA, tensV_two hk hn hkn hB fB]
    simp only [Er.isNil, Bool.not_true, Bool.false_eq_true, if_false]
    rw [shapeV_two hm hk hmk, shapeV_two hk hn hkn]
    have n1 : narrowB za = true := by simp [narrowB, hza]
    have n2 : narrowB zb = true := by simp [narrowB, hzb]
    simp only [Er.isNil, Bool.not_true, Bool.false_eq_true, if_false, n1, n2, List.length_cons, List.length_nil, List.getD_cons_zero, List.getD_cons_succ]
    rw [if_neg (by simp), if_neg (by simp), shapeV_two hm hn hmn]
    rfl
  have hM : MulOK (([(m : Int), (k : Int)], false), A) (([(k : Int), (n : Int)], false), B) za zb m k n := ⟨hm, hk, hn, hA, hB, getD_in fA, getD_in fB, hza, hzb⟩
  unfold F_mat_Mul
  rw [mat_result_spec hN, hr]
  have h0 := loop_Mul_0 hM ([], (false, ([], ()))) [(m : Int), (n : Int)] true hN N 0 (by omega) (by omega)
  rw [show ((0 : Nat) : Int) = 0 from rfl, Nat.zero_mul, outAt, map_upto_zero, ← replicate_range] at h0
  simp only [Option.bind_some, Er.isNil, Bool.not_true, cond_false, cond_dec, List.length_cons, List.length_nil, List.getD_cons_zero, List.getD_cons_succ]
  rw [wi64_mul (by omega)]
  simp only [Int.toNat_natCast, Int.natCast_nonneg, if_true, Int.le_refl, List.length_replicate]
  rw [if_pos (by omega), if_pos (by omega), if_pos (by omega), if_pos (by unfold most; generalize m * n = P at hmn; omega), h0]
  simp

/-- … that may not be -/
theorem mat_Mul_bad {N : Nat} (hN : 20000 ≤ N) {a b : T} {za zb : Int} (h : (matRes' a b za zb).2.isNil = false) : F_mat_Mul N a b za zb = some (boxT [] false [], ((matRes' a b za zb).2, ())) := by
  unfold F_mat_Mul
  rw [mat_result_spec hN]
  simp [h]

theorem mulL_length (A B : List Int) (za zb : Int) (m k n : Nat) : (mulL A B za zb m k n).length = m * n := by simp [mulL]

end Go.Proofs.YtbpifndhkdbmhaaDoor.Lg
