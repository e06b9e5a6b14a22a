/-
  Products turned, their elements one by one, in plain words.
-/
import Derived.Test.YtooocaciaflbdaaDoorLgMatQ
namespace Go.Proofs.YtooocaciaflbdaaDoor.Lg
open Go Go.Eng Go.Proofs

/-- a matrix's numbers, turned -/
def turnL (A : List Int) (m n : Nat) : List Int := (List.range (m * n)).map fun i => A.getD (i % m * n + i / m) 0

theorem turnL_length (A : List Int) (m n : Nat) : (turnL A m n).length = m * n := by simp [turnL]

theorem turn_idx {m n i : Nat} (h : i < m * n) : i % m < m ∧ i / m < n ∧ i % m * n + i / m < m * n := by
  have hm : 0 < m := by
    rcases Nat.eq_zero_or_pos m with h0 | h0
    · rw [h0, Nat.zero_mul] at h; omega
    · exact h0
  have h1 := Nat.mod_lt i hm
  have h2 : i / m < n := Nat.div_lt_of_lt_mul h
  refine ⟨h1, h2, ?_⟩
  have : (i % m + 1) * n ≤ m * n := Nat.mul_le_mul_right n h1
  rw [Nat.add_mul] at this
  omega

theorem wi64_tdiv (i m : Nat) (h : i ≤ 1099511627776) : wi64 (Int.tdiv (i : Int) (m : Int)) = ((i / m : Nat) : Int) := by
  rw [show Int.tdiv (i : Int) (m : Int) = ((i / m : Nat) : Int) from (Int.ofNat_tdiv i m).symm]
  have := Nat.div_le_self i m
  generalize i / m = q at *
  exact wi64_in (by omega) (by omega)

theorem loop_Turn (N : Nat) (a : T × Unit) (t2 : List Int × (Bool × (List Int × Unit))) (sh : List Int) (w : Bool) {m n : Nat} (hmn : m * n ≤ 16384) (ha : a.1.2.length = m * n) : ∀ (cnt i : Nat), i ≤ m * n → m * n < cnt + i →
    g_mat_Turn_0 N cnt a t2 m n (boxT sh w ((List.range i).map fun i => a.1.2.getD (i % m * n + i / m) 0)) ((m * n : Nat) : Int) i = some (t2, (boxT sh w (turnL a.1.2 m n), ()))
  | 0, i, h, h' => by omega
  | cnt + 1, i, h, h' => by
    rw [g_mat_Turn_0]
    simp only [cond_dec, Int.ofNat_lt, if_true, tmod_nat]
    by_cases hi : i < m * n
    · obtain ⟨h1, h2, h3⟩ := turn_idx hi
      have e1 : wi64 (wi64 (((i % m : Nat) : Int) * n) + wi64 (Int.tdiv (i : Int) (m : Int))) = ((i % m * n + i / m : Nat) : Int) := by
        rw [wi64_tdiv i m (by omega)]
        exact wi64_row (by omega)
      rw [if_pos hi, if_pos (by omega), if_pos (by omega), e1]
      simp only [Int.natCast_nonneg, Int.toNat_natCast, ha, h3, if_true, List.length_map, List.length_range, Nat.zero_add, List.length_append, List.length_cons, List.length_nil, List.length_take, Nat.min_self]
      rw [if_pos (by unfold most; omega), wi64_succ (by omega)]
      have e2 : List.take i ((List.range i).map fun i => a.1.2.getD (i % m * n + i / m) 0) ++ [a.1.2.getD (i % m * n + i / m) 0] = (List.range (i + 1)).map fun i => a.1.2.getD (i % m * n + i / m) 0 := by
        rw [List.take_of_length_le (by simp), List.range_succ, List.map_append]
        rfl
      rw [e2]
      exact loop_Turn N a t2 sh w hmn ha cnt (i + 1) hi (by omega)
    · have : i = m * n := by omega
      subst this
      rw [if_neg hi]
      rfl

theorem mat_Turn_good {N : Nat} (hN : 20000 ≤ N) {m n : Nat} {A : List Int} {w : Bool} (hv : tensV (([(m : Int), (n : Int)], w), A) = .nil) (hmn : m * n ≤ 16384) (hA : A.length = m * n) :
    F_mat_Turn N (([(m : Int), (n : Int)], w), A) = some (boxT [(n : Int), (m : Int)] w (turnL A m n), (.nil, ())) := by
  unfold F_mat_Turn
  refine bnd _ (tens_Valid_spec hN _) ?_
  refine bF (by rw [hv]; rfl) ?_
  refine cF (by simp) ?_
  refine cT (by simp) ?_
  refine cT (by simp) ?_
  have h0 := loop_Turn N ((([(m : Int), (n : Int)], w), A), ()) ([], (false, ([], ()))) [(n : Int), (m : Int)] w hmn hA N 0 (by omega) (by omega)
  rw [show ((0 : Nat) : Int) = 0 from rfl] at h0
  refine bnd _ (by rw [show wi64 (List.getD [(m : Int), (n : Int)] 0 0 * List.getD [(m : Int), (n : Int)] 1 0) = ((m * n : Nat) : Int) from wi64_mul (by omega)]; exact h0) ?_
  refine cT rfl ?_
  exact cT rfl rfl

theorem loop_Equal (N : Nat) (a b : List Int) (ha : a.length = b.length) (hl : a.length < 1000000) : ∀ (n i : Nat), i ≤ a.length → a.length < n + i → a.take i = b.take i →
    g_slices_Equal_int_int_0 N n a b a.length i = if a = b then some (.inl ()) else some (.inr (false, ()))
  | 0, i, h, h', _ => by omega
  | n + 1, i, h, h', ht => by
    rw [g_slices_Equal_int_int_0]
    simp only [cond_dec, Int.ofNat_lt, Int.toNat_natCast, Int.natCast_nonneg, if_true]
    by_cases hi : i < a.length
    · rw [if_pos hi, if_pos hi, if_pos (by omega), wi64_succ (by omega)]
      by_cases he : a.getD i 0 = b.getD i 0
      · rw [if_neg (fun h => h he)]
        refine loop_Equal N a b ha hl n (i + 1) hi (by omega) ?_
        rw [List.take_succ_eq_append_getElem hi, List.take_succ_eq_append_getElem (by omega), ht]
        rw [getD_lt hi, getD_lt (by omega)] at he
        rw [he]
      · have : a ≠ b := fun e => he (by rw [e])
        rw [if_neg this, if_pos he]
    · rw [if_neg hi]
      have : a = b := by
        rw [List.take_of_length_le (by omega), List.take_of_length_le (by omega)] at ht
        exact ht
      rw [if_pos this]

theorem slices_Equal_spec {N : Nat} (a b : List Int) (hl : a.length < 1000000) (hN : a.length < N) : F_slices_Equal_int_int N a b = some (decide (a = b), ()) := by
  unfold F_slices_Equal_int_int
  simp only [cond_dec]
  by_cases h : a.length = b.length
  · rw [if_neg (by omega)]
    have := loop_Equal N a b h hl N 0 (by omega) (by omega) (by simp)
    rw [show ((0 : Nat) : Int) = 0 from rfl] at this
    rw [this]
    by_cases e : a = b <;> simp [e]
  · rw [if_pos (by omega)]
    have : a ≠ b := fun e => h (by rw [e])
    simp [this]

theorem tens_Same_refl {N : Nat} (a : T) (h1 : a.1.1.length < 1000000) (h1' : a.1.1.length < N) (h2 : a.2.length < 1000000) (h2' : a.2.length < N) : F_tens_Same N a a = some (true, ()) := by
  unfold F_tens_Same F_shape_Same
  refine bnd (true, ()) ?_ ?_
  · refine bT (by simp) ?_
    refine bnd _ (slices_Equal_spec _ _ h1 h1') ?_
    simp
  · refine bT rfl ?_
    refine bnd _ (slices_Equal_spec _ _ h2 h2') ?_
    simp

theorem mat_Cell_1_1_spec (N : Nat) (i : Nat) (t : T) (h : i < t.2.length) : F_mat_Cell_1_1 N (i : Int) t = some (t.2.getD i 0, ()) := by
  unfold F_mat_Cell_1_1
  simp [cond_dec, h]

theorem loop_At (N : Nat) {a b : T} {za zb : Int} {m k n : Nat} (h : MulOK a b za zb m k n) {i j : Nat} (hi : i < m) (hj : j < n) : ∀ (cnt x : Nat), x ≤ k → k < cnt + x →
    g_mat_At_0 N cnt k n a b za zb (sumN (mulF a.2 b.2 za zb k n i j) x) i j k x = some (sumN (mulF a.2 b.2 za zb k n i j) k, ())
  | 0, x, h1, h2 => by omega
  | cnt + 1, x, h1, h2 => by
    have hm := h.hm
    have hk := h.hk
    have hn := h.hn
    rw [g_mat_At_0]
    simp only [cond_dec, Int.ofNat_lt]
    by_cases hx : x < k
    · have hik : i * k + x < m * k := by
        have : (i + 1) * k ≤ m * k := Nat.mul_le_mul_right k hi
        rw [Nat.add_mul] at this
        omega
      have hxn : x * n + j < k * n := by
        have : (x + 1) * n ≤ k * n := Nat.mul_le_mul_right n hx
        rw [Nat.add_mul] at this
        omega
      have hmk : m * k ≤ 256 * 256 := Nat.mul_le_mul hm.2 hk.2
      have hkn : k * n ≤ 256 * 256 := Nat.mul_le_mul hk.2 hn.2
      have h3 := h.fA (i * k + x)
      have h4 := h.fB (x * n + j)
      have h5 := h.hza
      have h6 := h.hzb
      have h7 := h.part i j x
      have h8 := sumN_bound (mulF a.2 b.2 za zb k n i j) 65025 (fun q => h.part i j q) x
      have e3 : wi64 (sumN (mulF a.2 b.2 za zb k n i j) x + wi64 (wi64 (a.2.getD (i * k + x) 0 - za) * wi64 (b.2.getD (x * n + j) 0 - zb))) = sumN (mulF a.2 b.2 za zb k n i j) (x + 1) := by
        have : wi64 (wi64 (a.2.getD (i * k + x) 0 - za) * wi64 (b.2.getD (x * n + j) 0 - zb)) = mulF a.2 b.2 za zb k n i j x := by
          unfold mulF at h7 ⊢
          rw [wi64_in (n := a.2.getD (i * k + x) 0 - za) (by omega) (by omega), wi64_in (n := b.2.getD (x * n + j) 0 - zb) (by omega) (by omega), wi64_in (by omega) (by omega)]
        rw [this, wi64_in (by omega) (by omega)]
        rfl
      rw [if_pos hx, wi64_row (i := i) (k := k) (x := x) (by omega), wi64_row (i := x) (k := n) (x := j) (by omega), mat_Cell_1_1_spec N _ a (by rw [h.hA]; exact hik), mat_Cell_1_1_spec N _ b (by rw [h.hB]; exact hxn)]
      simp only [Option.bind_some, e3]
      rw [wi64_succ (by omega)]
      exact loop_At N h hi hj cnt (x + 1) hx (by omega)
    · have : x = k := by omega
      subst this
      rw [if_neg hx]

theorem mat_At_spec {N : Nat} (hN : 20000 ≤ N) {a b : T} {za zb : Int} {m k n : Nat} (h : MulOK a b za zb m k n) {i : Nat} (hi : i < m * n) : F_mat_At N k n a b za zb i = some (mulC a.2 b.2 za zb k n i, ()) := by
  have hn := h.hn
  have hm := h.hm
  have hmn : m * n ≤ 256 * 256 := Nat.mul_le_mul hm.2 hn.2
  have h1 : i / n < m := by
    rw [Nat.mul_comm] at hi
    exact Nat.div_lt_of_lt_mul hi
  have h2 : i % n < n := Nat.mod_lt _ (by omega)
  unfold F_mat_At
  refine cT (by omega) ?_
  refine cT (by omega) ?_
  have h0 := loop_At N h h1 h2 N 0 (by omega) (by have := h.hk; omega)
  simp only [sumN] at h0
  rw [show ((0 : Nat) : Int) = 0 from rfl] at h0
  refine bnd _ (by rw [wi64_tdiv i n (by omega), tmod_nat]; exact h0) ?_
  refine bnd _ (tens_Wide_spec N _) ?_
  rfl

theorem matRes'_good {m k n : Nat} {A B : List Int} {za zb : Int} (hm : 1 ≤ m ∧ m ≤ 256) (hk : 1 ≤ k ∧ k ≤ 256) (hn : 1 ≤ n ∧ n ≤ 256) (hmk : m * k ≤ 16384) (hkn : k * n ≤ 16384) (hmn : m * n ≤ 16384)
    (hA : A.length = m * k) (hB : B.length = k * n) (fA : ∀ x, x ∈ A → -128 ≤ x ∧ x ≤ 127) (fB : ∀ x, x ∈ B → -128 ≤ x ∧ x ≤ 127) (hza : -128 ≤ za ∧ za ≤ 127) (hzb : -128 ≤ zb ∧ zb ≤ 127) :
    matRes' (([(m : Int), (k : Int)], false), A) (([(k : Int), (n : Int)], false), B) za zb = (([(m : Int), (n : Int)], true), .nil) := by
  unfold matRes' matRes
  rw [tensV_two hm hk hmk hA fA, tensV_two hk hn hkn hB fB]
  simp only [Er.isNil, Bool.not_true, Bool.false_eq_true, if_false]
  rw [shapeV_two hm hk hmk, shapeV_two hk hn hkn]
  have n1 : narrowB za = true := by simp [narrowB, hza]
  have n2 : narrowB zb = true := by simp [narrowB, hzb]
  simp only [Er.isNil, Bool.not_true, Bool.false_eq_true, if_false, n1, n2, List.length_cons, List.length_nil, List.getD_cons_zero, List.getD_cons_succ]
  rw [if_neg (by simp), if_neg (by simp), shapeV_two hm hn hmn]
  rfl

/-- an element of a product -/
theorem mat_Cell_good {N : Nat} (hN : 20000 ≤ N) {m k n : Nat} {A B : List Int} {za zb : Int} (hm : 1 ≤ m ∧ m ≤ 256) (hk : 1 ≤ k ∧ k ≤ 256) (hn : 1 ≤ n ∧ n ≤ 256) (hmk : m * k ≤ 16384) (hkn : k * n ≤ 16384) (hmn : m * n ≤ 16384)
    (hA : A.length = m * k) (hB : B.length = k * n) (fA : ∀ x, x ∈ A → -128 ≤ x ∧ x ≤ 127) (fB : ∀ x, x ∈ B → -128 ≤ x ∧ x ≤ 127) (hza : -128 ≤ za ∧ za ≤ 127) (hzb : -128 ≤ zb ∧ zb ≤ 127) (i : Int) :
    F_mat_Cell N (([(m : Int), (k : Int)], false), A) (([(k : Int), (n : Int)], false), B) za zb i = some (if 0 ≤ i ∧ i < ((m * n : Nat) : Int) then mulC A B za zb k n i.toNat else 0, ()) := by
  have hM : MulOK (([(m : Int), (k : Int)], false), A) (([(k : Int), (n : Int)], false), B) za zb m k n := ⟨hm, hk, hn, hA, hB, getD_in fA, getD_in fB, hza, hzb⟩
  unfold F_mat_Cell
  refine bnd _ (mat_result_spec hN _ _ _ _) ?_
  rw [matRes'_good hm hk hn hmk hkn hmn hA hB fA fB hza hzb]
  refine bF rfl ?_
  by_cases h0 : i < 0
  · rw [if_neg (by omega)]
    exact cT h0 rfl
  refine cF h0 ?_
  refine bnd _ (shape_Elems_spec hN _) ?_
  rw [elems_two hm hn hmn]
  by_cases h1 : ((m * n : Nat) : Int) ≤ i
  · rw [if_neg (by omega)]
    exact cT h1 rfl
  refine cF h1 ?_
  refine cT (by simp) ?_
  refine cT (by simp) ?_
  refine bnd ((([(m : Int), (k : Int)], false), A), ()) rfl ?_
  refine bnd ((([(k : Int), (n : Int)], false), B), ()) rfl ?_
  rw [if_pos (by omega)]
  have := mat_At_spec hN hM (i := i.toNat) (by omega)
  rw [show ((i.toNat : Nat) : Int) = i by omega] at this
  exact bnd _ this rfl

/-! the laws -/

theorem sumN_congr {f g : Nat → Int} : ∀ {c : Nat}, (∀ x, x < c → f x = g x) → sumN f c = sumN g c
  | 0, _ => rfl
  | c + 1, h => by simp only [sumN]; rw [sumN_congr (fun x hx => h x (by omega)), h c (by omega)]

theorem round32_in {n : Int} (h : -2147483648 ≤ n ∧ n ≤ 2147483647) : round32 n = n := by
  unfold round32
  omega

theorem round32_range (n : Int) : -2147483648 ≤ round32 n ∧ round32 n ≤ 2147483647 := by
  unfold round32
  omega

theorem turnL_getD {A : List Int} {m n i : Nat} (h : i < m * n) : (turnL A m n).getD i 0 = A.getD (i % m * n + i / m) 0 := by
  rw [getD_lt (by rw [turnL_length]; exact h)]
  simp [turnL]

/-- the product of both turned, the other way -/
theorem mul_turn {A B : List Int} {za zb : Int} {m k n : Nat} (hm : 0 < m) (hk : 0 < k) (hn : 0 < n) :
    mulL (turnL B k n) (turnL A m k) zb za n k m = turnL (mulL A B za zb m k n) m n := by
  apply List.ext_getElem
  · simp [mulL, turnL, Nat.mul_comm]
  · intro p h1 h2
    rw [turnL_length] at h2
    obtain ⟨g1, g2, g3⟩ := turn_idx h2
    simp only [mulL, turnL, List.getElem_map, List.getElem_range]
    have hL : ((List.range (m * n)).map (mulC A B za zb k n)).getD (p % m * n + p / m) 0 = mulC A B za zb k n (p % m * n + p / m) := by
      rw [getD_lt (by simpa using g3)]
      simp
    rw [hL]
    unfold mulC
    congr 1
    apply sumN_congr
    intro x hx
    have d1 : (p % m * n + p / m) / n = p % m := by rw [Nat.mul_comm, Nat.mul_add_div hn, Nat.div_eq_of_lt g2]; rfl
    have d2 : (p % m * n + p / m) % n = p / m := by rw [Nat.mul_comm, Nat.mul_add_mod, Nat.mod_eq_of_lt g2]
    rw [d1, d2]
    unfold mulF
    have i1 : p / m * k + x < k * n := by
      have : (p / m + 1) * k ≤ n * k := Nat.mul_le_mul_right k g2
      rw [Nat.add_mul, Nat.mul_comm n k] at this
      omega
    have i2 : x * m + p % m < m * k := by
      have : (x + 1) * m ≤ k * m := Nat.mul_le_mul_right m hx
      rw [Nat.add_mul, Nat.mul_comm k m] at this
      omega
    have b1 : ((List.range (k * n)).map fun i => B.getD (i % k * n + i / k) 0).getD (p / m * k + x) 0 = B.getD (x * n + p / m) 0 := by
      have := turnL_getD (A := B) i1
      unfold turnL at this
      rw [this]
      have e1 : (p / m * k + x) % k = x := by rw [Nat.mul_comm, Nat.mul_add_mod, Nat.mod_eq_of_lt hx]
      have e2 : (p / m * k + x) / k = p / m := by rw [Nat.mul_comm, Nat.mul_add_div hk, Nat.div_eq_of_lt hx]; rfl
      rw [e1, e2]
    have b2 : ((List.range (m * k)).map fun i => A.getD (i % m * k + i / m) 0).getD (x * m + p % m) 0 = A.getD (p % m * k + x) 0 := by
      have := turnL_getD (A := A) i2
      unfold turnL at this
      rw [this]
      have e1 : (x * m + p % m) % m = p % m := by rw [Nat.mul_comm, Nat.mul_add_mod, Nat.mod_eq_of_lt g1]
      have e2 : (x * m + p % m) / m = x := by rw [Nat.mul_comm, Nat.mul_add_div hm, Nat.div_eq_of_lt g1]; rfl
      rw [e1, e2]
    rw [b1, b2, Int.mul_comm]

theorem turn_turn {A : List Int} {m n : Nat} (hA : A.length = m * n) : turnL (turnL A m n) n m = A := by
  apply List.ext_getElem
  · simp [turnL, hA, Nat.mul_comm]
  · intro p h1 h2
    rw [turnL_length] at h1
    obtain ⟨g1, g2, g3⟩ := turn_idx h1
    simp only [turnL, List.getElem_map, List.getElem_range]
    have := turnL_getD (A := A) (m := m) (n := n) (i := p % n * m + p / n) (by rw [Nat.mul_comm m n]; exact g3)
    unfold turnL at this
    rw [this]
    have e1 : (p % n * m + p / n) % m = p / n := by rw [Nat.mul_comm, Nat.mul_add_mod, Nat.mod_eq_of_lt g2]
    have e2 : (p % n * m + p / n) / m = p % n := by rw [Nat.mul_comm, Nat.mul_add_div (by omega), Nat.div_eq_of_lt g2]; rfl
    rw [e1, e2, Nat.mul_comm, Nat.div_add_mod, getD_lt h2]

theorem turnL_in {A : List Int} {m n : Nat} {lo hi : Int} (h0 : lo ≤ 0 ∧ 0 ≤ hi) (h : ∀ x, x ∈ A → lo ≤ x ∧ x ≤ hi) : ∀ x, x ∈ turnL A m n → lo ≤ x ∧ x ≤ hi := by
  intro x hx
  simp only [turnL, List.mem_map] at hx
  obtain ⟨i, _, rfl⟩ := hx
  rcases Nat.lt_or_ge (i % m * n + i / m) A.length with h1 | h1
  · rw [getD_lt h1]; exact h _ (List.getElem_mem h1)
  · rw [List.getD_eq_getElem?_getD, List.getElem?_eq_none h1]; exact h0

theorem tensV_wide {m k : Nat} {d : List Int} (hm : 1 ≤ m ∧ m ≤ 256) (hk : 1 ≤ k ∧ k ≤ 256) (h : m * k ≤ 16384) (hd : d.length = m * k) (hf : ∀ x, x ∈ d → -2147483648 ≤ x ∧ x ≤ 2147483647) :
    tensV (([(m : Int), (k : Int)], true), d) = .nil := by
  unfold tensV
  rw [shapeV_two hm hk h, elems_two hm hk h, hd]
  simp only [Er.isNil, if_true]
  have : d.findIdx? (fun n => !fitsB true n) = none := by
    rw [List.findIdx?_eq_none_iff]
    intro x hx
    have := hf x hx
    simp [fitsB, this]
  rw [this]

theorem mulL_in (A B : List Int) (za zb : Int) (m k n : Nat) : ∀ x, x ∈ mulL A B za zb m k n → -2147483648 ≤ x ∧ x ≤ 2147483647 := by
  intro x hx
  simp only [mulL, List.mem_map] at hx
  obtain ⟨i, _, rfl⟩ := hx
  exact round32_range _

/-- a matrix turned, that has been handed out whole -/
theorem Turn_take {N : Nat} (hN : 20000 ≤ N) {m n : Nat} {A : List Int} (hm : 1 ≤ m ∧ m ≤ 16) (hn : 1 ≤ n ∧ n ≤ 16) (hA : A.length = m * n) (fA : ∀ x, x ∈ A → -128 ≤ x ∧ x ≤ 127) :
    F_mat_Turn N ((List.take (List.length [(m : Int), (n : Int)]) [(m : Int), (n : Int)], false), List.take A.length A) = some (boxT [(n : Int), (m : Int)] false (turnL A m n), (.nil, ())) := by
  have h1 : m * n ≤ 256 := Nat.mul_le_mul hm.2 hn.2
  rw [List.take_length, List.take_length]
  exact mat_Turn_good hN (tensV_two (by omega) (by omega) (by omega) hA fA) (by omega) hA

theorem Turn_wide {N : Nat} (hN : 20000 ≤ N) {m n : Nat} {A : List Int} (hm : 1 ≤ m ∧ m ≤ 16) (hn : 1 ≤ n ∧ n ≤ 16) (hA : A.length = m * n) (fA : ∀ x, x ∈ A → -2147483648 ≤ x ∧ x ≤ 2147483647) :
    F_mat_Turn N ((List.take (List.length [(m : Int), (n : Int)]) [(m : Int), (n : Int)], true), List.take A.length A) = some (boxT [(n : Int), (m : Int)] true (turnL A m n), (.nil, ())) := by
  have h1 : m * n ≤ 256 := Nat.mul_le_mul hm.2 hn.2
  rw [List.take_length, List.take_length]
  exact mat_Turn_good hN (tensV_wide (by omega) (by omega) (by omega) hA fA) (by omega) hA

theorem Same_take {N : Nat} (hN : 20000 ≤ N) {sh : List Int} {w : Bool} {A : List Int} (hs : sh.length ≤ 10000) (hA : A.length ≤ 10000) : F_tens_Same N ((List.take sh.length sh, w), List.take A.length A) ((List.take sh.length sh, w), List.take A.length A) = some (true, ()) := by
  rw [List.take_length, List.take_length]
  exact tens_Same_refl _ (by simp; omega) (by simp; omega) (by simp; omega) (by simp; omega)

end Go.Proofs.YtooocaciaflbdaaDoor.Lg
