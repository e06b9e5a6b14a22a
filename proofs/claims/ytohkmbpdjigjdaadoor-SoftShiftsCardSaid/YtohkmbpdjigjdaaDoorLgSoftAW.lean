/-
  What the program's functions come to, in plain words.
-/
import Derived.Test.YtohkmbpdjigjdaaDoorLgSoftAS
namespace Go.Proofs.YtohkmbpdjigjdaaDoor.Lg
open Go Go.Eng Go.Proofs

theorem soft_first {N : Nat} (hN : N = 100000) : F_lodgelaw11_first N = some (true, ()) := by
  subst hN
  kernel_rfl

/-- a row of narrow numbers, a table -/
theorem softApp_row {A B : List Int} {n : Nat} (hn : 1 ≤ n ∧ n ≤ 256) (hA : A.length = n) (fA : ∀ x, x ∈ A → -128 ≤ x ∧ x ≤ 127) (hB : B.length = 256) (fB : ∀ x, x ∈ B → -2147483648 ≤ x ∧ x ≤ 2147483647) :
    softApp 16 [(([(n : Int)], false), A), (([256], true), B)] = ((([(n : Int)], false), (List.range n).map (fun i => rowC A B n i)), .nil) := by
  have s1 : shapeV [(n : Int)] = .nil := by
    rw [shapeV_nil]
    refine ⟨by simp, ?_, ?_⟩
    · simp [badDim]; omega
    · simp [overs]; omega
  have e1 : elems [(n : Int)] = (n : Int) := by
    unfold elems
    rw [ifT (nilT s1)]
    simp
  have v1 : tensV (([(n : Int)], false), A) = .nil := (tensV_iff _).2 ⟨s1, by dsimp only; rw [e1, hA], fun x hx => fitsB_narrow.2 (fA x hx)⟩
  have v2 : tensV (([256], true), B) = .nil := (tensV_iff _).2 ⟨show shapeV [256] = .nil by decide, by dsimp only; rw [hB]; decide, fun x hx => fitsB_wide.2 (fB x hx)⟩
  have hv : firstBadT [(([(n : Int)], false), A), (([256], true), B)] = .nil := by
    unfold firstBadT firstBadT firstBadT
    rw [ifT (nilT v1), ifT (nilT v2)]
  have hf : firstBad [([(n : Int)], false), ([256], true)] = .nil := by
    unfold firstBad firstBad firstBad
    rw [ifT (nilT s1), ifT (nilT (show shapeV [256] = .nil by decide))]
  have hr : softRes 16 [([(n : Int)], false), ([256], true)] = (([(n : Int)], false), .nil) := by
    unfold softRes
    rw [if_neg (fun h => h (.inl rfl)), if_neg (by simp [softK]), ifNT (nilT hf), if_pos rfl]
    simp
  unfold softApp
  rw [if_neg (fun h => h hv), show [(([(n : Int)], false), A), (([256], true), B)].map Prod.fst = [([(n : Int)], false), ([256], true)] from rfl, hr, if_neg (by simp)]
  dsimp only
  rw [e1, Int.toNat_natCast]
  congr 2
  apply List.map_congr_left
  intro i hi
  have hi' : i < n := by simpa using hi
  have := smC_one (A := A) (T := B) hi'
  rw [← this]
  unfold elAll
  simp

theorem loop_SoftNothing_0 (N : Nat) (l : List Int) (v : Int) (hl : l.length ≤ 1000) : ∀ (cnt i : Nat), i ≤ l.length → l.length < cnt + i →
    g_lodgelaw11_SoftNothing_0 N cnt l v (boxT [(l.length : Int)] false ((List.range i).map fun p => l.getD p 0 % 256 - 128)) i = some (l, (v, (boxT [(l.length : Int)] false ((List.range l.length).map fun p => l.getD p 0 % 256 - 128), ())))
  | 0, i, h, h' => by omega
  | cnt + 1, i, h, h' => by
    rw [g_lodgelaw11_SoftNothing_0]
    by_cases hi : i < l.length
    · have e : List.take (List.length ((List.range i).map fun p => l.getD p 0 % 256 - 128)) ((List.range i).map fun p => l.getD p 0 % 256 - 128) ++ [l.getD i 0 % 256 - 128] = (List.range (i + 1)).map fun p => l.getD p 0 % 256 - 128 := by
        rw [List.take_length, List.range_succ, List.map_append]
        rfl
      refine cT (by omega) (cT (by omega) (cT (by simpa using hi) ?_))
      rw [Int.toNat_natCast]
      refine bnd _ (lodgeworld_Number_spec N _ _ (by omega) (by omega)) (cT (by omega) (cT (by simp [most]; omega) ?_))
      (repeat first | refine cT rfl ?_ | refine cT True.intro ?_)
      dsimp only
      rw [wi64_in (by omega) (by omega), e]
      refine cT (by simp) ?_
      rw [wi64_succ (by omega)]
      exact loop_SoftNothing_0 N l v hl cnt (i + 1) hi (by omega)
    · have : i = l.length := by omega
      subst this
      refine cF (by omega) ?_
      (repeat first | refine cT rfl ?_ | refine cT True.intro ?_)
      rfl

theorem loop_SoftNothing_1 (N : Nat) (l : List Int) (v : Int) (a : List Int × (Bool × (List Int × Unit))) : ∀ (cnt i : Nat), i ≤ 256 → 256 < cnt + i →
    g_lodgelaw11_SoftNothing_1 N cnt l v a (boxT [256] true ((List.range 256).map fun p => if p < i then v else 0)) i = some (l, (v, (a, (boxT [256] true ((List.range 256).map fun p => if p < 256 then v else 0), ()))))
  | 0, i, h, h' => by omega
  | cnt + 1, i, h, h' => by
    rw [g_lodgelaw11_SoftNothing_1]
    by_cases hi : i < 256
    · refine cT (by omega) (cT (by omega) (cT (by simp; omega) (cT (by simp; omega) ?_)))
      (repeat first | refine cT rfl ?_ | refine cT True.intro ?_)
      refine cT (by simp) ?_
      rw [Int.toNat_natCast, Nat.zero_add, wi64_succ (by omega), set_upto 256 i (fun _ => v) (fun _ => 0) hi]
      exact loop_SoftNothing_1 N l v a cnt (i + 1) hi (by omega)
    · have : i = 256 := by omega
      subst this
      refine cF (by omega) ?_
      (repeat first | refine cT rfl ?_ | refine cT True.intro ?_)
      rfl

theorem loop_SoftNothing_2 (N : Nat) (l : List Int) (sh : List Int) (w : Bool) (d : List Int) (want : Int) (hl : l.length ≤ 1000) (hd : d.length = l.length) (hw : ∀ i, i < l.length → d.getD i 0 = want) : ∀ (cnt i : Nat), i ≤ l.length → l.length < cnt + i →
    g_lodgelaw11_SoftNothing_2 N cnt l (boxT sh w d) want i = some (.inl ())
  | 0, i, h, h' => by omega
  | cnt + 1, i, h, h' => by
    rw [g_lodgelaw11_SoftNothing_2]
    by_cases hi : i < l.length
    · refine cT (by omega) (cT (by omega) (cT (by rw [Int.toNat_natCast]; dsimp only; omega) (cT (by rw [Int.toNat_natCast]; dsimp only; omega) (cF ?_ ?_))))
      · rw [Int.toNat_natCast, Nat.zero_add]
        exact fun h => h (hw i hi)
      · refine cT rfl ?_
        rw [wi64_succ (by omega)]
        exact loop_SoftNothing_2 N l sh w d want hl hd hw cnt (i + 1) hi (by omega)
    · exact cF (by omega) rfl

theorem sumN_const (c : Int) : ∀ n : Nat, sumN (fun _ => c) n = n * c
  | 0 => by simp [sumN]
  | n + 1 => by
    simp only [sumN]
    rw [sumN_const c n]
    have : ((n + 1 : Nat) : Int) = (n : Int) + 1 := by omega
    rw [this, Int.add_mul]
    omega

theorem SoftNothing_law {N : Nat} (hN : 20000 ≤ N) (h1st : F_lodgelaw11_first N = some (true, ())) (l : List Int) (v0 : Int) : F_lodgelaw11_SoftNothing N l v0 = some (true, ()) := by
  unfold F_lodgelaw11_SoftNothing
  refine bnd _ h1st (bF rfl ?_)
  by_cases hl : (40 : Int) < (l.length : Int)
  · exact cT hl rfl
  refine cF hl ?_
  by_cases hl0 : (l.length : Int) = 0
  · exact cT hl0 rfl
  refine cF hl0 (bF rfl ?_)
  have h0 := loop_SoftNothing_0 N l v0 (by omega) N 0 (by omega) (by omega)
  rw [show ((0 : Nat) : Int) = 0 from rfl, List.range_zero, List.map_nil] at h0
  refine bnd _ h0 (bnd _ (lodgeworld_Number_spec N _ _ (by omega) (by omega)) ?_)
  dsimp only
  rw [wi64_in (by omega) (by omega)]
  obtain ⟨v, ev⟩ : ∃ v : Int, v0 % 2147483648 - 1073741824 = v := ⟨_, rfl⟩
  have hv : -1073741824 ≤ v ∧ v ≤ 1073741824 := by omega
  rw [ev]
  obtain ⟨A, eA⟩ : ∃ A : List Int, (List.range l.length).map (fun p => l.getD p 0 % 256 - 128) = A := ⟨_, rfl⟩
  have hA : A.length = l.length := by rw [← eA]; simp
  have fA : ∀ x, x ∈ A → -128 ≤ x ∧ x ≤ 127 := by
    intro x hx
    rw [← eA] at hx
    obtain ⟨p, _, rfl⟩ := List.mem_map.1 hx
    omega
  rw [eA]
  (repeat first | refine cT rfl ?_ | refine cT True.intro ?_)
  have h1 := loop_SoftNothing_1 N l v (boxT [(l.length : Int)] false A) N 0 (by omega) (by omega)
  rw [show ((0 : Nat) : Int) = 0 from rfl, map_upto_zero 256 (fun _ => v) (fun _ => 0), map_upto_all 256 (fun _ => v) (fun _ => 0), ← replicate_range, ← replicate_range] at h1
  refine bnd _ h1 ?_
  (repeat first | refine cT (Nat.le_of_eq (Nat.zero_add _)) ?_ | refine cT rfl ?_ | refine cT True.intro ?_)
  dsimp only
  simp only [List.take_length]
  have n1 : 1 ≤ l.length ∧ l.length ≤ 256 := by omega
  refine bnd _ (soft_Softmax_spec hN _ _) ?_
  rw [softApp_row n1 hA fA (List.length_replicate) (fun x hx => by rw [List.eq_of_mem_replicate hx]; omega)]
  refine bF rfl ?_
  dsimp only
  have hrow : ∀ i, i < l.length → rowC A (List.replicate 256 v) l.length i = if 0 < v then (255 * v + (l.length : Int) * v / 2) / ((l.length : Int) * v) - 128 else -128 := by
    intro i hi
    have hw : ∀ j, j < l.length → rowW A (List.replicate 256 v) l.length j = max 0 v := by
      intro j hj
      unfold rowW
      have g1 := mx_ge (f := fun j => A.getD j 0) (k := l.length - 1) (i := j) (by omega)
      have g2 := mx_bound (f := fun j => A.getD j 0) (lo := -128) (hi := 127) (fun p => by
        by_cases hp : p < A.length
        · rw [getD_lt hp]; exact fA _ (List.getElem_mem hp)
        · rw [List.getD_eq_getElem?_getD, List.getElem?_eq_none (by omega)]; simp) (l.length - 1)
      have g3 : -128 ≤ A.getD j 0 := by
        rw [getD_lt (by omega)]; exact (fA _ (List.getElem_mem _)).1
      (try dsimp only at g1)
      rw [getD_lt (by rw [List.length_replicate]; omega), List.getElem_replicate]
    have hs : rowS A (List.replicate 256 v) l.length = (l.length : Int) * max 0 v := by
      unfold rowS
      rw [sumN_congr (fun j hj => hw j hj), sumN_const]
    unfold rowC
    rw [hs, hw i hi]
    by_cases h : 0 < v
    · rw [if_pos h, show max 0 v = v by omega, if_neg]
      have := Int.mul_pos (show (0 : Int) < l.length by omega) h
      omega
    · rw [if_neg h, show max 0 v = 0 by omega, Int.mul_zero, if_pos rfl]
  obtain ⟨R, eR⟩ : ∃ R, (List.range l.length).map (fun i => rowC A (List.replicate 256 v) l.length i) = R := ⟨_, rfl⟩
  have hR : R.length = l.length := by rw [← eR, List.length_map, List.length_range]
  have hR2 : ∀ i, i < l.length → R.getD i 0 = if 0 < v then (255 * v + (l.length : Int) * v / 2) / ((l.length : Int) * v) - 128 else -128 := by
    intro i hi
    rw [getD_lt (by omega), ← hrow i hi]
    simp only [← eR, List.getElem_map, List.getElem_range]
  rw [eR]
  by_cases h : 0 < v
  · refine cT h ?_
    have p1 := Int.mul_pos (show (0 : Int) < l.length by omega) h
    have p2 : (l.length : Int) * v ≤ 40 * 1073741824 := Int.mul_le_mul (by omega) (by omega) (by omega) (by omega)
    have d1 : 0 ≤ (l.length : Int) * v / 2 := Int.ediv_nonneg (by omega) (by omega)
    have q1 : 0 ≤ (255 * v + (l.length : Int) * v / 2) / ((l.length : Int) * v) := Int.ediv_nonneg (by omega) (by omega)
    have q2 : (255 * v + (l.length : Int) * v / 2) / ((l.length : Int) * v) ≤ 255 * v + (l.length : Int) * v / 2 := Int.ediv_le_self _ (by omega)
    have ew : wi64 (wi64 (Int.tdiv (wi64 (wi64 (255 * v) + wi64 (Int.tdiv (wi64 ((l.length : Int) * v)) 2))) (wi64 ((l.length : Int) * v))) - 128) = (255 * v + (l.length : Int) * v / 2) / ((l.length : Int) * v) - 128 := by
      rw [wi64_in (n := (l.length : Int) * v) (by omega) (by omega), wi64_in (n := 255 * v) (by omega) (by omega), show Int.tdiv ((l.length : Int) * v) 2 = (l.length : Int) * v / 2 from Int.tdiv_eq_ediv_of_nonneg (by omega), wi64_in (n := (l.length : Int) * v / 2) (by omega) (by omega), wi64_in (n := 255 * v + (l.length : Int) * v / 2) (by omega) (by omega), Int.tdiv_eq_ediv_of_nonneg (by omega), wi64_in (n := (255 * v + (l.length : Int) * v / 2) / ((l.length : Int) * v)) (by omega) (by omega), wi64_in (by omega) (by omega)]
    refine cT (by rw [wi64_in (by omega) (by omega)]; omega) ?_
    (repeat first | refine cT rfl ?_ | refine cT True.intro ?_)
    rw [ew]
    refine bnd _ (loop_SoftNothing_2 N l _ _ _ _ (by omega) hR (fun i hi => ?_) N 0 (by omega) (by omega)) rfl
    rw [hR2 i hi, if_pos h]
  · refine cF h ?_
    (repeat first | refine cT rfl ?_ | refine cT True.intro ?_)
    refine bnd _ (loop_SoftNothing_2 N l _ _ _ _ (by omega) hR (fun i hi => ?_) N 0 (by omega) (by omega)) rfl
    rw [hR2 i hi, if_neg h]

theorem SoftNothing_row {N : Nat} (hN : N = 100000) (x : Val (rowTy ps_lodgelaw11_SoftNothing)) (_ : FitsL ps_lodgelaw11_SoftNothing x) : (c_lodgelaw11_SoftNothing N).g x = some (true, ()) := by
  have h1 := soft_first hN
  exact SoftNothing_law (by omega) h1 _ _

end Go.Proofs.YtohkmbpdjigjdaaDoor.Lg
