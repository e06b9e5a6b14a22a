/-
  What the program's functions come to, in plain words.
-/
import Derived.Test.YtohkmbpdjigjdaaDoorLgSoftAS
namespace Go.Proofs.YtohkmbpdjigjdaaDoor.Lg
open Go Go.Eng Go.Proofs

theorem soft_first {N : Nat} (hN : N = 100000) : F_lodgelaw11_first N = some (true, ()) := by
  subst hN
  kernel_rfl

theorem set_upto' (M i : Nat) (f g : Nat → Int) (hi : i < M) : ((List.range M).map fun p => if p < i then f p else g p).set i (f i) = (List.range M).map fun p => if p < i + 1 then f p else g p := by
  apply List.ext_getElem (by simp)
  intro k h1 h2
  simp only [List.getElem_set, List.getElem_map, List.getElem_range]
  by_cases hk : i = k
  · subst hk; simp
  · rw [if_neg hk]
    by_cases h : k < i
    · rw [if_pos h, if_pos (by omega)]
    · rw [if_neg h, if_neg (by omega)]

def rwF (l : List Int) (p : Nat) : Int := if 0 < l.length then wi64 (l.getD (p % l.length) 0 + wi64 ((p : Int) * (p : Int))) % 256 - 128 else (p : Int) % 256 - 128

theorem rwF_in (l : List Int) (p : Nat) : -128 ≤ rwF l p ∧ rwF l p ≤ 127 := by
  unfold rwF
  split <;> omega

theorem loop_SoftRows_0 (N : Nat) (m n : Nat) (hmn : m * n ≤ 1000) (l : List Int) (hl : l.length ≤ 1000) : ∀ (cnt i : Nat), i ≤ m * n → m * n < cnt + i →
    g_lodgelaw11_SoftRows_0 N cnt m n l (boxT [(m : Int), (n : Int)] false ((List.range i).map (rwF l))) i = some ((m : Int), ((n : Int), (boxT [(m : Int), (n : Int)] false ((List.range (m * n)).map (rwF l)), ())))
  | 0, i, h, h' => by omega
  | cnt + 1, i, h, h' => by
    rw [g_lodgelaw11_SoftRows_0]
    have em : wi64 ((m : Int) * (n : Int)) = ((m * n : Nat) : Int) := wi64_mul (by omega)
    rw [em]
    by_cases hi : i < m * n
    · have e : List.take (List.length ((List.range i).map (rwF l))) ((List.range i).map (rwF l)) ++ [rwF l i] = (List.range (i + 1)).map (rwF l) := by
        rw [List.take_length, List.range_succ, List.map_append]
        rfl
      refine cT (by omega) ?_
      by_cases h0 : 0 < l.length
      · have et : Int.tmod (i : Int) (l.length : Int) = ((i % l.length : Nat) : Int) := tmod_nat i l.length
        have hlt := Nat.mod_lt i h0
        have er : rwF l i = wi64 (l.getD (i % l.length) 0 + wi64 ((i : Int) * (i : Int))) % 256 - 128 := by unfold rwF; rw [if_pos h0]
        rw [er] at e
        rw [et]
        refine cT (by omega) (cT (by omega) (cT (Int.natCast_nonneg _) (cT (by rw [Int.toNat_natCast]; exact hlt) ?_)))
        rw [Int.toNat_natCast]
        refine bnd _ (lodgeworld_Number_spec N _ _ (by omega) (by omega)) (cT (by omega) (cT (by simp [most]; omega) ?_))
        (repeat first | refine cT rfl ?_ | refine cT True.intro ?_)
        dsimp only
        rw [wi64_in (n := wi64 (l.getD (i % l.length) 0 + wi64 ((i : Int) * (i : Int))) % 256 - 128) (by omega) (by omega), e]
        refine cT (by simp) ?_
        rw [wi64_succ (by omega)]
        exact loop_SoftRows_0 N m n hmn l hl cnt (i + 1) hi (by omega)
      · have er : rwF l i = (i : Int) % 256 - 128 := by unfold rwF; rw [if_neg h0]
        rw [er] at e
        refine cF (by omega) ?_
        refine bnd _ (lodgeworld_Number_spec N _ _ (by omega) (by omega)) (cT (by omega) (cT (by simp [most]; omega) ?_))
        (repeat first | refine cT rfl ?_ | refine cT True.intro ?_)
        dsimp only
        rw [wi64_in (n := (i : Int) % 256 - 128) (by omega) (by omega), e]
        refine cT (by simp) ?_
        rw [wi64_succ (by omega)]
        exact loop_SoftRows_0 N m n hmn l hl cnt (i + 1) hi (by omega)
    · have : i = m * n := by omega
      refine cF (by omega) ?_
      (repeat first | refine cT rfl ?_ | refine cT True.intro ?_)
      rw [this]

theorem loop_SoftRows_1 (N : Nat) (m : Int) (n : Nat) (hn : n ≤ 1000) (a : List Int × (Bool × (List Int × Unit))) : ∀ (cnt i : Nat), i ≤ n → n < cnt + i →
    g_lodgelaw11_SoftRows_1 N cnt m n a (boxT [(n : Int), 1] false ((List.range n).map fun p => if p < i then 1 else 0)) i = some (m, ((n : Int), (a, (boxT [(n : Int), 1] false ((List.range n).map fun p => if p < n then 1 else 0), ()))))
  | 0, i, h, h' => by omega
  | cnt + 1, i, h, h' => by
    rw [g_lodgelaw11_SoftRows_1]
    by_cases hi : i < n
    · refine cT (by omega) (cT (by omega) (cT (by simp; omega) (cT (by simp; omega) ?_)))
      (repeat first | refine cT rfl ?_ | refine cT True.intro ?_)
      refine cT (by simp) ?_
      rw [Int.toNat_natCast, Nat.zero_add, wi64_succ (by omega), set_upto' n i (fun _ => 1) (fun _ => 0) hi]
      exact loop_SoftRows_1 N m n hn a cnt (i + 1) hi (by omega)
    · have : i = n := by omega
      subst this
      refine cF (by omega) ?_
      (repeat first | refine cT rfl ?_ | refine cT True.intro ?_)
      rfl

theorem loop_SoftRows_3 (N : Nat) {A G : List Int} {d sh : List Int} {w1 w2 : Bool} {m n : Nat} (hn : 1 ≤ n ∧ n ≤ 256) (hA : A.length = m * n) (hmn : m * n ≤ 16384) {i : Nat} (hi : i < m) : ∀ (cnt j : Nat), j ≤ n → n < cnt + j →
    g_lodgelaw11_SoftRows_3 N cnt m n (((d, w1), A), ()) (boxT sh w2 G) i ((am (rowF A n i) n : Nat) : Int) j = some (.inl ((m : Int), ((n : Int), ((((d, w1), A), ()), (boxT sh w2 G, ((i : Int), ()))))))
  | 0, j, h1, h2 => by omega
  | cnt + 1, j, h1, h2 => by
    rw [g_lodgelaw11_SoftRows_3]
    by_cases hj : j < n
    · have hr : i * n + n ≤ m * n := by
        have : (i + 1) * n ≤ m * n := Nat.mul_le_mul_right n hi
        rw [Nat.add_mul, Nat.one_mul] at this
        exact this
      have hl := am_lt (rowF A n i) n hn.1
      obtain ⟨a1, a2⟩ := am_spec (f := rowF A n i) (k := n) hn.1
      have e1 : wi64 (wi64 ((i : Int) * n) + j) = ((i * n + j : Nat) : Int) := wi64_row (by omega)
      have e2 : wi64 (wi64 ((i : Int) * n) + ((am (rowF A n i) n : Nat) : Int)) = ((i * n + am (rowF A n i) n : Nat) : Int) := wi64_row (by omega)
      have ih := loop_SoftRows_3 N (d := d) (sh := sh) (w1 := w1) (w2 := w2) (G := G) hn hA hmn hi cnt (j + 1) hj (by omega)
      have b1 := a1 j hj
      have b2 := a2 j
      unfold rowF at b1 b2
      simp only [e1, e2, Int.toNat_natCast]
      refine cT (by omega) (cT (Int.natCast_nonneg _) (cT (by rw [hA]; omega) (cT (Int.natCast_nonneg _) (cT (by rw [hA]; omega) (cF (by unfold rowF; omega) ?_)))))
      rw [wi64_succ (by omega)]
      by_cases hk : j < am (rowF A n i) n
      · have b3 := b2 hk
        refine cT (by omega) (cT (Int.natCast_nonneg _) (cT (by rw [hA]; omega) (cT (Int.natCast_nonneg _) (cT (by rw [hA]; omega) (cF (by unfold rowF; omega) ?_)))))
        (repeat first | refine cT rfl ?_ | refine cT True.intro ?_)
        exact ih
      · refine cF (by omega) ?_
        (repeat first | refine cT rfl ?_ | refine cT True.intro ?_)
        exact ih
    · have : j = n := by omega
      refine cF (by omega) ?_
      (repeat first | refine cT rfl ?_ | refine cT True.intro ?_)
      rfl

theorem loop_SoftRows_2 {N : Nat} (hN : 20000 ≤ N) {A G : List Int} {d sh : List Int} {w1 w2 : Bool} {m n : Nat} (hm : m ≤ 256) (hn : 1 ≤ n ∧ n ≤ 256) (hA : A.length = m * n) (hmn : m * n ≤ 16384) (hG : G.length = m) (hG2 : ∀ i, i < m → G.getD i 0 = ((am (rowF A n i) n : Nat) : Int)) : ∀ (cnt i : Nat), i ≤ m → m < cnt + i →
    g_lodgelaw11_SoftRows_2 N cnt m n (((d, w1), A), ()) (boxT sh w2 G) i = some (.inl ())
  | 0, i, h1, h2 => by omega
  | cnt + 1, i, h1, h2 => by
    rw [g_lodgelaw11_SoftRows_2]
    by_cases hi : i < m
    · have h3 := loop_SoftRows_3 N (d := d) (sh := sh) (w1 := w1) (w2 := w2) (G := G) hn hA hmn hi N 0 (by omega) (by omega)
      rw [show ((0 : Nat) : Int) = 0 from rfl] at h3
      simp only [Int.toNat_natCast, Nat.zero_add]
      rw [hG2 i hi]
      refine cT (by omega) (cT (Int.natCast_nonneg _) (cT (by first | omega | (dsimp only; omega) | (simp; omega)) (cT (by first | omega | (dsimp only; omega) | (simp; omega)) ?_)))
      (repeat first | refine cT rfl ?_ | refine cT True.intro ?_)
      refine bnd _ h3 ?_
      dsimp only [Sum.elim_inl]
      (repeat first | refine cT rfl ?_ | refine cT True.intro ?_)
      rw [wi64_succ (by omega)]
      exact loop_SoftRows_2 hN hm hn hA hmn hG hG2 cnt (i + 1) hi (by omega)
    · exact cF (by omega) rfl

theorem SoftRows_law {N : Nat} (hN : 20000 ≤ N) (h1st : F_lodgelaw11_first N = some (true, ())) (m0 n0 : Int) (l : List Int) : F_lodgelaw11_SoftRows N m0 n0 l = some (true, ()) := by
  obtain ⟨m1, hm1, em⟩ := Number_nat (N := N) m0 10 (by omega) (by omega)
  obtain ⟨n1, hn1, en⟩ := Number_nat (N := N) n0 10 (by omega) (by omega)
  have sm : wi64 ((m1 : Int) + 1) = ((m1 + 1 : Nat) : Int) := wi64_succ (by omega)
  have sn : wi64 ((n1 : Int) + 1) = ((n1 + 1 : Nat) : Int) := wi64_succ (by omega)
  unfold F_lodgelaw11_SoftRows
  refine bnd _ h1st (bF rfl ?_)
  by_cases hl : (40 : Int) < (l.length : Int)
  · exact cT hl rfl
  refine cF hl (bF rfl ?_)
  refine bnd _ em (bnd _ en ?_)
  dsimp only
  rw [sm, sn]
  obtain ⟨m, em'⟩ : ∃ m, m1 + 1 = m := ⟨_, rfl⟩
  obtain ⟨n, en'⟩ : ∃ n, n1 + 1 = n := ⟨_, rfl⟩
  rw [em', en']
  have hm : 1 ≤ m ∧ m ≤ 10 := by omega
  have hn : 1 ≤ n ∧ n ≤ 10 := by omega
  have pmn : m * n ≤ 10 * 10 := Nat.mul_le_mul hm.2 hn.2
  have h0 := loop_SoftRows_0 N m n (by omega) l (by omega) N 0 (by omega) (by omega)
  rw [show ((0 : Nat) : Int) = 0 from rfl, List.range_zero, List.map_nil] at h0
  refine bnd _ h0 ?_
  obtain ⟨A, eA⟩ : ∃ A : List Int, (List.range (m * n)).map (rwF l) = A := ⟨_, rfl⟩
  have hA : A.length = m * n := by rw [← eA]; simp
  have fA : ∀ x, x ∈ A → -128 ≤ x ∧ x ≤ 127 := by
    intro x hx
    rw [← eA] at hx
    obtain ⟨p, _, rfl⟩ := List.mem_map.1 hx
    exact rwF_in l p
  rw [eA]
  dsimp only
  refine cT (Int.natCast_nonneg _) (cT (Int.le_refl _) (cT (by simp only [most]; omega) ?_))
  (repeat first | refine cT rfl ?_ | refine cT True.intro ?_)
  rw [Int.toNat_natCast]
  refine cT (by simp) ?_
  have h1 := loop_SoftRows_1 N (m : Int) n (by omega) (boxT [(m : Int), (n : Int)] false A) N 0 (by omega) (by omega)
  rw [show ((0 : Nat) : Int) = 0 from rfl, map_upto_zero n (fun _ => 1) (fun _ => 0), map_upto_all n (fun _ => 1) (fun _ => 0), ← replicate_range, ← replicate_range] at h1
  refine bnd _ h1 ?_
  (repeat first | refine cT (Nat.le_of_eq (Nat.zero_add _)) ?_ | refine cT rfl ?_ | refine cT True.intro ?_)
  dsimp only
  simp only [List.take_length]
  have s2 : shapeV [(m : Int), (n : Int)] = .nil := shapeV_two (by omega) (by omega) (by omega)
  have e2 : elems [(m : Int), (n : Int)] = ((m * n : Nat) : Int) := elems_two (by omega) (by omega) (by omega)
  have v1 : tensV (([(m : Int), (n : Int)], false), A) = .nil := (tensV_iff _).2 ⟨s2, by dsimp only; rw [e2, hA], fun x hx => fitsB_narrow.2 (fA x hx)⟩
  have hv : firstBadT [(([(m : Int), (n : Int)], false), A)] = .nil := by
    unfold firstBadT firstBadT
    rw [ifT (nilT v1)]
  have hf : firstBad [([(m : Int), (n : Int)], false)] = .nil := by
    unfold firstBad firstBad
    rw [ifT (nilT s2)]
  have r20 : softRes 20 [([(m : Int), (n : Int)], false)] = (([(m : Int)], true), .nil) := by
    unfold softRes
    rw [if_neg (fun h => h (.inr (.inr (.inr rfl)))), if_neg (by simp [softK]), ifNT (nilT hf), if_neg (by decide), if_neg (by decide), if_neg (by simp)]
    rfl
  have r19 : softRes 19 [([(m : Int), (n : Int)], false)] = (([(m : Int)], true), .nil) := by
    unfold softRes
    rw [if_neg (fun h => h (.inr (.inr (.inl rfl)))), if_neg (by simp [softK]), ifNT (nilT hf), if_neg (by decide), if_neg (by decide), if_neg (by simp)]
    rfl
  have e1 : elems [(m : Int)] = (m : Int) := by
    have s1 : shapeV [(m : Int)] = .nil := by
      rw [shapeV_nil]
      refine ⟨by simp, ?_, ?_⟩
      · simp [badDim]; omega
      · simp [overs]; omega
    unfold elems
    rw [ifT (nilT s1)]
    simp
  have a20 : softApp 20 [(([(m : Int), (n : Int)], false), A)] = ((([(m : Int)], true), (List.range m).map (fun i => round32 (sumN (rowF A n i) n))), .nil) := by
    unfold softApp
    rw [if_neg (fun h => h hv), show [(([(m : Int), (n : Int)], false), A)].map Prod.fst = [([(m : Int), (n : Int)], false)] from rfl, r20, if_neg (by simp)]
    dsimp only
    rw [e1, Int.toNat_natCast]
    congr 2
  have a19 : softApp 19 [(([(m : Int), (n : Int)], false), A)] = ((([(m : Int)], true), (List.range m).map (fun i => ((am (rowF A n i) n : Nat) : Int))), .nil) := by
    unfold softApp
    rw [if_neg (fun h => h hv), show [(([(m : Int), (n : Int)], false), A)].map Prod.fst = [([(m : Int), (n : Int)], false)] from rfl, r19, if_neg (by simp)]
    dsimp only
    rw [e1, Int.toNat_natCast]
    congr 2
  have hmul : mulL A (List.replicate n 1) 0 0 m n 1 = (List.range m).map (fun i => round32 (sumN (rowF A n i) n)) := by
    unfold mulL mulC
    rw [Nat.mul_one]
    apply List.map_congr_left
    intro p _
    congr 1
    apply sumN_congr
    intro x hx
    unfold mulF rowF
    rw [Nat.div_one, Nat.mod_one, Nat.mul_one, Nat.add_zero, getD_lt (l := List.replicate n (1 : Int)) (by rw [List.length_replicate]; exact hx), List.getElem_replicate]
    omega
  refine bnd _ (soft_Sum_spec hN _) ?_
  rw [a20]
  (repeat first | refine cT (Nat.le_of_eq (Nat.zero_add _)) ?_ | refine cT rfl ?_ | refine cT True.intro ?_)
  have hM := mat_Mul_good hN (m := m) (k := n) (n := 1) (A := A) (B := List.replicate n 1) (za := 0) (zb := 0) (by omega) (by omega) (by omega) (by omega) (by omega) (by omega) hA (by simp) fA (fun x hx => by rw [List.eq_of_mem_replicate hx]; omega) (by omega) (by omega)
  rw [hmul, show ((1 : Nat) : Int) = 1 from rfl] at hM
  refine bnd _ hM ?_
  (repeat first | refine cT (Nat.le_of_eq (Nat.zero_add _)) ?_ | refine cT rfl ?_ | refine cT True.intro ?_)
  refine bnd _ (soft_ArgMax_spec hN _) ?_
  rw [a19]
  refine bF rfl (bF rfl (bF rfl ?_))
  (repeat first | refine cT (Nat.le_of_eq (Nat.zero_add _)) ?_ | refine cT rfl ?_ | refine cT True.intro ?_)
  dsimp only
  obtain ⟨R, eR⟩ : ∃ R, (List.range m).map (fun i => round32 (sumN (rowF A n i) n)) = R := ⟨_, rfl⟩
  have hR : R.length = m := by rw [← eR, List.length_map, List.length_range]
  obtain ⟨G, eG⟩ : ∃ G, (List.range m).map (fun i => ((am (rowF A n i) n : Nat) : Int)) = G := ⟨_, rfl⟩
  have hG : G.length = m := by rw [← eG, List.length_map, List.length_range]
  have hG2 : ∀ i, i < m → G.getD i 0 = ((am (rowF A n i) n : Nat) : Int) := by
    intro i hi
    rw [getD_lt (by omega)]
    simp only [← eG, List.getElem_map, List.getElem_range]
  rw [eR, eG]
  (try simp only [List.take_length])
  refine bnd _ (lodgeref_SameInts_spec _ _ (by rw [hR]; omega) (by rw [hR]; omega)) (bF (by simp) ?_)
  refine bnd _ (lodgeref_SameInts_spec _ _ (by simp) (by simp; omega)) (bF (by simp) (bF rfl ?_))
  (repeat first | refine cT (Nat.le_of_eq (Nat.zero_add _)) ?_ | refine cT rfl ?_ | refine cT True.intro ?_)
  have h2 := loop_SoftRows_2 hN (A := A) (G := G) (d := [(m : Int), (n : Int)]) (w1 := false) (sh := [(m : Int)]) (w2 := true) (m := m) (n := n) (by omega) (by omega) hA (by omega) hG hG2 N 0 (by omega) (by omega)
  exact bnd _ h2 rfl

theorem SoftRows_row {N : Nat} (hN : N = 100000) (x : Val (rowTy ps_lodgelaw11_SoftRows)) (_ : FitsL ps_lodgelaw11_SoftRows x) : (c_lodgelaw11_SoftRows N).g x = some (true, ()) := by
  have h1 := soft_first hN
  exact SoftRows_law (by omega) h1 _ _ _

end Go.Proofs.YtohkmbpdjigjdaaDoor.Lg
