/-
  What the program's functions come to, in plain words.
-/
import Derived.Test.YtnblnlanicpagaaDoorLgOpAY
namespace Go.Proofs.YtnblnlanicpagaaDoor.Lg
open Go Go.Eng Go.Proofs

theorem op_first {N : Nat} (hN : N = 100000) : F_lodgelaw12_first N = some (true, ()) := by
  subst hN
  kernel_rfl

theorem tensV_wide2 {m n : Nat} (hm : 1 ≤ m ∧ m ≤ 256) (hn : 1 ≤ n ∧ n ≤ 256) (h : m * n ≤ 16384) {A : List Int} (hA : A.length = m * n) (fA : ∀ x, x ∈ A → -2147483648 ≤ x ∧ x ≤ 2147483647) : tensV (([(m : Int), (n : Int)], true), A) = .nil :=
  (tensV_iff _).2 ⟨shapeV_two hm hn h, by dsimp only; rw [elems_two hm hn h, hA], fun x hx => fitsB_wide.2 (fA x hx)⟩

def trL (A : List Int) (m n : Nat) : List Int := (List.range (n * m)).map fun i => A.getD (i % m * n + i / m) 0

theorem app_turn {m n : Nat} (hm : 1 ≤ m ∧ m ≤ 256) (hn : 1 ≤ n ∧ n ≤ 256) (h : m * n ≤ 16384) {A : List Int} (hA : A.length = m * n) (fA : ∀ x, x ∈ A → -2147483648 ≤ x ∧ x ≤ 2147483647) :
    appV 21 [] [(([(m : Int), (n : Int)], true), A)] = ((([(n : Int), (m : Int)], true), trL A m n), .nil) := by
  have v1 := tensV_wide2 hm hn h hA fA
  have hv : firstBadT [(([(m : Int), (n : Int)], true), A)] = .nil := by
    unfold firstBadT firstBadT
    rw [ifT (nilT v1)]
  have hr : resV 21 [] [([(m : Int), (n : Int)], true)] = (([(n : Int), (m : Int)], true), .nil) := by
    have e : resV 21 [] [([(m : Int), (n : Int)], true)] = turnRes ([(m : Int), (n : Int)], true) := by
      unfold resV
      rw [if_neg (by simp), if_neg (by simp), if_neg (by simp [insN, argN]), if_neg (by simp), if_neg (by simp), if_neg (by simp), if_neg (by simp), if_pos rfl]
      rfl
    rw [e]
    unfold turnRes
    rw [ifNT (nilT (shapeV_two hm hn h)), if_neg (by simp)]
    rfl
  unfold appV
  rw [if_neg (fun h => h hv), show [(([(m : Int), (n : Int)], true), A)].map Prod.fst = [([(m : Int), (n : Int)], true)] from rfl, hr, if_neg (by simp)]
  dsimp only
  rw [elems_two hn hm (by rw [Nat.mul_comm]; exact h), Int.toNat_natCast]
  rfl

theorem app_reshape {m n : Nat} (hm : 1 ≤ m ∧ m ≤ 256) (hn : 1 ≤ n ∧ n ≤ 256) (h : m * n ≤ 16384) {A : List Int} (hA : A.length = m * n) (fA : ∀ x, x ∈ A → -2147483648 ≤ x ∧ x ≤ 2147483647) {sh args : List Int} (hs : shapeV sh = .nil) (es : elems sh = ((m * n : Nat) : Int)) (ha : shapeV args = .nil) (ea : elems args = ((m * n : Nat) : Int)) :
    appV 18 args [((sh, true), A)] = (((args, true), A), .nil) := by
  have v1 : tensV ((sh, true), A) = .nil := (tensV_iff _).2 ⟨hs, by dsimp only; rw [es, hA], fun x hx => fitsB_wide.2 (fA x hx)⟩
  have hv : firstBadT [((sh, true), A)] = .nil := by
    unfold firstBadT firstBadT
    rw [ifT (nilT v1)]
  have hr : resV 18 args [(sh, true)] = ((args, true), .nil) := by
    have e : resV 18 args [(sh, true)] = reshRes args (sh, true) := by
      unfold resV
      rw [if_neg (by simp), if_neg (by simp), if_neg (by simp [insN]), if_neg (by simp), if_neg (by simp), if_neg (by simp), if_neg (by simp), if_neg (by simp)]
      rfl
    rw [e]
    unfold reshRes
    rw [ifNT (nilT hs), ifNT (nilT ha), if_neg (fun h => h (by rw [ea]; exact es.symm))]
  unfold appV
  rw [if_neg (fun h => h hv), show [((sh, true), A)].map Prod.fst = [(sh, true)] from rfl, hr, if_neg (by simp)]
  dsimp only
  rw [ea, Int.toNat_natCast]
  congr 2
  apply List.ext_getElem (by simp [hA])
  intro i h1 h2
  rw [List.getElem_map, List.getElem_range]
  change A.getD i 0 = A[i]
  rw [getD_lt h2]

theorem trL_trL {m n : Nat} (hm : 1 ≤ m) (hn : 1 ≤ n) {A : List Int} (hA : A.length = m * n) : trL (trL A m n) n m = A := by
  apply List.ext_getElem (by simp [trL, hA])
  intro i h1 h2
  have hi : i < m * n := by rw [← hA]; exact h2
  have hq : i / n < m := Nat.div_lt_of_lt_mul (by rw [Nat.mul_comm]; exact hi)
  have hr : i % n < n := Nat.mod_lt _ (by omega)
  have hix : i % n * m + i / n < n * m := by
    have : (i % n + 1) * m ≤ n * m := Nat.mul_le_mul_right m hr
    rw [Nat.add_mul, Nat.one_mul] at this
    omega
  have q1 : (i % n * m + i / n) / m = i % n := by rw [Nat.mul_comm, Nat.mul_add_div (by omega), Nat.div_eq_of_lt hq]; rfl
  have q2 : (i % n * m + i / n) % m = i / n := by rw [Nat.mul_comm, Nat.mul_add_mod, Nat.mod_eq_of_lt hq]
  have q3 : i / n * n + i % n = i := by rw [Nat.mul_comm]; exact Nat.div_add_mod i n
  have e : (trL A m n).getD (i % n * m + i / n) 0 = A.getD i 0 := by
    rw [getD_lt (by simpa [trL] using hix)]
    simp only [trL, List.getElem_map, List.getElem_range, q1, q2, q3]
  have e2 : (trL (trL A m n) n m)[i] = (trL A m n).getD (i % n * m + i / n) 0 := by simp only [trL, List.getElem_map, List.getElem_range]
  rw [e2, e, getD_lt h2]

theorem trL_in {A : List Int} (fA : ∀ x, x ∈ A → -2147483648 ≤ x ∧ x ≤ 2147483647) (m n : Nat) : ∀ x, x ∈ trL A m n → -2147483648 ≤ x ∧ x ≤ 2147483647 := by
  intro x hx
  obtain ⟨p, _, rfl⟩ := List.mem_map.1 hx
  by_cases h : p % m * n + p / m < A.length
  · rw [getD_lt h]; exact fA _ (List.getElem_mem h)
  · rw [List.getD_eq_getElem?_getD, List.getElem?_eq_none (by omega)]
    simp

def shF (l : List Int) (p : Nat) : Int := if 0 < l.length then l.getD (p % l.length) 0 % 1000000 else (p : Int) % 1000000

theorem shF_in (l : List Int) (p : Nat) : -2147483648 ≤ shF l p ∧ shF l p ≤ 2147483647 := by
  unfold shF
  split <;> omega

theorem loop_OpShapes_0 (N : Nat) (m n : Nat) (hmn : m * n ≤ 1000) (l : List Int) (hl : l.length ≤ 1000) : ∀ (cnt i : Nat), i ≤ m * n → m * n < cnt + i →
    g_lodgelaw12_OpShapes_0 N cnt m n l (boxT [(m : Int), (n : Int)] true ((List.range i).map (shF l))) i = some ((m : Int), ((n : Int), (boxT [(m : Int), (n : Int)] true ((List.range (m * n)).map (shF l)), ())))
  | 0, i, h, h' => by omega
  | cnt + 1, i, h, h' => by
    rw [g_lodgelaw12_OpShapes_0]
    have em : wi64 ((m : Int) * (n : Int)) = ((m * n : Nat) : Int) := wi64_mul (by omega)
    rw [em]
    by_cases hi : i < m * n
    · have e : List.take (List.length ((List.range i).map (shF l))) ((List.range i).map (shF l)) ++ [shF l i] = (List.range (i + 1)).map (shF l) := by
        rw [List.take_length, List.range_succ, List.map_append]
        rfl
      refine cT (by omega) ?_
      by_cases h0 : 0 < l.length
      · have et : Int.tmod (i : Int) (l.length : Int) = ((i % l.length : Nat) : Int) := tmod_nat i l.length
        have hlt := Nat.mod_lt i h0
        have er : shF l i = l.getD (i % l.length) 0 % 1000000 := by unfold shF; rw [if_pos h0]
        rw [er] at e
        rw [et]
        refine cT (by omega) (cT (by omega) (cT (Int.natCast_nonneg _) (cT (by rw [Int.toNat_natCast]; exact hlt) ?_)))
        rw [Int.toNat_natCast]
        refine bnd _ (lodgeworld_Number_spec N _ _ (by omega) (by omega)) (cT (by omega) (cT (by simp [most]; omega) ?_))
        (repeat first | refine cT rfl ?_ | refine cT True.intro ?_)
        dsimp only
        rw [e]
        refine cT (by simp) ?_
        rw [wi64_succ (by omega)]
        exact loop_OpShapes_0 N m n hmn l hl cnt (i + 1) hi (by omega)
      · have er : shF l i = (i : Int) % 1000000 := by unfold shF; rw [if_neg h0]
        rw [er] at e
        refine cF (by omega) ?_
        refine bnd _ (lodgeworld_Number_spec N _ _ (by omega) (by omega)) (cT (by omega) (cT (by simp [most]; omega) ?_))
        (repeat first | refine cT rfl ?_ | refine cT True.intro ?_)
        dsimp only
        rw [e]
        refine cT (by simp) ?_
        rw [wi64_succ (by omega)]
        exact loop_OpShapes_0 N m n hmn l hl cnt (i + 1) hi (by omega)
    · have : i = m * n := by omega
      refine cF (by omega) ?_
      (repeat first | refine cT rfl ?_ | refine cT True.intro ?_)
      rw [this]

theorem OpShapes_law {N : Nat} (hN : 20000 ≤ N) (h1st : F_lodgelaw12_first N = some (true, ())) (m0 n0 : Int) (l : List Int) : F_lodgelaw12_OpShapes N m0 n0 l = some (true, ()) := by
  obtain ⟨m1, hm1, em⟩ := Number_nat (N := N) m0 10 (by omega) (by omega)
  obtain ⟨n1, hn1, en⟩ := Number_nat (N := N) n0 10 (by omega) (by omega)
  have sm : wi64 ((m1 : Int) + 1) = ((m1 + 1 : Nat) : Int) := wi64_succ (by omega)
  have sn : wi64 ((n1 : Int) + 1) = ((n1 + 1 : Nat) : Int) := wi64_succ (by omega)
  unfold F_lodgelaw12_OpShapes
  refine bnd _ h1st (bF rfl ?_)
  refine bnd _ em (bnd _ en ?_)
  by_cases hl : (50 : Int) < (l.length : Int)
  · exact cT hl rfl
  refine cF hl (bF rfl ?_)
  dsimp only
  rw [sm, sn]
  obtain ⟨m, em'⟩ : ∃ m, m1 + 1 = m := ⟨_, rfl⟩
  obtain ⟨n, en'⟩ : ∃ n, n1 + 1 = n := ⟨_, rfl⟩
  rw [em', en']
  have hm : 1 ≤ m ∧ m ≤ 10 := by omega
  have hn : 1 ≤ n ∧ n ≤ 10 := by omega
  have pmn : m * n ≤ 10 * 10 := Nat.mul_le_mul hm.2 hn.2
  have p1 : 1 ≤ m * n := Nat.mul_pos (by omega) (by omega)
  have hcomm : n * m = m * n := Nat.mul_comm n m
  have h0 := loop_OpShapes_0 N m n (by omega) l (by omega) N 0 (by omega) (by omega)
  rw [show ((0 : Nat) : Int) = 0 from rfl, List.range_zero, List.map_nil] at h0
  refine bnd _ h0 ?_
  obtain ⟨A, eA⟩ : ∃ A : List Int, (List.range (m * n)).map (shF l) = A := ⟨_, rfl⟩
  have hA : A.length = m * n := by rw [← eA]; simp
  have fA : ∀ x, x ∈ A → -2147483648 ≤ x ∧ x ≤ 2147483647 := by
    intro x hx
    rw [← eA] at hx
    obtain ⟨p, _, rfl⟩ := List.mem_map.1 hx
    exact shF_in l p
  rw [eA]
  (repeat first | refine cT (Nat.le_of_eq (Nat.zero_add _)) ?_ | refine cT rfl ?_ | refine cT True.intro ?_)
  dsimp only
  (try simp only [List.take_length])
  have t1 := app_turn (m := m) (n := n) (by omega) (by omega) (by omega) hA fA
  have hB : (trL A m n).length = n * m := by simp [trL]
  have t2 := app_turn (m := n) (n := m) (by omega) (by omega) (by omega) hB (trL_in fA m n)
  rw [trL_trL (by omega) (by omega) hA] at t2
  have s2 : shapeV [(m : Int), (n : Int)] = .nil := shapeV_two (by omega) (by omega) (by omega)
  have e2 : elems [(m : Int), (n : Int)] = ((m * n : Nat) : Int) := elems_two (by omega) (by omega) (by omega)
  have s1 : shapeV [((m * n : Nat) : Int)] = .nil := by
    rw [shapeV_nil]
    refine ⟨by simp, ?_, ?_⟩
    · simp [badDim]; omega
    · simp [overs]; omega
  have e1 : elems [((m * n : Nat) : Int)] = ((m * n : Nat) : Int) := by
    unfold elems
    rw [ifT (nilT s1)]
    simp
  have t3 := app_reshape (m := m) (n := n) (by omega) (by omega) (by omega) hA fA s2 e2 s1 e1
  have t4 := app_reshape (m := m) (n := n) (by omega) (by omega) (by omega) hA fA s1 e1 s2 e2
  have em2 : wi64 ((n : Int) * (m : Int)) = ((m * n : Nat) : Int) := by rw [wi64_mul (by omega), hcomm]
  refine bnd _ (op_Apply_spec hN 21 [] (by simp) [(([(m : Int), (n : Int)], true), A)] (by simp)) ?_
  rw [t1]
  (repeat first | refine cT (Nat.le_of_eq (Nat.zero_add _)) ?_ | refine cT rfl ?_ | refine cT True.intro ?_)
  dsimp only
  (try simp only [List.take_length])
  refine bnd _ (op_Apply_spec hN 21 [] (by simp) [(([(n : Int), (m : Int)], true), trL A m n)] (by simp)) ?_
  rw [t2]
  (repeat first | refine cT (Nat.le_of_eq (Nat.zero_add _)) ?_ | refine cT rfl ?_ | refine cT True.intro ?_)
  dsimp only
  (try simp only [List.take_length])
  rw [em2]
  refine bnd _ (op_Apply_spec hN 18 [((m * n : Nat) : Int)] (by simp) [(([(m : Int), (n : Int)], true), A)] (by simp)) ?_
  rw [t3]
  (repeat first | refine cT (Nat.le_of_eq (Nat.zero_add _)) ?_ | refine cT rfl ?_ | refine cT True.intro ?_)
  dsimp only
  (try simp only [List.take_length])
  refine bnd _ (op_Apply_spec hN 18 [(m : Int), (n : Int)] (by simp) [(([((m * n : Nat) : Int)], true), A)] (by simp)) ?_
  rw [t4]
  refine bT rfl (bT rfl (bT rfl (bT rfl ?_)))
  (repeat first | refine cT (Nat.le_of_eq (Nat.zero_add _)) ?_ | refine cT rfl ?_ | refine cT True.intro ?_)
  dsimp only
  (try simp only [List.take_length])
  have hs := lodgeref_SameTensor_self (N := N) (a := (([(m : Int), (n : Int)], true), A)) (b := (([(m : Int), (n : Int)], true), A)) rfl (by simp) (by simp; omega) (by dsimp only; omega) (by dsimp only; omega)
  refine bnd _ hs (bT rfl ?_)
  (repeat first | refine cT (Nat.le_of_eq (Nat.zero_add _)) ?_ | refine cT rfl ?_ | refine cT True.intro ?_)
  refine bnd _ hs (bT rfl ?_)
  refine bnd _ (lodgeref_SameInts_spec _ _ (by simp) (by simp; omega)) (bT (by simp) ?_)
  (repeat first | refine cT (Nat.le_of_eq (Nat.zero_add _)) ?_ | refine cT rfl ?_ | refine cT True.intro ?_)
  refine bnd _ (lodgeref_SameInts_spec _ _ (by omega) (by omega)) ?_
  simp

theorem OpShapes_row {N : Nat} (hN : N = 100000) (x : Val (rowTy ps_lodgelaw12_OpShapes)) (_ : FitsL ps_lodgelaw12_OpShapes x) : (c_lodgelaw12_OpShapes N).g x = some (true, ()) := by
  have h1 := op_first hN
  exact OpShapes_law (by omega) h1 _ _ _

end Go.Proofs.YtnblnlanicpagaaDoor.Lg
