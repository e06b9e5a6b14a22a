/-
  What the program's functions come to, in plain words.
-/
import Derived.Test.YtohkmbpdjigjdaaDoorLgSoftAS
namespace Go.Proofs.YtohkmbpdjigjdaaDoor.Lg
open Go Go.Eng Go.Proofs

theorem soft_first {N : Nat} (hN : N = 100000) : F_lodgelaw11_first N = some (true, ()) := by
  subst hN
  kernel_rfl

/-- rows that are gathered -/
theorem gather_ok {A B : List Int} {n d k : Nat} (hn : 1 ≤ n ∧ n ≤ 256) (hd : 1 ≤ d ∧ d ≤ 256) (hk : 1 ≤ k ∧ k ≤ 256) (hnd : n * d ≤ 16384) (hkd : k * d ≤ 16384) (hA : A.length = n * d) (fA : ∀ x, x ∈ A → -128 ≤ x ∧ x ≤ 127) (hB : B.length = k) (fB : ∀ x, x ∈ B → -2147483648 ≤ x ∧ x ≤ 2147483647) :
    firstBadT [(([(n : Int), (d : Int)], false), A), (([(k : Int)], true), B)] = .nil ∧ softRes 17 [([(n : Int), (d : Int)], false), ([(k : Int)], true)] = (([(k : Int), (d : Int)], false), .nil) := by
  have s1 : shapeV [(k : Int)] = .nil := by
    rw [shapeV_nil]
    refine ⟨by simp, ?_, ?_⟩
    · simp [badDim]; omega
    · simp [overs]; omega
  have e1 : elems [(k : Int)] = (k : Int) := by
    unfold elems
    rw [ifT (nilT s1)]
    simp
  have s2 := shapeV_two hn hd hnd
  have s3 := shapeV_two hk hd hkd
  have v1 : tensV (([(n : Int), (d : Int)], false), A) = .nil := (tensV_iff _).2 ⟨s2, by dsimp only; rw [elems_two hn hd hnd, hA], fun x hx => fitsB_narrow.2 (fA x hx)⟩
  have v2 : tensV (([(k : Int)], true), B) = .nil := (tensV_iff _).2 ⟨s1, by dsimp only; rw [e1, hB], fun x hx => fitsB_wide.2 (fB x hx)⟩
  constructor
  · unfold firstBadT firstBadT firstBadT
    rw [ifT (nilT v1), ifT (nilT v2)]
  · have hf : firstBad [([(n : Int), (d : Int)], false), ([(k : Int)], true)] = .nil := by
      unfold firstBad firstBad firstBad
      rw [ifT (nilT s2), ifT (nilT s1)]
    unfold softRes
    rw [if_neg (fun h => h (.inr (.inl rfl))), if_neg (by simp [softK]), ifNT (nilT hf), if_neg (by decide), if_pos rfl]
    simp only [List.getD_cons_zero, List.getD_cons_succ]
    rw [if_neg (by simp)]
    unfold seenD
    rw [ifT (nilT s3)]

theorem elAll_gather {A B : List Int} {n d k : Nat} (D0 : D) (i : Nat) : elAll 17 [] [(([(n : Int), (d : Int)], false), A), (([(k : Int)], true), B)] D0 i = gaC A B n d i := by
  unfold elAll
  simp

theorem loop_SoftGathers_0 (N : Nat) (n d : Nat) (hnd : n * d ≤ 1000) (at_ : List Int) : ∀ (cnt i : Nat), i ≤ n * d → n * d < cnt + i →
    g_lodgelaw11_SoftGathers_0 N cnt n d at_ (boxT [(n : Int), (d : Int)] false ((List.range i).map fun p => ((p % 256 : Nat) : Int) - 128)) i = some ((n : Int), ((d : Int), (at_, (boxT [(n : Int), (d : Int)] false ((List.range (n * d)).map fun p => ((p % 256 : Nat) : Int) - 128), ()))))
  | 0, i, h, h' => by omega
  | cnt + 1, i, h, h' => by
    rw [g_lodgelaw11_SoftGathers_0]
    have em : wi64 ((n : Int) * (d : Int)) = ((n * d : Nat) : Int) := wi64_mul (by omega)
    rw [em]
    by_cases hi : i < n * d
    · have e : List.take (List.length ((List.range i).map fun p => ((p % 256 : Nat) : Int) - 128)) ((List.range i).map fun p => ((p % 256 : Nat) : Int) - 128) ++ [((i % 256 : Nat) : Int) - 128] = (List.range (i + 1)).map fun p => ((p % 256 : Nat) : Int) - 128 := by
        rw [List.take_length, List.range_succ, List.map_append]
        rfl
      have et : Int.tmod (i : Int) 256 = ((i % 256 : Nat) : Int) := tmod_nat i 256
      refine cT (by omega) (cT (by omega) (cT (by simp [most]; omega) ?_))
      (repeat first | refine cT rfl ?_ | refine cT True.intro ?_)
      dsimp only
      rw [et, wi64_in (by omega) (by omega), e]
      refine cT (by simp) ?_
      rw [wi64_succ (by omega)]
      exact loop_SoftGathers_0 N n d hnd at_ cnt (i + 1) hi (by omega)
    · have : i = n * d := by omega
      refine cF (by omega) ?_
      (repeat first | refine cT rfl ?_ | refine cT True.intro ?_)
      rw [this]

theorem loop_SoftGathers_1 (N : Nat) (n d : Int) (l : List Int) (a : List Int × (Bool × (List Int × Unit))) (hl : l.length ≤ 1000) : ∀ (cnt i : Nat), i ≤ l.length → l.length < cnt + i →
    g_lodgelaw11_SoftGathers_1 N cnt n d l a (boxT [(l.length : Int)] true ((List.range i).map fun p => l.getD p 0 % 40 - 10)) i = some (n, (d, (l, (a, (boxT [(l.length : Int)] true ((List.range l.length).map fun p => l.getD p 0 % 40 - 10), ())))))
  | 0, i, h, h' => by omega
  | cnt + 1, i, h, h' => by
    rw [g_lodgelaw11_SoftGathers_1]
    by_cases hi : i < l.length
    · have e : List.take (List.length ((List.range i).map fun p => l.getD p 0 % 40 - 10)) ((List.range i).map fun p => l.getD p 0 % 40 - 10) ++ [l.getD i 0 % 40 - 10] = (List.range (i + 1)).map fun p => l.getD p 0 % 40 - 10 := by
        rw [List.take_length, List.range_succ, List.map_append]
        rfl
      refine cT (by omega) (cT (by omega) (cT (by simpa using hi) ?_))
      rw [Int.toNat_natCast]
      refine bnd _ (lodgeworld_Number_spec N _ _ (by omega) (by omega)) (cT (by omega) (cT (by simp [most]; omega) ?_))
      (repeat first | refine cT rfl ?_ | refine cT True.intro ?_)
      dsimp only
      rw [wi64_in (by omega) (by omega), e]
      refine cT (by simp) ?_
      rw [wi64_succ (by omega)]
      exact loop_SoftGathers_1 N n d l a hl cnt (i + 1) hi (by omega)
    · have : i = l.length := by omega
      subst this
      refine cF (by omega) ?_
      (repeat first | refine cT rfl ?_ | refine cT True.intro ?_)
      rfl

theorem imin_imax_cut {x m : Int} (h : 0 ≤ m) : imin (imax x 0) m = cut x 0 m := by
  unfold imax imin cut
  repeat' split
  all_goals omega

theorem loop_SoftGathers_2 {N : Nat} (hN : 20000 ≤ N) {A B : List Int} {n d k : Nat} (hn : 1 ≤ n ∧ n ≤ 256) (hd : 1 ≤ d ∧ d ≤ 256) (hk : 1 ≤ k ∧ k ≤ 256) (hnd : n * d ≤ 16384) (hkd : k * d ≤ 16384) (hA : A.length = n * d) (fA : ∀ x, x ∈ A → -128 ≤ x ∧ x ≤ 127) (hB : B.length = k) (fB : ∀ x, x ∈ B → -2147483648 ≤ x ∧ x ≤ 2147483647)
    {sh : List Int} {w : Bool} {R : List Int} (hR : R.length = k * d) (hR2 : ∀ i, i < k * d → R.getD i 0 = gaC A B n d i) : ∀ (cnt i : Nat), i ≤ k * d → k * d < cnt + i →
    g_lodgelaw11_SoftGathers_2 N cnt n d ((([(n : Int), (d : Int)], false), A), ()) ((([(k : Int)], true), B), ()) (boxT sh w R) i = some (.inl ())
  | 0, i, h, h' => by omega
  | cnt + 1, i, h, h' => by
    rw [g_lodgelaw11_SoftGathers_2]
    by_cases hi : i < k * d
    · have h1 : i / d < k := Nat.div_lt_of_lt_mul (by rw [Nat.mul_comm]; exact hi)
      have hq := ga_idx hn.1 hd.1 (B.getD (i / d) 0) i
      have hc := cut_in (x := B.getD (i / d) 0) (lo := 0) (hi := (n : Int) - 1) (by omega)
      have hg := hR2 i hi
      unfold gaC at hg
      rw [wi64_tdiv i d (by omega), tmod_nat, wi64_in (n := (n : Int) - 1) (by omega) (by omega)]
      simp only [Int.toNat_natCast, Nat.zero_add]
      simp only [imin_imax_cut (show (0 : Int) ≤ (n : Int) - 1 by omega)]
      obtain ⟨C, hC⟩ : ∃ C : Nat, cut (B.getD (i / d) 0) 0 ((n : Int) - 1) = (C : Int) := ⟨(cut (B.getD (i / d) 0) 0 ((n : Int) - 1)).toNat, by omega⟩
      rw [hC] at hq hg
      simp only [hC]
      rw [Int.toNat_natCast] at hq hg
      have e4 : wi64 (wi64 ((C : Int) * d) + ((i % d : Nat) : Int)) = ((C * d + i % d : Nat) : Int) := wi64_row (by omega)
      simp only [e4]
      obtain ⟨hv, hr⟩ := gather_ok hn hd hk hnd hkd hA fA hB fB
      have hcell : softElm 17 (i : Int) [(([(n : Int), (d : Int)], false), A), (([(k : Int)], true), B)] = R.getD i 0 := by
        unfold softElm
        rw [if_neg (fun h => h hv), show [(([(n : Int), (d : Int)], false), A), (([(k : Int)], true), B)].map Prod.fst = [([(n : Int), (d : Int)], false), ([(k : Int)], true)] from rfl, hr, if_neg (by simp)]
        dsimp only
        rw [elems_two hk hd hkd, if_pos ⟨by omega, by omega⟩, Int.toNat_natCast, elAll_gather, hR2 i hi]
      refine cT (by first | omega | (dsimp only; omega) | (simp; omega)) (cT (by omega) (cT (Int.natCast_nonneg _) (cT (by first | omega | (dsimp only; omega) | (simp; omega)) (cT (Int.natCast_nonneg _) (cT (by first | omega | (dsimp only; omega) | (simp; omega)) (cT (by first | omega | (dsimp only; omega) | (simp; omega)) (cT (by omega) (cT (Int.natCast_nonneg _) (cT (by rw [Int.toNat_natCast]; first | omega | (dsimp only; omega)) ?_)))))))))
      refine cF ?_ ?_
      · rw [Int.toNat_natCast]
        exact fun h => h hg
      refine bnd _ (soft_Cell_spec hN 17 (i : Int) _ (by simp)) (cT (Int.natCast_nonneg _) (cT (by first | omega | (dsimp only; omega) | (simp; omega)) (cT (by first | omega | (dsimp only; omega) | (simp; omega)) (cF (fun h => h hcell) ?_))))
      (repeat first | refine cT rfl ?_ | refine cT True.intro ?_)
      rw [wi64_succ (by omega)]
      exact loop_SoftGathers_2 hN hn hd hk hnd hkd hA fA hB fB hR hR2 cnt (i + 1) hi (by omega)
    · exact cF (by first | omega | (dsimp only; omega) | (simp; omega)) rfl

theorem SoftGathers_law {N : Nat} (hN : 20000 ≤ N) (h1st : F_lodgelaw11_first N = some (true, ())) (n0 d0 : Int) (l : List Int) : F_lodgelaw11_SoftGathers N n0 d0 l = some (true, ()) := by
  obtain ⟨n, hn, en⟩ := Number_nat (N := N) n0 10 (by omega) (by omega)
  obtain ⟨d, hd, ed⟩ := Number_nat (N := N) d0 10 (by omega) (by omega)
  have sn : wi64 ((n : Int) + 1) = ((n + 1 : Nat) : Int) := wi64_succ (by omega)
  have sd : wi64 ((d : Int) + 1) = ((d + 1 : Nat) : Int) := wi64_succ (by omega)
  have pnd : (n + 1) * (d + 1) ≤ 10 * 10 := Nat.mul_le_mul (by omega) (by omega)
  unfold F_lodgelaw11_SoftGathers
  refine bnd _ h1st (bF rfl ?_)
  by_cases hl : (20 : Int) < (l.length : Int)
  · exact cT hl rfl
  refine cF hl ?_
  by_cases hl0 : (l.length : Int) = 0
  · exact cT hl0 rfl
  refine cF hl0 (bF rfl ?_)
  refine bnd _ en (bnd _ ed ?_)
  dsimp only
  rw [sn, sd]
  have pkd : l.length * (d + 1) ≤ 20 * 10 := Nat.mul_le_mul (by omega) (by omega)
  have h0 := loop_SoftGathers_0 N (n + 1) (d + 1) (by omega) l N 0 (by omega) (by omega)
  rw [show ((0 : Nat) : Int) = 0 from rfl, List.range_zero, List.map_nil] at h0
  refine bnd _ h0 ?_
  obtain ⟨A, eA⟩ : ∃ A : List Int, (List.range ((n + 1) * (d + 1))).map (fun p => ((p % 256 : Nat) : Int) - 128) = A := ⟨_, rfl⟩
  have hA : A.length = (n + 1) * (d + 1) := by rw [← eA]; simp
  have fA : ∀ x, x ∈ A → -128 ≤ x ∧ x ≤ 127 := by
    intro x hx
    rw [← eA] at hx
    obtain ⟨p, _, rfl⟩ := List.mem_map.1 hx
    omega
  rw [eA]
  (repeat first | refine cT rfl ?_ | refine cT True.intro ?_)
  have h1 := loop_SoftGathers_1 N ((n + 1 : Nat) : Int) ((d + 1 : Nat) : Int) l (boxT [((n + 1 : Nat) : Int), ((d + 1 : Nat) : Int)] false A) (by omega) N 0 (by omega) (by omega)
  rw [show ((0 : Nat) : Int) = 0 from rfl, List.range_zero, List.map_nil] at h1
  refine bnd _ h1 ?_
  obtain ⟨B, eB⟩ : ∃ B : List Int, (List.range l.length).map (fun p => l.getD p 0 % 40 - 10) = B := ⟨_, rfl⟩
  have hB : B.length = l.length := by rw [← eB]; simp
  have fB : ∀ x, x ∈ B → -2147483648 ≤ x ∧ x ≤ 2147483647 := by
    intro x hx
    rw [← eB] at hx
    obtain ⟨p, _, rfl⟩ := List.mem_map.1 hx
    omega
  rw [eB]
  (repeat first | refine cT (Nat.le_of_eq (Nat.zero_add _)) ?_ | refine cT rfl ?_ | refine cT True.intro ?_)
  dsimp only
  simp only [List.take_length]
  obtain ⟨hv, hr⟩ := gather_ok (A := A) (B := B) (n := n + 1) (d := d + 1) (k := l.length) (by omega) (by omega) (by omega) (by omega) (by omega) hA fA hB fB
  have happ : softApp 17 [(([((n + 1 : Nat) : Int), ((d + 1 : Nat) : Int)], false), A), (([(l.length : Int)], true), B)] = ((([(l.length : Int), ((d + 1 : Nat) : Int)], false), (List.range (l.length * (d + 1))).map (gaC A B (n + 1) (d + 1))), .nil) := by
    unfold softApp
    rw [if_neg (fun h => h hv), show [(([((n + 1 : Nat) : Int), ((d + 1 : Nat) : Int)], false), A), (([(l.length : Int)], true), B)].map Prod.fst = [([((n + 1 : Nat) : Int), ((d + 1 : Nat) : Int)], false), ([(l.length : Int)], true)] from rfl, hr, if_neg (by simp)]
    dsimp only
    rw [elems_two (by omega) (by omega) (by omega), Int.toNat_natCast]
    rw [List.map_congr_left (fun i _ => elAll_gather _ i)]
  refine bnd _ (soft_Gather_spec hN _ _) ?_
  rw [happ]
  refine bF rfl ?_
  obtain ⟨R, eR⟩ : ∃ R, (List.range (l.length * (d + 1))).map (gaC A B (n + 1) (d + 1)) = R := ⟨_, rfl⟩
  have hR : R.length = l.length * (d + 1) := by rw [← eR, List.length_map, List.length_range]
  have hR2 : ∀ i, i < l.length * (d + 1) → R.getD i 0 = gaC A B (n + 1) (d + 1) i := by
    intro i hi
    rw [getD_lt (by omega)]
    simp only [← eR, List.getElem_map, List.getElem_range]
  rw [eR]
  have em : wi64 ((l.length : Int) * ((d + 1 : Nat) : Int)) = ((l.length * (d + 1) : Nat) : Int) := wi64_mul (by omega)
  refine cF (by dsimp only; rw [em, hR]; simp) ?_
  (repeat first | refine cT (Nat.le_of_eq (Nat.zero_add _)) ?_ | refine cT rfl ?_ | refine cT True.intro ?_)
  dsimp only
  (try simp only [List.take_length])
  have h2 := loop_SoftGathers_2 hN (A := A) (B := B) (n := n + 1) (d := d + 1) (k := l.length) (by omega) (by omega) (by omega) (by omega) (by omega) hA fA hB fB (sh := [(l.length : Int), ((d + 1 : Nat) : Int)]) (w := false) hR hR2 N 0 (by omega) (by omega)
  exact bnd _ h2 rfl

theorem SoftGathers_row {N : Nat} (hN : N = 100000) (x : Val (rowTy ps_lodgelaw11_SoftGathers)) (_ : FitsL ps_lodgelaw11_SoftGathers x) : (c_lodgelaw11_SoftGathers N).g x = some (true, ()) := by
  have h1 := soft_first hN
  exact SoftGathers_law (by omega) h1 _ _ _

end Go.Proofs.YtohkmbpdjigjdaaDoor.Lg
