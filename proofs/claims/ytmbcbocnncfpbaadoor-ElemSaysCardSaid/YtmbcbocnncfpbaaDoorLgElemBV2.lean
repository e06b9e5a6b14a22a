/-
  What the program's functions come to, in plain words.
-/
import Derived.Test.YtmbcbocnncfpbaaDoorLgElemBU2
namespace Go.Proofs.YtmbcbocnncfpbaaDoor.Lg
open Go Go.Eng Go.Proofs

theorem loop_elem_apply_0 {N : Nat} (hN : 20000 ≤ N) (op : Int) (args : List Int) (ins : List T) (t : List Int × (Bool × (List Int × Unit))) (l : List T) (hl : l.length ≤ 1000) : ∀ (n i : Nat), i ≤ l.length → l.length < n + i →
    g_elem_apply_0 N n op args ins t ((l.map Prod.fst).take i) l l.length i = if firstBadT (l.drop i) = .nil then some (.inl (op, (args, (ins, (t, (l.map Prod.fst, ())))))) else some (.inr (([], (false, ([], ()))), (firstBadT (l.drop i), ())))
  | 0, i, h, h' => by omega
  | n + 1, i, h, h' => by
    rw [g_elem_apply_0]
    by_cases hi : i < l.length
    · have hlen : ((l.map Prod.fst).take i).length = i := by simp; omega
      have e : List.take (List.length ((l.map Prod.fst).take i)) ((l.map Prod.fst).take i) ++ [(l.getD i (([], false), [])).1] = (l.map Prod.fst).take (i + 1) := by
        rw [List.take_length, List.take_succ_eq_append_getElem (by simpa using hi), getD_lt hi]
        simp
      refine cT (by omega) (cT (by omega) (cT (by simpa using hi) (bnd _ (tens_Valid_spec hN _) ?_)))
      rw [drop_cons hi (([], false), []), Int.toNat_natCast, wi64_succ (by omega), firstBadT]
      by_cases h1 : tensV (l.getD i (([], false), [])) = .nil
      · rw [ifT (nilT h1)]
        refine bF (by dsimp only; rw [nilT h1]; rfl) (cT (by omega) ?_)
        rw [e]
        refine cT (by rw [hlen]; simp only [most]; omega) ?_
        (repeat first | refine cT rfl ?_ | refine cT True.intro ?_)
        refine cT (by simp; omega) ?_
        exact loop_elem_apply_0 hN op args ins t l hl n (i + 1) hi (by omega)
      · rw [ifF (isNil_false h1), if_neg h1]
        exact bT (by dsimp only; rw [isNil_false h1]; rfl) rfl
    · refine cF (by omega) ?_
      rw [List.drop_eq_nil_of_le (by omega), List.take_of_length_le (by simp; omega)]
      (repeat first | refine cT rfl ?_ | refine cT True.intro ?_)
      rfl

theorem loop_elem_apply_1 (N : Nat) (op : Int) (args : List Int) (ins : List T) (t : List Int × (Bool × (List Int × Unit))) (a : T) (sh : List Int) (w : Bool) (hl : a.2.length ≤ 1000000) (h2 : 1 < ins.length → (ins.getD 1 (([], false), [])).2.length = a.2.length) (f : Nat → Int)
    (hf : ∀ i, i < a.2.length → F_elem_Value N op a.1.2 (a.2.getD i 0) (elY ins i) args = some (f i, ())) : ∀ (cnt i : Nat), i ≤ a.2.length → a.2.length < cnt + i →
    g_elem_apply_1 N cnt op args ins t (a, ()) (boxT sh w ((List.range i).map f)) a.2 a.2.length i = some (t, (boxT sh w ((List.range a.2.length).map f), ()))
  | 0, i, h, h' => by omega
  | cnt + 1, i, h, h' => by
    rw [g_elem_apply_1]
    by_cases hi : i < a.2.length
    · have e : List.take (List.length ((List.range i).map f)) ((List.range i).map f) ++ [f i] = (List.range (i + 1)).map f := by
        rw [List.take_length, List.range_succ, List.map_append]
        rfl
      have hv := hf i hi
      unfold elY at hv
      refine cT (by omega) (cT (by omega) (cT (by simpa using hi) ?_))
      simp only [Int.toNat_natCast]
      by_cases h1 : 1 < ins.length
      · rw [if_pos h1] at hv
        refine cT (by omega) (cT h1 (cT (by omega) (cT (by rw [h2 h1]; exact hi) (bnd _ hv ?_))))
        refine cT (by omega) (cT (by simp [most]; omega) ?_)
        (repeat first | refine cT rfl ?_ | refine cT True.intro ?_)
        simp only [e]
        refine cT (by simp) ?_
        rw [wi64_succ (by omega)]
        exact loop_elem_apply_1 N op args ins t a sh w hl h2 f hf cnt (i + 1) hi (by omega)
      · rw [if_neg h1] at hv
        refine cF (by omega) (bnd _ hv ?_)
        refine cT (by omega) (cT (by simp [most]; omega) ?_)
        (repeat first | refine cT rfl ?_ | refine cT True.intro ?_)
        simp only [e]
        refine cT (by simp) ?_
        rw [wi64_succ (by omega)]
        exact loop_elem_apply_1 N op args ins t a sh w hl h2 f hf cnt (i + 1) hi (by omega)
    · have : i = a.2.length := by omega
      refine cF (by omega) ?_
      (repeat first | refine cT rfl ?_ | refine cT True.intro ?_)
      rw [this]

/-- the answer of tensors -/
def elemApp (op : Int) (args : List Int) (ins : List T) : T × Er :=
  if firstBadT ins ≠ .nil then ((noD, []), firstBadT ins)
  else if (elemRes op args (ins.map Prod.fst)).2 ≠ .nil then ((noD, []), (elemRes op args (ins.map Prod.fst)).2)
  else (((elemRes op args (ins.map Prod.fst)).1, (List.range (ins.getD 0 (([], false), [])).2.length).map (elE op args ins)), .nil)

theorem elemApp_OK (op : Int) (args : List Int) (ins : List T) : erOK (elemApp op args ins).2 := by
  unfold elemApp
  repeat' split
  all_goals first | exact True.intro | exact firstBadT_OK _ | exact elemRes_OK _ _ _

/-- of one or two, all of one length -/
theorem elem_lens {op : Int} {args : List Int} {ins : List T} (hr : (elemRes op args (ins.map Prod.fst)).2 = .nil) (hv : firstBadT ins = .nil) :
    0 < ins.length ∧ tensV (ins.getD 0 (([], false), [])) = .nil ∧ (ins.map Prod.fst).getD 0 noD = (ins.getD 0 (([], false), [])).1 ∧ (1 < ins.length → tensV (ins.getD 1 (([], false), [])) = .nil ∧ (ins.getD 1 (([], false), [])).2.length = (ins.getD 0 (([], false), [])).2.length) := by
  obtain ⟨h1, h2, h3, _, h5, _, _, h8, _⟩ := elemRes_ok hr
  have hk : elK op = 2 ∨ elK op = 1 := by unfold elK; split <;> simp
  rcases hk with hk | hk
  · rw [List.length_map, hk] at h3
    match ins, h3 with
    | [a, b], _ =>
    obtain ⟨va, vb⟩ := firstBadT_two hv
    have hab : a.1 = b.1 := h5 hk
    refine ⟨by simp, va, rfl, fun _ => ⟨vb, ?_⟩⟩
    have h6 := tensV_len va
    have h7 := tensV_len vb
    rw [hab] at h6
    simp only [List.getD_cons_zero, List.getD_cons_succ]
    omega
  · rw [List.length_map, hk] at h3
    match ins, h3 with
    | [a], _ => exact ⟨by simp, firstBadT_one hv, rfl, fun h => by simp at h⟩

theorem elem_apply_spec {N : Nat} (hN : 20000 ≤ N) (op : Int) (args : List Int) (ins : List T) (hi : ins.length ≤ 1000) : F_elem_apply N op args ins = some (boxT (elemApp op args ins).1.1.1 (elemApp op args ins).1.1.2 (elemApp op args ins).1.2, ((elemApp op args ins).2, ())) := by
  unfold F_elem_apply elemApp
  have h0 := loop_elem_apply_0 hN op args ins ([], (false, ([], ()))) ins hi N 0 (by omega) (by omega)
  rw [show ((0 : Nat) : Int) = 0 from rfl, List.drop_zero, List.take_zero] at h0
  rw [h0]
  by_cases hv : firstBadT ins = .nil
  case neg =>
    rw [if_neg hv, if_pos hv]
    simp only [Option.bind_some, Sum.elim_inr]
    (repeat first | refine cT rfl ?_ | refine cT True.intro ?_)
    rfl
  rw [if_pos hv, if_neg (fun h => h hv)]
  simp only [Option.bind_some, Sum.elim_inl]
  refine cT (by simp) ?_
  (try simp only [List.take_length])
  have hm : List.take (List.length (ins.map Prod.fst)) (ins.map Prod.fst) = ins.map Prod.fst := List.take_length
  (try rw [hm])
  refine bnd _ (elem_Result_spec hN op args _ (by simpa using hi)) ?_
  by_cases hr : (elemRes op args (ins.map Prod.fst)).2 = .nil
  case neg =>
    rw [if_pos hr]
    exact bT (by simp [isNil_false hr]) rfl
  rw [if_neg (fun h => h hr)]
  obtain ⟨p1, p2, p3, p4⟩ := elem_lens hr hv
  obtain ⟨h1, h2, h3, _, h5, _, _, h8, _⟩ := elemRes_ok hr
  have hb := elems_bound (ins.getD 0 (([], false), [])).1.1
  have hl := tensV_len p2
  refine bF (by simp [hr, Er.isNil]) (cT p1 ?_)
  (repeat first | refine cT rfl ?_ | refine cT True.intro ?_)
  have h1 := loop_elem_apply_1 N op args ins ([], (false, ([], ()))) (ins.getD 0 (([], false), [])) (elemRes op args (ins.map Prod.fst)).1.1 (elemRes op args (ins.map Prod.fst)).1.2 (by omega) (fun h => (p4 h).2) (elE op args ins) (fun i hi => by
    have hy : -2147483648 ≤ elY ins i ∧ elY ins i ≤ 2147483647 := by
      unfold elY
      split
      · rename_i hh
        exact tensV_in (p4 hh).1 _
      · omega
    rw [elem_Value_spec N op _ (tensV_in p2 i) hy (fun ho => by subst ho; exact elFair_9 h8) (fun ho => by subst ho; have := elFair_11 h8; omega), if_neg (by omega)]
    rfl) N 0 (by omega) (by omega)
  rw [show ((0 : Nat) : Int) = 0 from rfl] at h1
  refine bnd _ h1 ?_
  (repeat first | refine cT rfl ?_ | refine cT True.intro ?_)
  rfl

theorem elem_Two_spec {N : Nat} (hN : 20000 ≤ N) (op : Int) (a b : T) : F_elem_Two N op a b = some (boxT (elemApp op [] [a, b]).1.1.1 (elemApp op [] [a, b]).1.1.2 (elemApp op [] [a, b]).1.2, ((elemApp op [] [a, b]).2, ())) := by
  unfold F_elem_Two
  refine bnd _ (elem_apply_spec hN op [] [a, b] (by simp)) ?_
  (repeat first | refine cT rfl ?_ | refine cT True.intro ?_)
  rfl

theorem elem_One_spec {N : Nat} (hN : 20000 ≤ N) (op : Int) (a : T) (args : List Int) : F_elem_One N op a args = some (boxT (elemApp op args [a]).1.1.1 (elemApp op args [a]).1.1.2 (elemApp op args [a]).1.2, ((elemApp op args [a]).2, ())) := by
  unfold F_elem_One
  refine bnd _ (elem_apply_spec hN op args [a] (by simp)) ?_
  (repeat first | refine cT rfl ?_ | refine cT True.intro ?_)
  rfl

end Go.Proofs.YtmbcbocnncfpbaaDoor.Lg
