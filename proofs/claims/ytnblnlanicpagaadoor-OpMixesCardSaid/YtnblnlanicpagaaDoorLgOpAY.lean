/-
  What the program's functions come to, in plain words.
-/
import Derived.Test.YtnblnlanicpagaaDoorLgOpAX
namespace Go.Proofs.YtnblnlanicpagaaDoor.Lg
open Go Go.Eng Go.Proofs

/-! pools, by the program -/

theorem mx_next (f : Nat → Int) (k : Nat) : max (mx f (k - 1)) (f k) = mx f (k + 1 - 1) := by
  cases k with
  | zero => simp only [Nat.zero_sub, mx, Nat.zero_add, Nat.sub_self]; omega
  | succ k => rfl

section

variable {a : T} {h w c n s : Nat}

theorem loop_pp_1 (H : PoolOK a h w c n s) (N : Nat) (avg : Bool) {y x ch dy : Nat} (hy : y < (h - n) / s + 1) (hx : x < (w - n) / s + 1) (hch : ch < c) (hdy : dy < n) (S : Int) (hS : -1099511627776 ≤ S ∧ S ≤ 1099511627776) : ∀ (cnt dx : Nat), dx ≤ n → n < cnt + dx →
    g_pool_At_1 N cnt avg a.1.1 a n s c ch x y (mx (fun q => plV a.2 w c s y x ch (q / n) (q % n)) (dy * n + dx - 1)) (S + sumN (plV a.2 w c s y x ch dy) dx) dy dx
      = some (avg, (a.1.1, (a, ((n : Int), ((s : Int), ((c : Int), ((ch : Int), ((x : Int), ((y : Int), (mx (fun q => plV a.2 w c s y x ch (q / n) (q % n)) (dy * n + n - 1), (S + sumN (plV a.2 w c s y x ch dy) n, (((dy + 1 : Nat) : Int), ()))))))))))))
  | 0, dx, h1, h2 => by omega
  | cnt + 1, dx, h1, h2 => by
    have hn := H.hn
    rw [g_pool_At_1]
    by_cases hdx : dx < n
    · obtain ⟨i1, i2, i3⟩ := pool_idx H hy hx hch hdy hdx
      have bA := H.bA
      have hv := H.fA (((y * s + dy) * w + (x * s + dx)) * c + ch)
      have h8 := sumN_bound (plV a.2 w c s y x ch dy) 2147483648 (fun q => by have := H.fA (((y * s + dy) * w + (x * s + q)) * c + ch); unfold plV; omega) dx
      have e3 : wi64 (S + sumN (plV a.2 w c s y x ch dy) dx + a.2.getD (((y * s + dy) * w + (x * s + dx)) * c + ch) 0) = S + sumN (plV a.2 w c s y x ch dy) (dx + 1) := by
        rw [wi64_in (by omega) (by omega), sumN]
        unfold plV
        omega
      have ih := loop_pp_1 H N avg hy hx hch hdy S hS cnt (dx + 1) hdx (by omega)
      have q1 : (dy * n + dx) / n = dy := by rw [Nat.mul_comm, Nat.mul_add_div (by omega), Nat.div_eq_of_lt hdx]; rfl
      have q2 : (dy * n + dx) % n = dx := by rw [Nat.mul_comm, Nat.mul_add_mod, Nat.mod_eq_of_lt hdx]
      have hm := mx_next (fun q => plV a.2 w c s y x ch (q / n) (q % n)) (dy * n + dx)
      (try dsimp only at hm)
      rw [q1, q2] at hm
      unfold plV at hm
      refine cF (by omega) (cT (by rw [H.sa]; simp) ?_)
      have eg : a.1.1.getD 1 0 = (w : Int) := by rw [H.sa]; rfl
      rw [eg, pool_wi H hy hx hch hdy hdx]
      refine bnd _ (op_reads_1_spec N _ a (by rw [H.hA]; exact i3)) ?_
      dsimp only
      rw [e3, wi64_succ (show dx < 9223372036854775807 by omega), imax_eq']
      unfold plV
      rw [hm]
      unfold plV at ih
      exact ih
    · have : dx = n := by omega
      subst this
      refine cT (by omega) ?_
      rw [wi64_succ (by omega)]

theorem loop_pp_0 (H : PoolOK a h w c n s) {N : Nat} (hN : 20000 ≤ N) (avg : Bool) {y x ch : Nat} (hy : y < (h - n) / s + 1) (hx : x < (w - n) / s + 1) (hch : ch < c) : ∀ (cnt dy : Nat), dy ≤ n → n < cnt + dy →
    g_pool_At_0 N cnt avg a.1.1 a n s c ch x y (mx (fun q => plV a.2 w c s y x ch (q / n) (q % n)) (dy * n - 1)) (sumN (fun dy => sumN (plV a.2 w c s y x ch dy) n) dy) dy
      = some (avg, ((n : Int), (plM a.2 w c n s y x ch, (plS a.2 w c n s y x ch, ()))))
  | 0, dy, h1, h2 => by omega
  | cnt + 1, dy, h1, h2 => by
    have hn := H.hn
    rw [g_pool_At_0]
    by_cases hdy : dy < n
    · refine cT (by omega) ?_
      have hS := sumN_bound (fun dy => sumN (plV a.2 w c s y x ch dy) n) 34359738368 (fun dy => by
        have := sumN_bound (plV a.2 w c s y x ch dy) 2147483648 (fun q => by have := H.fA (((y * s + dy) * w + (x * s + q)) * c + ch); unfold plV; omega) n
        omega) dy
      have h0 := loop_pp_1 H N avg hy hx hch hdy (sumN (fun dy => sumN (plV a.2 w c s y x ch dy) n) dy) (by omega) N 0 (by omega) (by omega)
      rw [show ((0 : Nat) : Int) = 0 from rfl, sumN, Int.add_zero, Nat.add_zero] at h0
      refine bnd _ h0 ?_
      dsimp only
      have := loop_pp_0 H hN avg hy hx hch cnt (dy + 1) hdy (by omega)
      rw [sumN, Nat.add_mul, Nat.one_mul] at this
      exact this
    · have : dy = n := by omega
      subst this
      refine cF (by omega) ?_
      rfl

theorem pool_floor_spec (N : Nat) {a b : Int} (hb : 0 < b) (hb' : b ≤ 4398046511104) (ha : -4398046511104 ≤ a ∧ a ≤ 4398046511104) : F_pool_floor N a b = some (a / b, ()) := by
  unfold F_pool_floor
  have hd := Int.mul_ediv_add_emod a b
  have hm := Int.emod_nonneg a (show b ≠ 0 by omega)
  have hm' := Int.emod_lt_of_pos a hb
  have hq : -4398046511104 ≤ a / b ∧ a / b ≤ 4398046511104 := by
    constructor
    · have := Int.ediv_le_ediv hb ha.1
      have h2 : -4398046511104 ≤ (-4398046511104 : Int) / b := by
        have := Int.le_ediv_of_mul_le hb (show -4398046511104 * b ≤ -4398046511104 by omega)
        exact this
      omega
    · have := Int.ediv_le_ediv hb ha.2
      have h2 : (4398046511104 : Int) / b ≤ 4398046511104 := Int.ediv_le_self _ (by omega)
      omega
  have ht : Int.tdiv a b = a / b ∧ ¬ Int.tmod a b < 0 ∨ Int.tdiv a b = a / b + 1 ∧ Int.tmod a b < 0 := by
    rw [Int.tdiv_eq_ediv, Int.tmod_eq_emod]
    by_cases h : 0 ≤ a ∨ b ∣ a
    · left
      rw [if_pos h, if_pos h]
      constructor <;> omega
    · right
      have hs : b.sign = 1 := Int.sign_eq_one_of_pos hb
      rw [if_neg h, if_neg h, hs]
      constructor
      · omega
      · omega
  refine cT (by omega) (cT (by omega) ?_)
  rcases ht with ⟨h1, h2⟩ | ⟨h1, h2⟩
  · refine cF h2 ?_
    rw [h1, wi64_in (by omega) (by omega)]
  · refine cT h2 ?_
    rw [h1, wi64_in (n := a / b + 1) (by omega) (by omega), wi64_in (by omega) (by omega)]
    congr 2
    omega

theorem pool_At_spec (H : PoolOK a h w c n s) {N : Nat} (hN : 20000 ≤ N) (avg : Bool) {i oh : Nat} (eoh : oh = (h - n) / s + 1) {ow : Nat} (eow : ow = (w - n) / s + 1) (hi : i < oh * ow * c) :
    F_pool_At N avg [(n : Int), (s : Int)] a.1.1 a i ow = some (plC avg a.2 w c n s ow i, ()) := by
  have hc := H.hc
  have hn := H.hn
  have hs := H.hs
  have d0 := pool_dim (h := h) (n := n) (s := s) (by omega) (by omega) H.nh
  have d1 := pool_dim (h := w) (n := n) (s := s) (by omega) (by omega) H.nw
  have hp := pool_prod (c := c) (by omega) (by omega) H.nh H.nw H.bA (n := n) (s := s)
  rw [← eoh, ← eow] at hp
  have h1 : i / c < oh * ow := Nat.div_lt_of_lt_mul (by rw [Nat.mul_comm]; exact hi)
  have h2 : i / c / ow < oh := Nat.div_lt_of_lt_mul (by rw [Nat.mul_comm]; exact h1)
  have h3 : i / c % ow < ow := Nat.mod_lt _ (by omega)
  have h4 : i % c < c := Nat.mod_lt _ (by omega)
  have e1 : wi64 (Int.tdiv (i : Int) (c : Int)) = ((i / c : Nat) : Int) := wi64_tdiv i c (by omega)
  have e2 : wi64 (Int.tdiv ((i / c : Nat) : Int) (ow : Int)) = ((i / c / ow : Nat) : Int) := wi64_tdiv _ ow (by have := Nat.div_le_self i c; omega)
  have h0 := loop_pp_0 H hN avg (y := i / c / ow) (x := i / c % ow) (ch := i % c) (by omega) (by omega) h4 N 0 (by omega) (by omega)
  rw [show ((0 : Nat) : Int) = 0 from rfl, sumN, Nat.zero_mul, Nat.zero_sub, mx] at h0
  have hw0 := pool_wi H (y := i / c / ow) (x := i / c % ow) (ch := i % c) (dy := 0) (dx := 0) (by omega) (by omega) h4 (by omega) (by omega)
  obtain ⟨i1, i2, i3⟩ := pool_idx H (y := i / c / ow) (x := i / c % ow) (ch := i % c) (dy := 0) (dx := 0) (by omega) (by omega) h4 (by omega) (by omega)
  have bA := H.bA
  have hw := H.hw
  have hh := H.hh
  have b1 : (i / c / ow * s + 0) * w ≤ 256 * 256 := Nat.mul_le_mul (by omega) hw.2
  have b2 : (i / c / ow * s + 0) * w + (i / c % ow * s + 0) ≤ ((i / c / ow * s + 0) * w + (i / c % ow * s + 0)) * c := Nat.le_mul_of_pos_right _ (by omega)
  have ew : wi64 (wi64 (wi64 (wi64 (wi64 (((i / c / ow : Nat) : Int) * s) * w) + wi64 (((i / c % ow : Nat) : Int) * s)) * c) + ((i % c : Nat) : Int)) = ((((i / c / ow * s + 0) * w + (i / c % ow * s + 0)) * c + i % c : Nat) : Int) := by
    rw [wi64_mul (i := i / c / ow) (k := s) (by omega), wi64_mul (i := i / c % ow) (k := s) (by omega), wi64_mul (i := i / c / ow * s) (k := w) (by rw [Nat.add_zero] at b1; omega), wi64_add (i := i / c / ow * s * w) (by rw [Nat.add_zero] at b1 b2; omega), wi64_row (by rw [Nat.add_zero, Nat.add_zero] at i3; omega), Nat.add_zero, Nat.add_zero]
  unfold F_pool_At
  have g1 : a.1.1.getD 1 0 = (w : Int) := by rw [H.sa]; rfl
  have g2 : a.1.1.getD 2 0 = (c : Int) := by rw [H.sa]; rfl
  have gl : a.1.1.length = 3 := by rw [H.sa]; rfl
  simp only [List.getD_cons_zero, List.getD_cons_succ, g1, g2, e1, e2, tmod_nat, ew]
  have hv0 : plV a.2 w c s (i / c / ow) (i / c % ow) (i % c) (0 / n) (0 % n) = a.2.getD (((i / c / ow * s + 0) * w + (i / c % ow * s + 0)) * c + i % c) 0 := by
    unfold plV
    rw [Nat.zero_div, Nat.zero_mod]
  (try dsimp only at h0)
  rw [hv0] at h0
  refine cT (by simp) (cT (by simp) (cT (by omega) (cT (by omega) (cT (by omega) (cT (by omega) (cT (by omega) (cT (by omega) (cT (by omega) (bnd _ (op_reads_1_spec N _ a (by rw [H.hA]; exact i3)) (bnd _ h0 ?_))))))))))
  unfold plC
  cases avg
  · exact bF rfl rfl
  · refine bT rfl ?_
    (repeat first | refine bT rfl ?_ | refine bF rfl ?_)
    have hsum := plS_bound H (i / c / ow) (i / c % ow) (i % c)
    have hnn : n * n ≤ 16 * 16 := Nat.mul_le_mul hn.2 hn.2
    have hn1 : 1 ≤ n * n := Nat.mul_le_mul hn.1 hn.1
    dsimp only
    rw [wi64_mul (i := n) (k := n) (by omega), wi64_in (n := 2 * plS a.2 w c n s (i / c / ow) (i / c % ow) (i % c)) (by omega) (by omega), wi64_in (n := 2 * plS a.2 w c n s (i / c / ow) (i / c % ow) (i % c) + ((n * n : Nat) : Int)) (by omega) (by omega), wi64_in (n := 2 * ((n * n : Nat) : Int)) (by omega) (by omega)]
    exact bnd _ (pool_floor_spec N (by omega) (by omega) (by omega)) rfl

end

theorem loop_op_result {N : Nat} (hN : 20000 ≤ N) (op : Int) (args : List Int) (t : List Int × (Bool × Unit)) (l : List T) (hl : l.length ≤ 1000) : ∀ (n i : Nat), i ≤ l.length → l.length < n + i →
    g_op_result_0 N n op args t ((l.map Prod.fst).take i) l l.length i = if firstBadT (l.drop i) = .nil then some (.inl (op, (args, (t, (l.map Prod.fst, ()))))) else some (.inr (([], (false, ())), ([], (firstBadT (l.drop i), ()))))
  | 0, i, h, h' => by omega
  | n + 1, i, h, h' => by
    rw [g_op_result_0]
    by_cases hi : i < l.length
    · have hlen : ((l.map Prod.fst).take i).length = i := by simp; omega
      have e : List.take (List.length ((l.map Prod.fst).take i)) ((l.map Prod.fst).take i) ++ [(l.getD i (([], false), [])).1] = (l.map Prod.fst).take (i + 1) := by
        rw [List.take_length, List.take_succ_eq_append_getElem (by simpa using hi), getD_lt hi]
        simp
      refine cT (by omega) (cT (by omega) (cT (by simpa using hi) (bnd _ (tens_Valid_spec hN _) ?_)))
      rw [drop_cons hi (([], false), []), Int.toNat_natCast, wi64_succ (by omega), firstBadT]
      by_cases h1 : tensV (l.getD i (([], false), [])) = .nil
      · rw [ifT (nilT h1)]
        refine bF (by dsimp only; rw [nilT h1]; rfl) (cT (by omega) ?_)
        rw [e]
        refine cT (by rw [hlen]; simp only [most]; omega) ?_
        (repeat first | refine cT rfl ?_ | refine cT True.intro ?_)
        refine cT (by simp; omega) ?_
        exact loop_op_result hN op args t l hl n (i + 1) hi (by omega)
      · rw [ifF (isNil_false h1), if_neg h1]
        exact bT (by dsimp only; rw [isNil_false h1]; rfl) rfl
    · refine cF (by omega) ?_
      rw [List.drop_eq_nil_of_le (by omega), List.take_of_length_le (by simp; omega)]
      (repeat first | refine cT rfl ?_ | refine cT True.intro ?_)
      rfl

theorem op_result_bad {N : Nat} (hN : 20000 ≤ N) (op : Int) (args : List Int) (ins : List T) (hi : ins.length ≤ 1000) (hv : firstBadT ins ≠ .nil) : F_op_result N op args ins = some (noD, ([], (firstBadT ins, ()))) := by
  unfold F_op_result
  have h0 := loop_op_result hN op args ([], (false, ())) ins hi N 0 (by omega) (by omega)
  rw [show ((0 : Nat) : Int) = 0 from rfl, List.drop_zero, List.take_zero, if_neg hv] at h0
  refine bnd _ h0 ?_
  dsimp only [Sum.elim_inr]
  (repeat first | refine cT (Nat.le_of_eq (Nat.zero_add _)) ?_ | refine cT rfl ?_ | refine cT True.intro ?_)
  rfl

theorem op_result_ok {N : Nat} (hN : 20000 ≤ N) (op : Int) (args : List Int) (hargs : args.length ≤ 10000) (ins : List T) (hi : ins.length ≤ 1000) (hv : firstBadT ins = .nil) : F_op_result N op args ins = some ((resV op args (ins.map Prod.fst)).1, (ins.map Prod.fst, ((resV op args (ins.map Prod.fst)).2, ()))) := by
  unfold F_op_result
  have h0 := loop_op_result hN op args ([], (false, ())) ins hi N 0 (by omega) (by omega)
  rw [show ((0 : Nat) : Int) = 0 from rfl, List.drop_zero, List.take_zero, if_pos hv] at h0
  refine bnd _ h0 ?_
  dsimp only [Sum.elim_inl]
  (repeat first | refine cT (Nat.le_of_eq (Nat.zero_add _)) ?_ | refine cT rfl ?_ | refine cT True.intro ?_)
  have hm : List.take (List.length (ins.map Prod.fst)) (ins.map Prod.fst) = ins.map Prod.fst := List.take_length
  rw [hm]
  refine bnd _ (op_Result_spec hN op args hargs _ (by simpa using hi)) ?_
  (repeat first | refine cT (Nat.le_of_eq (Nat.zero_add _)) ?_ | refine cT rfl ?_ | refine cT True.intro ?_)
  rfl

/-- AN ELEMENT, whatever the operation, by the program -/
theorem op_At_spec {N : Nat} (hN : 20000 ≤ N) (op : Int) (args : List Int) (ins : List T) (hv : firstBadT ins = .nil) (hr : (resV op args (ins.map Prod.fst)).2 = .nil) {i : Nat} (hi : (i : Int) < elems (resV op args (ins.map Prod.fst)).1.1) :
    F_op_At N op args i (resV op args (ins.map Prod.fst)).1 (ins.map Prod.fst) ins = some (elAll op args ins (resV op args (ins.map Prod.fst)).1 i, ()) := by
  have hr0 := hr
  have hi0 := hi
  generalize hd : (resV op args (ins.map Prod.fst)).1 = d at *
  unfold resV at hr hd
  by_cases hk : 4 ≤ op ∧ op ≤ 21
  case neg => rw [if_pos hk] at hr; cases hr
  rw [if_neg (fun h => h hk)] at hr hd
  unfold elAll F_op_At
  by_cases h11 : op ≤ 11
  · rw [if_pos h11] at hr hd ⊢
    obtain ⟨p1, p2, p3, p4⟩ := elem_lens hr hv
    obtain ⟨_, _, _, _, _, _, _, h8, e⟩ := elemRes_ok hr
    have hel := elemRes_ok hr
    rw [e] at hd
    subst hd
    rw [p3, ← tensV_len p2] at hi
    have hi' : i < (ins.getD 0 (([], false), [])).2.length := by omega
    have hy : -2147483648 ≤ elY ins i ∧ elY ins i ≤ 2147483647 := by
      unfold elY
      split
      · rename_i hh
        exact tensV_in (p4 hh).1 _
      · omega
    have hval : F_elem_Value N op (ins.getD 0 (([], false), [])).1.2 ((ins.getD 0 (([], false), [])).2.getD i 0) (elY ins i) args = some (elE op args ins i, ()) := by
      rw [elem_Value_spec N op _ (tensV_in p2 i) hy (fun ho => by subst ho; exact elFair_9 h8) (fun ho => by subst ho; have := elFair_11 h8; omega), if_neg (by have := hel.2.1; omega)]
      rfl
    have eD : (ins.map Prod.fst).getD 0 ([], false) = (ins.getD 0 (([], false), [])).1 := by
      match ins, p1 with
      | a :: r, _ => rfl
    refine cT (by simpa using p1) (cF (by omega) (cF (by omega) (cF (by omega) (cF (by omega) (cF (by omega) (cF (by omega) (cF (by omega) (cF (by omega) (cF (by omega) (cF (by omega) ?_))))))))))
    rw [eD]
    by_cases h2 : 1 < ins.length
    · have ey : elY ins i = (ins.getD 1 (([], false), [])).2.getD i 0 := by unfold elY; rw [if_pos h2]
      rw [ey] at hval
      refine cT (by omega) (cT h2 (bnd _ (op_reads_1_spec N _ _ (by rw [(p4 h2).2]; exact hi')) (cT (by simpa using p1) (cT p1 (bnd _ (op_reads_1_spec N _ _ hi') (bnd _ hval rfl))))))
    · have ey : elY ins i = 0 := by unfold elY; rw [if_neg h2]
      rw [ey] at hval
      exact cF (by omega) (cT (by simpa using p1) (cT p1 (bnd _ (op_reads_1_spec N _ _ hi') (bnd _ hval rfl))))
  rw [if_neg h11] at hr hd ⊢
  by_cases hB : ins.length ≠ insN op ∨ (op ≠ 18 ∧ args.length ≠ argN op)
  · rw [List.length_map, if_pos hB] at hr; cases hr
  rw [List.length_map, if_neg hB] at hr hd
  have hn : ins.length = insN op := Decidable.byContradiction fun h => hB (.inl h)
  have ha : op ≠ 18 → args.length = argN op := fun h => Decidable.byContradiction fun h' => hB (.inr ⟨h, h'⟩)
  by_cases h12 : op = 12
  · subst h12
    rw [if_pos rfl] at hr hd ⊢
    match ins, hn with
    | [a, b], _ =>
    obtain ⟨va, vb⟩ := firstBadT_two hv
    match args, ha (by decide) with
    | [x, y], _ =>
    have hr' : (matRes' a b x y).2 = .nil := by unfold matRes'; rw [ifNT (nilT va), ifNT (nilT vb)]; exact hr
    obtain ⟨m, k, n, hm, hk, hn, hmk, hkn, hmn, ea, eb, la, lb, fa, fb, hza, hzb, va, vb⟩ := matRes'_ok hr'
    have H : MulOK a b x y m k n := ⟨hm, hk, hn, la, lb, getD_in fa, getD_in fb, hza, hzb⟩
    have hg := matRes'_good hm hk hn hmk hkn hmn la lb fa fb hza hzb
    have ea1 : a.1.1 = [(m : Int), (k : Int)] := by rw [ea]
    have eb1 : b.1.1 = [(k : Int), (n : Int)] := by rw [eb]
    have hd' : (matRes x y a.1 b.1).1 = ([(m : Int), (n : Int)], true) := by
      have : matRes' a b x y = (([(m : Int), (n : Int)], true), .nil) := by
        obtain ⟨a1, a2⟩ := a
        obtain ⟨b1, b2⟩ := b
        simp only at ea eb
        subst ea
        subst eb
        exact hg
      unfold matRes' at this
      rw [ifNT (nilT va), ifNT (nilT vb)] at this
      rw [this]
    have hi' : i < m * n := by
      rw [← hd] at hi
      change (i : Int) < elems (matRes x y a.1 b.1).1.1 at hi
      rw [hd', elems_two hm hn hmn] at hi
      omega
    simp only [List.map_cons, List.map_nil, List.getD_cons_zero, List.getD_cons_succ, ea1, eb1, Int.toNat_natCast]
    exact cT (by simp) (cT (by first | rfl | exact True.intro) (cT (by simp) (cT (by simp) (cT (by simp) (cT (by simp) (cT (by simp) (cT (by simp) (cT (by simp) (bnd _ (mat_At_spec hN H hi') rfl)))))))))
  rw [if_neg h12] at hr hd ⊢
  by_cases h13 : op = 13
  · subst h13
    rw [if_pos rfl] at hr hd ⊢
    match ins, hn with
    | [a, b], _ =>
    obtain ⟨va, vb⟩ := firstBadT_two hv
    obtain ⟨za, h, w, c, kh, kw, n, s, p, H, ear, wa, wb, q1, q2, g1, g2, g3, e1, e2⟩ := convRes_ok va vb hr
    change (convRes args a.1 b.1).1 = d at hd
    rw [e1] at hd
    rw [e1] at e2
    subst hd
    rw [e2] at hi
    subst ear
    simp only [List.map_cons, List.map_nil, List.getD_cons_zero, List.getD_cons_succ]
    have := conv_At_spec H hN (ow := (w + 2 * p - kw) / s + 1) g2 (i := i) (by omega)
    refine cT (by simp) (cF (by decide) (cT (by first | rfl | exact True.intro) (cT (by simp) (cT (by simp) (cT (by simp) (cT (by simp) (bnd _ this ?_)))))))
    simp only [H.sa, H.sk, List.getD_cons_zero, List.getD_cons_succ, Int.toNat_natCast]
  rw [if_neg h13] at hr hd ⊢
  by_cases h145 : op = 14 ∨ op = 15
  · rw [if_pos h145] at hr hd ⊢
    have hn1 : ins.length = 1 := by rcases h145 with rfl | rfl <;> exact hn
    match ins, hn1 with
    | [a], _ =>
    have va := firstBadT_one hv
    obtain ⟨h, w, c, n, s, H, ear, g3, e1, e2⟩ := poolRes_ok va hr
    change (poolRes args a.1).1 = d at hd
    rw [e1] at hd
    rw [e1] at e2
    subst hd
    rw [e2] at hi
    subst ear
    have hp := fun avg => pool_At_spec H hN avg (i := i) rfl rfl (by omega)
    simp only [List.map_cons, List.map_nil, List.getD_cons_zero, List.getD_cons_succ]
    rcases h145 with rfl | rfl
    · refine cT (by simp) (cF (by decide) (cF (by decide) (cT (by first | rfl | exact True.intro) (cT (by simp) (cT (by simp) (bnd _ (hp _) ?_))))))
      simp only [H.sa, List.getD_cons_zero, List.getD_cons_succ, Int.toNat_natCast]
    · refine cT (by simp) (cF (by decide) (cF (by decide) (cF (by decide) (cT (by first | rfl | exact True.intro) (cT (by simp) (cT (by simp) (bnd _ (hp _) ?_)))))))
      simp only [H.sa, List.getD_cons_zero, List.getD_cons_succ, Int.toNat_natCast]
  rw [if_neg h145] at hr hd ⊢
  by_cases hs : op = 16 ∨ op = 17 ∨ op = 19 ∨ op = 20
  · rw [if_pos hs] at hr hd
    rw [← hd] at hi ⊢
    have hat := soft_At_spec hN hs args ins hv hr hi
    unfold elAll at hat
    rw [if_neg h11, if_neg h12, if_neg h13, if_neg h145] at hat
    have hl1 : 0 < (ins.map Prod.fst).length := by
      rw [List.length_map, hn]
      rcases hs with rfl | rfl | rfl | rfl <;> decide
    refine cT hl1 (cF h12 (cF h13 (cF (fun h => h145 (.inl h)) (cF (fun h => h145 (.inr h)) ?_))))
    by_cases h16 : op = 16
    · exact cT h16 (bnd _ hat rfl)
    refine cF h16 ?_
    by_cases h19 : op = 19
    · exact cT h19 (bnd _ hat rfl)
    refine cF h19 ?_
    by_cases h20 : op = 20
    · exact cT h20 (bnd _ hat rfl)
    exact cF h20 (cT (by omega) (bnd _ hat rfl))
  rw [if_neg hs] at hr hd
  have h16 : op ≠ 16 := fun h => hs (.inl h)
  have h17 : op ≠ 17 := fun h => hs (.inr (.inl h))
  have h19 : op ≠ 19 := fun h => hs (.inr (.inr (.inl h)))
  have h20 : op ≠ 20 := fun h => hs (.inr (.inr (.inr h)))
  rw [if_neg h16, if_neg h17, if_neg h19, if_neg h20]
  by_cases h21 : op = 21
  · subst h21
    rw [if_pos rfl] at hr hd ⊢
    match ins, hn with
    | [a], _ =>
    have va := firstBadT_one hv
    match args, ha (by decide) with
    | [], _ =>
    unfold turnRes at hr hd
    simp only [List.map_cons, List.map_nil, List.getD_cons_zero] at hr hd ⊢
    rw [ifNT (nilT (tensV_shape va))] at hr hd
    by_cases h2 : a.1.1.length = 2
    case neg => rw [if_pos h2] at hr; cases hr
    rw [if_neg (fun h => h h2)] at hd
    obtain ⟨m, n, e, hm, hn, hmn, he⟩ := shape_nat_two (tensV_shape va) h2
    have la := tensV_len va
    rw [he] at la
    subst hd
    rw [e] at hi
    simp only [List.getD_cons_zero, List.getD_cons_succ] at hi
    rw [elems_two hn hm (by rw [Nat.mul_comm]; exact hmn)] at hi
    have hi' : i < m * n := by rw [Nat.mul_comm]; omega
    have hq : i / m < n := Nat.div_lt_of_lt_mul hi'
    have hm' : i % m < m := Nat.mod_lt _ (by omega)
    have hix : i % m * n + i / m < m * n := by
      have : (i % m + 1) * n ≤ m * n := Nat.mul_le_mul_right n hm'
      rw [Nat.add_mul, Nat.one_mul] at this
      omega
    simp only [List.getD_cons_zero, List.getD_cons_succ, e, Int.toNat_natCast]
    rw [wi64_tdiv i m (by omega), tmod_nat, wi64_row (by omega)]
    refine cT (by simp) (cF (by decide) (cF (by decide) (cF (by decide) (cF (by decide) (cF (by decide) (cF (by decide) (cF (by decide) (cF (by decide) (cF (by decide) (cT (by first | rfl | exact True.intro) (cT (by simp) (cT (by simp) (cT (by simp) (cT (by omega) (cT (by omega) ?_)))))))))))))))
    exact bnd _ (op_reads_1_spec N _ a (by omega)) rfl
  rw [if_neg h21] at hr hd ⊢
  have h18 : op = 18 := by omega
  subst h18
  match ins, hn with
  | [a], _ =>
  have va := firstBadT_one hv
  unfold reshRes at hr hd
  simp only [List.map_cons, List.map_nil, List.getD_cons_zero] at hr hd ⊢
  rw [ifNT (nilT (tensV_shape va))] at hr hd
  by_cases hsv : shapeV args = .nil
  case neg => rw [ifNF (isNil_false hsv)] at hr; exact absurd hr hsv
  rw [ifNT (nilT hsv)] at hr hd
  by_cases he : elems args = elems a.1.1
  case neg => rw [if_pos he] at hr; cases hr
  rw [if_neg (fun h => h he)] at hd
  subst hd
  have la := tensV_len va
  simp only at hi
  rw [he, ← la] at hi
  exact cT (by simp) (cF (by decide) (cF (by decide) (cF (by decide) (cF (by decide) (cF (by decide) (cF (by decide) (cF (by decide) (cF (by decide) (cT (by first | rfl | exact True.intro) (cT (by simp) (bnd _ (op_reads_1_spec N _ a (by omega)) rfl)))))))))))

theorem loop_op_Apply (N : Nat) (op : Int) (args : List Int) (t : List Int × (Bool × (List Int × Unit))) (d : D) (ds : List D) (ins : List T) (sz : Nat) (hsz : sz ≤ 1000000) (f : Nat → Int)
    (hf : ∀ i, i < sz → F_op_At N op args i d ds ins = some (f i, ())) : ∀ (cnt i : Nat), i ≤ sz → sz < cnt + i →
    g_op_Apply_0 N cnt op args t (d, ()) ds (boxT d.1 d.2 ((List.range i).map f)) ins sz i = some (t, (boxT d.1 d.2 ((List.range sz).map f), ()))
  | 0, i, h, h' => by omega
  | cnt + 1, i, h, h' => by
    rw [g_op_Apply_0]
    by_cases hi' : i < sz
    · have e : List.take (List.length ((List.range i).map f)) ((List.range i).map f) ++ [f i] = (List.range (i + 1)).map f := by
        rw [List.take_length, List.range_succ, List.map_append]
        rfl
      have hm : List.take (List.length ins) ins = ins := List.take_length
      refine cT (by omega) (cT (by simp) ?_)
      rw [hm]
      refine bnd _ (hf i hi') ?_
      refine cT (by omega) (cT (by simp [most]; omega) ?_)
      (repeat first | refine cT rfl ?_ | refine cT True.intro ?_)
      dsimp only
      rw [e]
      refine cT (by simp) ?_
      (repeat first | refine cT rfl ?_ | refine cT True.intro ?_)
      rw [wi64_succ (by omega)]
      exact loop_op_Apply N op args t d ds ins sz hsz f hf cnt (i + 1) hi' (by omega)
    · have : i = sz := by omega
      subst this
      refine cF (by omega) ?_
      (repeat first | refine cT rfl ?_ | refine cT True.intro ?_)
      rfl

theorem op_Apply_spec {N : Nat} (hN : 20000 ≤ N) (op : Int) (args : List Int) (hargs : args.length ≤ 10000) (ins : List T) (hi : ins.length ≤ 1000) : F_op_Apply N op args ins = some (boxT (appV op args ins).1.1.1 (appV op args ins).1.1.2 (appV op args ins).1.2, ((appV op args ins).2, ())) := by
  unfold F_op_Apply appV
  by_cases hv : firstBadT ins = .nil
  case neg =>
    rw [if_pos hv]
    refine bnd _ (op_result_bad hN op args ins hi hv) (bT (by simp [isNil_false hv]) rfl)
  rw [if_neg (fun h => h hv)]
  refine bnd _ (op_result_ok hN op args hargs ins hi hv) ?_
  by_cases hr : (resV op args (ins.map Prod.fst)).2 = .nil
  case neg =>
    rw [if_pos hr]
    exact bT (by simp [isNil_false hr]) rfl
  rw [if_neg (fun h => h hr)]
  have hb := elems_bound (resV op args (ins.map Prod.fst)).1.1
  refine bF (by simp [hr, Er.isNil]) (bnd _ (op_reads_spec hN ins hi) (bnd _ (shape_Elems_spec hN _) ?_))
  (repeat first | refine cT rfl ?_ | refine cT True.intro ?_)
  have h1 := loop_op_Apply N op args ([], (false, ([], ()))) (resV op args (ins.map Prod.fst)).1 (ins.map Prod.fst) ins (elems (resV op args (ins.map Prod.fst)).1.1).toNat (by omega) (elAll op args ins (resV op args (ins.map Prod.fst)).1)
    (fun i h => op_At_spec hN op args ins hv hr (by omega)) N 0 (by omega) (by omega)
  rw [show ((0 : Nat) : Int) = 0 from rfl, show (((elems (resV op args (ins.map Prod.fst)).1.1).toNat : Nat) : Int) = elems (resV op args (ins.map Prod.fst)).1.1 by omega] at h1
  refine bnd _ h1 ?_
  (repeat first | refine cT rfl ?_ | refine cT True.intro ?_)
  rfl

theorem op_Element_spec {N : Nat} (hN : 20000 ≤ N) (op : Int) (args : List Int) (hargs : args.length ≤ 10000) (i : Int) (ins : List T) (hi : ins.length ≤ 1000) : F_op_Element N op args i ins = some (elmV op args i ins, ()) := by
  unfold F_op_Element elmV
  by_cases hv : firstBadT ins = .nil
  case neg =>
    rw [if_pos hv]
    refine bnd _ (op_result_bad hN op args ins hi hv) (bT (by simp [isNil_false hv]) rfl)
  rw [if_neg (fun h => h hv)]
  refine bnd _ (op_result_ok hN op args hargs ins hi hv) ?_
  by_cases hr : (resV op args (ins.map Prod.fst)).2 = .nil
  case neg =>
    rw [if_pos hr]
    exact bT (by simp [isNil_false hr]) rfl
  rw [if_neg (fun h => h hr)]
  refine bF (by simp [hr, Er.isNil]) ?_
  by_cases h0 : 0 ≤ i
  case neg => rw [if_neg (fun h => h0 h.1)]; exact cT (by omega) rfl
  refine cF (by omega) (bnd _ (shape_Elems_spec hN _) ?_)
  by_cases h1 : i < elems (resV op args (ins.map Prod.fst)).1.1
  case neg => rw [if_neg (fun h => h1 h.2)]; exact cT (by dsimp only; omega) rfl
  rw [if_pos ⟨h0, h1⟩]
  refine cF (by dsimp only; omega) (bnd _ (op_reads_spec hN ins hi) (cT (by simp) ?_))
  have hm : List.take (List.length ins) ins = ins := List.take_length
  dsimp only
  rw [hm]
  have := op_At_spec hN op args ins hv hr (i := i.toNat) (by omega)
  rw [show ((i.toNat : Nat) : Int) = i by omega] at this
  exact bnd _ this rfl

end Go.Proofs.YtnblnlanicpagaaDoor.Lg
