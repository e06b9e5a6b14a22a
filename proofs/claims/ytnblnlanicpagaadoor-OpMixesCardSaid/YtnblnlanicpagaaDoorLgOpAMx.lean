/-
  What the program's functions come to, in plain words.
-/
import Derived.Test.YtnblnlanicpagaaDoorLgOpAEl
namespace Go.Proofs.YtnblnlanicpagaaDoor.Lg
open Go Go.Eng Go.Proofs

theorem appV_ok {op : Int} {args : List Int} {ins : List T} (hv : firstBadT ins = .nil) {d : D} (hr : resV op args (ins.map Prod.fst) = (d, .nil)) {sz : Nat} (hs : elems d.1 = (sz : Int)) : appV op args ins = ((d, (List.range sz).map (elAll op args ins d)), .nil) := by
  unfold appV
  rw [if_neg (fun h => h hv), hr, if_neg (by simp)]
  dsimp only
  rw [hs, Int.toNat_natCast]

theorem bad1 {a : T} (h : tensV a = .nil) : firstBadT [a] = .nil := by
  unfold firstBadT firstBadT
  rw [ifT (nilT h)]

theorem bad2 {a b : T} (h : tensV a = .nil) (h' : tensV b = .nil) : firstBadT [a, b] = .nil := by
  unfold firstBadT firstBadT firstBadT
  rw [ifT (nilT h), ifT (nilT h')]

theorem badD1 {a : D} (h : shapeV a.1 = .nil) : firstBad [a] = .nil := by
  unfold firstBad firstBad
  rw [ifT (nilT h)]

theorem badD2 {a b : D} (h : shapeV a.1 = .nil) (h' : shapeV b.1 = .nil) : firstBad [a, b] = .nil := by
  unfold firstBad firstBad firstBad
  rw [ifT (nilT h), ifT (nilT h')]

theorem app_el1 {op : Int} (hop : op = 8 ∨ op = 11) {args : List Int} {sh : List Int} {w : Bool} {n : Nat} {f : Nat → Int} (hsh : shapeV sh = .nil) (he : elems sh = (n : Int)) (hf : ∀ i, i < n → fitsB w (f i) = true) (ha : args.length = elN op) (h11 : op = 11 → w = false) (hfair : elFair op args w = true) :
    appV op args [((sh, w), (List.range n).map f)] = (((sh, elWide op w), (List.range n).map (fun i => elV op w (f i) 0 args)), .nil) := by
  have hr : resV op args [(sh, w)] = ((sh, elWide op w), .nil) := by
    have e : resV op args [(sh, w)] = elemRes op args [(sh, w)] := by
      unfold resV
      rw [if_neg (by omega), if_pos (by omega)]
    have ek : elK op = 1 := by rcases hop with rfl | rfl <;> rfl
    rw [e]
    unfold elemRes
    rw [if_neg (by omega), if_neg (by rw [ha, ek]; simp), ifNT (nilT (badD1 hsh)), if_neg (by rw [ek]; simp only [List.getD_cons_zero]; rintro (h | h | h); exact absurd h.1 (by decide); omega; have := h11 h.1; rw [this] at h; cases h.2)]
    simp only [List.getD_cons_zero]
    rw [if_neg (by rw [hfair]; simp)]
  rw [appV_ok (bad1 (tensV_mk (d := (sh, w)) hsh he hf)) hr he]
  congr 2
  apply List.map_congr_left
  intro i hi
  have hi' : i < n := by simpa using hi
  unfold elAll
  rw [if_pos (by omega)]
  unfold elE elY
  rw [if_neg (by simp)]
  simp only [List.getD_cons_zero]
  rw [getD_map_range f hi']

theorem app_el2 {op : Int} (hop : op = 4 ∨ op = 5 ∨ op = 6 ∨ op = 7) {sh : List Int} {w : Bool} {n : Nat} {f g : Nat → Int} (hsh : shapeV sh = .nil) (he : elems sh = (n : Int)) (hf : ∀ i, i < n → fitsB w (f i) = true) (hg : ∀ i, i < n → fitsB w (g i) = true) :
    appV op [] [((sh, w), (List.range n).map f), ((sh, w), (List.range n).map g)] = (((sh, w), (List.range n).map (fun i => elV op w (f i) (g i) [])), .nil) := by
  have hr : resV op [] [(sh, w), (sh, w)] = ((sh, w), .nil) := by
    have e : resV op [] [(sh, w), (sh, w)] = elemRes op [] [(sh, w), (sh, w)] := by
      unfold resV
      rw [if_neg (by omega), if_pos (by omega)]
    have ek : elK op = 2 := by rcases hop with rfl | rfl | rfl | rfl <;> rfl
    have en : elN op = 0 := by rcases hop with rfl | rfl | rfl | rfl <;> rfl
    have ew : elWide op w = w := by rcases hop with rfl | rfl | rfl | rfl <;> rfl
    have ef : elFair op [] w = true := by rcases hop with rfl | rfl | rfl | rfl <;> rfl
    rw [e]
    unfold elemRes
    rw [if_neg (by omega), if_neg (by rw [ek, en]; simp), ifNT (nilT (badD2 hsh hsh)), if_neg (by simp only [List.getD_cons_zero, List.getD_cons_succ]; rintro (h | h | h); exact h.2 rfl; omega; omega)]
    simp only [List.getD_cons_zero]
    rw [ef, ew, if_neg (by simp)]
  rw [appV_ok (bad2 (tensV_mk (d := (sh, w)) hsh he hf) (tensV_mk (d := (sh, w)) hsh he hg)) hr he]
  congr 2
  apply List.map_congr_left
  intro i hi
  have hi' : i < n := by simpa using hi
  unfold elAll
  rw [if_pos (by omega)]
  unfold elE elY
  rw [if_pos (by simp)]
  simp only [List.getD_cons_zero, List.getD_cons_succ]
  rw [getD_map_range f hi', getD_map_range g hi']

def mxA (l : List Int) (p : Nat) : Int := l.getD p 0 % 256 - 128

def mxB (l : List Int) (p : Nat) : Int := wi64 (wi64 (l.getD p 0 * 7) + (p : Int)) % 256 - 128

theorem mxA_in (l : List Int) (p : Nat) : -128 ≤ mxA l p ∧ mxA l p ≤ 127 := by unfold mxA; omega

theorem mxB_in (l : List Int) (p : Nat) : -128 ≤ mxB l p ∧ mxB l p ≤ 127 := by unfold mxB; omega

theorem loop_OpMixes_0 (N : Nat) (l : List Int) (hl : l.length ≤ 1000) : ∀ (cnt i : Nat), i ≤ l.length → l.length < cnt + i →
    g_lodgelaw12_OpMixes_0 N cnt l l.length (boxT [1, (l.length : Int)] false ((List.range i).map (mxA l))) (boxT [(l.length : Int), 1] false ((List.range i).map (mxB l))) i = some (boxT [1, (l.length : Int)] false ((List.range l.length).map (mxA l)), (boxT [(l.length : Int), 1] false ((List.range l.length).map (mxB l)), ()))
  | 0, i, h, h' => by omega
  | cnt + 1, i, h, h' => by
    rw [g_lodgelaw12_OpMixes_0]
    by_cases hi : i < l.length
    · have e1 : List.take (List.length ((List.range i).map (mxA l))) ((List.range i).map (mxA l)) ++ [l.getD i 0 % 256 - 128] = (List.range (i + 1)).map (mxA l) := by
        rw [List.take_length, List.range_succ, List.map_append]
        rfl
      have e2 : List.take (List.length ((List.range i).map (mxB l))) ((List.range i).map (mxB l)) ++ [wi64 (wi64 (l.getD i 0 * 7) + (i : Int)) % 256 - 128] = (List.range (i + 1)).map (mxB l) := by
        rw [List.take_length, List.range_succ, List.map_append]
        rfl
      refine cT (by omega) (cT (by omega) (cT (by simpa using hi) ?_))
      rw [Int.toNat_natCast]
      refine bnd _ (lodgeworld_Number_spec N _ _ (by omega) (by omega)) (cT (by omega) (cT (by simp [most]; omega) (cT (by omega) (cT hi ?_))))
      refine bnd _ (lodgeworld_Number_spec N _ _ (by omega) (by omega)) (cT (by omega) (cT (by simp [most]; omega) (cT (by first | rfl | exact True.intro) ?_)))
      dsimp only
      rw [wi64_in (n := l.getD i 0 % 256 - 128) (by omega) (by omega), wi64_in (n := wi64 (wi64 (l.getD i 0 * 7) + (i : Int)) % 256 - 128) (by omega) (by omega), e1, e2]
      refine cT (by simp) (cT (by first | rfl | exact True.intro) (cT (by simp) ?_))
      rw [wi64_succ (by omega)]
      exact loop_OpMixes_0 N l hl cnt (i + 1) hi (by omega)
    · have : i = l.length := by omega
      subst this
      refine cF (by omega) ?_
      (repeat first | refine cT rfl ?_ | refine cT True.intro ?_)
      rfl

theorem OpMixes_plain {n : Nat} {a b : Nat → Int} (hn : 1 ≤ n ∧ n ≤ 40) (ha : ∀ i, -128 ≤ a i ∧ a i ≤ 127) (hb : ∀ i, -128 ≤ b i ∧ b i ≤ 127) :
    ∃ S : Int, appV 12 [0, 0] [(([1, (n : Int)], false), (List.range n).map a), (([(n : Int), 1], false), (List.range n).map b)] = ((([1, 1], true), [S]), .nil) ∧
      appV 21 [] [(([(n : Int), 1], false), (List.range n).map b)] = ((([1, (n : Int)], false), (List.range n).map b), .nil) ∧
      appV 11 [0] [(([1, (n : Int)], false), (List.range n).map a)] = ((([1, (n : Int)], true), (List.range n).map a), .nil) ∧
      appV 11 [0] [(([1, (n : Int)], false), (List.range n).map b)] = ((([1, (n : Int)], true), (List.range n).map b), .nil) ∧
      appV 6 [] [(([1, (n : Int)], true), (List.range n).map a), (([1, (n : Int)], true), (List.range n).map b)] = ((([1, (n : Int)], true), (List.range n).map (fun i => a i * b i)), .nil) ∧
      appV 20 [] [(([1, (n : Int)], true), (List.range n).map (fun i => a i * b i))] = ((([1], true), [S]), .nil) ∧
      appV 7 [] [(([1, (n : Int)], false), (List.range n).map a), (([1, (n : Int)], false), (List.range n).map b)] = ((([1, (n : Int)], false), (List.range n).map (fun i => max (a i) (b i))), .nil) ∧
      appV 5 [] [(([1, (n : Int)], true), (List.range n).map a), (([1, (n : Int)], true), (List.range n).map b)] = ((([1, (n : Int)], true), (List.range n).map (fun i => a i - b i)), .nil) ∧
      appV 8 [] [(([1, (n : Int)], true), (List.range n).map (fun i => a i - b i))] = ((([1, (n : Int)], true), (List.range n).map (fun i => max (a i - b i) 0)), .nil) ∧
      appV 4 [] [(([1, (n : Int)], true), (List.range n).map (fun i => max (a i - b i) 0)), (([1, (n : Int)], true), (List.range n).map b)] = ((([1, (n : Int)], true), (List.range n).map (fun i => max (a i) (b i))), .nil) ∧
      appV 11 [0] [(([1, (n : Int)], false), (List.range n).map (fun i => max (a i) (b i)))] = ((([1, (n : Int)], true), (List.range n).map (fun i => max (a i) (b i))), .nil) := by
  have s1 : shapeV [1, (n : Int)] = .nil := shapeV_two (m := 1) (k := n) (by omega) (by omega) (by omega)
  have z1 : elems [1, (n : Int)] = (n : Int) := by
    have := elems_two (m := 1) (k := n) (by omega) (by omega) (by omega)
    rw [Nat.one_mul] at this
    exact this
  have s2 : shapeV [(n : Int), 1] = .nil := shapeV_two (m := n) (k := 1) (by omega) (by omega) (by omega)
  have z2 : elems [(n : Int), 1] = (n : Int) := by
    have := elems_two (m := n) (k := 1) (by omega) (by omega) (by omega)
    rw [Nat.mul_one] at this
    exact this
  have nA : ∀ i, i < n → fitsB false (a i) = true := fun i _ => fitsB_narrow.2 (ha i)
  have nB : ∀ i, i < n → fitsB false (b i) = true := fun i _ => fitsB_narrow.2 (hb i)
  have wA : ∀ i, i < n → fitsB true (a i) = true := fun i _ => fitsB_wide.2 (by have := ha i; omega)
  have wB : ∀ i, i < n → fitsB true (b i) = true := fun i _ => fitsB_wide.2 (by have := hb i; omega)
  have hmul : ∀ i, -65536 ≤ a i * b i ∧ a i * b i ≤ 65536 := fun i => mul_abs (A := 256) (B := 256) (by have := ha i; omega) (by have := ha i; omega) (by have := hb i; omega) (by have := hb i; omega)
  refine ⟨round32 (sumN (fun i => a i * b i) n), ?_, ?_, ?_, ?_, ?_, ?_, ?_, ?_, ?_, ?_, ?_⟩
  · have hr : resV 12 [0, 0] [([1, (n : Int)], false), ([(n : Int), 1], false)] = (([1, 1], true), .nil) := by
      have e : resV 12 [0, 0] [([1, (n : Int)], false), ([(n : Int), 1], false)] = matRes 0 0 ([1, (n : Int)], false) ([(n : Int), 1], false) := by
        unfold resV
        rw [if_neg (by simp), if_neg (by simp), if_neg (by simp [insN, argN]), if_pos rfl]
        rfl
      rw [e]
      unfold matRes
      rw [ifNT (nilT s1), ifNT (nilT s2), if_neg (by simp), if_neg (by simp [narrowB])]
      rw [show [([1, (n : Int)] : List Int).getD 0 0, ([(n : Int), 1] : List Int).getD 1 0] = [1, 1] from rfl, ifT (nilT (show shapeV [1, 1] = .nil by decide))]
    rw [appV_ok (bad2 (tensV_mk (d := ([1, (n : Int)], false)) s1 z1 nA) (tensV_mk (d := ([(n : Int), 1], false)) s2 z2 nB)) hr (sz := 1) (by decide)]
    congr 3
    change [elAll 12 [0, 0] _ _ 0] = _
    congr 1
    have e : elAll 12 [0, 0] [(([1, (n : Int)], false), (List.range n).map a), (([(n : Int), 1], false), (List.range n).map b)] ([1, 1], true) 0 = mulC ((List.range n).map a) ((List.range n).map b) 0 0 n 1 0 := by
      unfold elAll
      simp
    rw [e]
    unfold mulC
    congr 1
    apply sumN_congr
    intro x hx
    unfold mulF
    rw [Nat.zero_div, Nat.zero_mul, Nat.zero_add, Nat.mul_one, Nat.zero_mod, Nat.add_zero, getD_map_range a hx, getD_map_range b hx, Int.sub_zero, Int.sub_zero]
  · have hr : resV 21 [] [([(n : Int), 1], false)] = (([1, (n : Int)], false), .nil) := by
      have e : resV 21 [] [([(n : Int), 1], false)] = turnRes ([(n : Int), 1], false) := by
        unfold resV
        rw [if_neg (by simp), if_neg (by simp), if_neg (by simp [insN, argN]), if_neg (by simp), if_neg (by simp), if_neg (by simp), if_neg (by simp), if_pos rfl]
        rfl
      rw [e]
      unfold turnRes
      rw [ifNT (nilT s2), if_neg (by simp)]
      rfl
    rw [appV_ok (bad1 (tensV_mk (d := ([(n : Int), 1], false)) s2 z2 nB)) hr z1]
    congr 2
    apply List.map_congr_left
    intro i hi
    have hi' : i < n := by simpa using hi
    have e : elAll 21 [] [(([(n : Int), 1], false), (List.range n).map b)] ([1, (n : Int)], false) i = ((List.range n).map b).getD (i % n * 1 + i / n) 0 := by
      unfold elAll
      simp
    rw [e, Nat.mod_eq_of_lt hi', Nat.div_eq_of_lt hi', Nat.mul_one, Nat.add_zero, getD_map_range b hi']
  · rw [app_el1 (.inr rfl) s1 z1 nA rfl (fun _ => rfl) (by decide)]
    congr 2
    apply List.map_congr_left
    intro i _
    change a i - 0 = a i
    omega
  · rw [app_el1 (.inr rfl) s1 z1 nB rfl (fun _ => rfl) (by decide)]
    congr 2
    apply List.map_congr_left
    intro i _
    change b i - 0 = b i
    omega
  · rw [app_el2 (.inr (.inr (.inl rfl))) s1 z1 wA wB]
    congr 2
    apply List.map_congr_left
    intro i _
    change round32 (a i * b i) = a i * b i
    exact round32_in (by have := hmul i; omega)
  · have hr : resV 20 [] [([1, (n : Int)], true)] = (([1], true), .nil) := by
      rw [show resV 20 [] [([1, (n : Int)], true)] = softRes 20 [([1, (n : Int)], true)] from by
        unfold resV
        rw [if_neg (by simp), if_neg (by simp), if_neg (by simp [insN, argN]), if_neg (by simp), if_neg (by simp), if_neg (by simp), if_pos (by simp)]]
      unfold softRes
      rw [if_neg (by simp), if_neg (by simp [softK]), ifNT (nilT (badD1 (a := ([1, (n : Int)], true)) s1)), if_neg (by decide), if_neg (by decide), if_neg (by simp)]
      rfl
    rw [appV_ok (bad1 (tensV_mk (d := ([1, (n : Int)], true)) s1 z1 (fun i _ => fitsB_wide.2 (by have := hmul i; omega)))) hr (sz := 1) (by decide)]
    congr 3
    change [elAll 20 [] _ _ 0] = _
    congr 1
    have e : elAll 20 [] [(([1, (n : Int)], true), (List.range n).map (fun i => a i * b i))] ([1], true) 0 = round32 (sumN (rowF ((List.range n).map (fun i => a i * b i)) n 0) n) := by
      unfold elAll
      simp
    rw [e]
    congr 1
    apply sumN_congr
    intro x hx
    unfold rowF
    rw [Nat.zero_mul, Nat.zero_add, getD_map_range (fun i => a i * b i) hx]
  · rw [app_el2 (.inr (.inr (.inr rfl))) s1 z1 nA nB]
    rfl
  · rw [app_el2 (.inr (.inl rfl)) s1 z1 wA wB]
    congr 2
    apply List.map_congr_left
    intro i _
    change round32 (a i - b i) = a i - b i
    exact round32_in (by have := ha i; have := hb i; omega)
  · rw [app_el1 (.inl rfl) s1 z1 (fun i _ => fitsB_wide.2 (by have := ha i; have := hb i; omega)) rfl (by omega) (by decide)]
    rfl
  · rw [app_el2 (.inl rfl) s1 z1 (fun i _ => fitsB_wide.2 (by have := ha i; have := hb i; omega)) wB]
    congr 2
    apply List.map_congr_left
    intro i _
    change round32 (max (a i - b i) 0 + b i) = max (a i) (b i)
    rw [round32_in (by have := ha i; have := hb i; omega)]
    omega
  · rw [app_el1 (.inr rfl) s1 z1 (fun i _ => fitsB_narrow.2 (by have := ha i; have := hb i; omega)) rfl (fun _ => rfl) (by decide)]
    congr 2
    apply List.map_congr_left
    intro i _
    change max (a i) (b i) - 0 = max (a i) (b i)
    omega

theorem OpMixes_law {N : Nat} (hN : 20000 ≤ N) (h1st : F_lodgelaw12_first N = some (true, ())) (l : List Int) : F_lodgelaw12_OpMixes N l = some (true, ()) := by
  unfold F_lodgelaw12_OpMixes
  refine bnd _ h1st (bF rfl ?_)
  refine bnd (l, (true, (decide ((40 : Int) < (l.length : Int) ∨ (l.length : Int) = 0), ()))) ?_ ?_
  · by_cases h : (40 : Int) < (l.length : Int)
    · refine cT h ?_
      rw [decide_eq_true (p := _ ∨ _) (.inl h)]
    refine cF h ?_
    by_cases h' : (l.length : Int) = 0
    · refine cT h' ?_
      rw [decide_eq_true (p := _ ∨ _) (.inr h')]
    refine cF h' ?_
    rw [decide_eq_false (p := _ ∨ _) (by omega)]
    rfl
  by_cases hB : (40 : Int) < (l.length : Int) ∨ (l.length : Int) = 0
  · exact bT (decide_eq_true hB) rfl
  refine bF (decide_eq_false hB) ?_
  (try dsimp only)
  have n1 : 1 ≤ l.length ∧ l.length ≤ 40 := by omega
  have h0 := loop_OpMixes_0 N l (by omega) N 0 (by omega) (by omega)
  rw [show ((0 : Nat) : Int) = 0 from rfl, List.range_zero, List.map_nil, List.map_nil] at h0
  refine bnd _ h0 ?_
  obtain ⟨S, q1, q2, q3, q4, q5, q6, q7, q8, q9, q10, q11⟩ := OpMixes_plain n1 (mxA_in l) (mxB_in l)
  have lA : ((List.range l.length).map (mxA l)).length = l.length := by simp
  have lB : ((List.range l.length).map (mxB l)).length = l.length := by simp
  have lM : ((List.range l.length).map (fun i => max (mxA l i) (mxB l i))).length = l.length := by simp
  generalize (List.range l.length).map (mxA l) = A at *
  generalize (List.range l.length).map (mxB l) = B at *
  generalize (List.range l.length).map (fun i => mxA l i * mxB l i) = Z at *
  generalize (List.range l.length).map (fun i => mxA l i - mxB l i) = D1 at *
  generalize (List.range l.length).map (fun i => max (mxA l i - mxB l i) 0) = R1 at *
  generalize (List.range l.length).map (fun i => max (mxA l i) (mxB l i)) = M at *
  have Ap := fun (op : Int) (args : List Int) (ins : List T) (h1 : args.length ≤ 10000) (h2 : ins.length ≤ 1000) (t : T) (h : appV op args ins = (t, .nil)) => show F_op_Apply N op args ins = some (boxT t.1.1 t.1.2 t.2, (.nil, ())) from by rw [op_Apply_spec hN op args h1 ins h2, h]
  refine cT (by simp) (cT (by simp) (cT (by simp) (cT (by simp) ?_)))
  (try dsimp only)
  (try simp only [List.take_length])
  refine bnd _ (Ap 12 [0, 0] _ (by simp) (by simp) _ q1) (cT (by simp) (cT (by simp) ?_))
  refine bnd _ (Ap 21 [] _ (by simp) (by simp) _ q2) (cT (by simp) (cT (by simp) ?_))
  refine bnd _ (Ap 11 [0] _ (by simp) (by simp) _ q3) (cT (by simp) ?_)
  (try dsimp only)
  (try simp only [List.take_length])
  refine bnd _ (Ap 11 [0] _ (by simp) (by simp) _ q4) (cT (by simp) (cT (by simp) ?_))
  (try dsimp only)
  (try simp only [List.take_length])
  refine bnd _ (Ap 6 [] _ (by simp) (by simp) _ q5) (cT (by simp) ?_)
  (try dsimp only)
  (try simp only [List.take_length])
  refine bnd _ (Ap 20 [] _ (by simp) (by simp) _ q6) (cT (by simp) (cT (by simp) (cT (by simp) ?_)))
  refine bnd _ (Ap 7 [] _ (by simp) (by simp) _ q7) (cT (by simp) (cT (by simp) ?_))
  refine bnd _ (Ap 5 [] _ (by simp) (by simp) _ q8) (cT (by simp) ?_)
  (try dsimp only)
  (try simp only [List.take_length])
  refine bnd _ (Ap 8 [] _ (by simp) (by simp) _ q9) (cT (by simp) (cT (by simp) ?_))
  (try dsimp only)
  (try simp only [List.take_length])
  refine bnd _ (Ap 4 [] _ (by simp) (by simp) _ q10) (cT (by simp) ?_)
  (try dsimp only)
  (try simp only [List.take_length])
  refine bnd _ (Ap 11 [0] _ (by simp) (by simp) _ q11) ?_
  refine bnd (boxT [1, 1] true [S], (boxT [1] true [S], (boxT [1, (l.length : Int)] true M, (boxT [1, (l.length : Int)] true M, (false, ()))))) ?_ ?_
  · refine bF rfl (bF rfl (bF rfl (bF rfl (bF rfl (bF rfl (bF rfl (bF rfl (bF rfl (bF rfl ?_)))))))))
    (repeat first | refine cT rfl ?_ | refine cT True.intro ?_)
    rfl
  refine bF rfl (cT (by simp) (cT (by simp) ?_))
  (try dsimp only)
  refine bnd _ (lodgeref_SameInts_spec _ _ (by simp) (by simp; omega)) (bT (by simp) (cT (by simp) (cT (by simp) ?_)))
  (try dsimp only)
  (try simp only [List.take_length])
  refine bnd _ (lodgeref_SameInts_spec _ _ (by omega) (by omega)) ?_
  simp

theorem OpMixes_row {N : Nat} (hN : N = 100000) (x : Val (rowTy ps_lodgelaw12_OpMixes)) (_ : FitsL ps_lodgelaw12_OpMixes x) : (c_lodgelaw12_OpMixes N).g x = some (true, ()) := by
  have h1 := op_first hN
  exact OpMixes_law (by omega) h1 _

end Go.Proofs.YtnblnlanicpagaaDoor.Lg
