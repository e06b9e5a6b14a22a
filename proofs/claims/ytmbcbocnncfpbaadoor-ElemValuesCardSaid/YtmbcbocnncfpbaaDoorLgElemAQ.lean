/-
  What the program's functions come to, in plain words.
-/
import Derived.Test.YtmbcbocnncfpbaaDoorLgElemAP
namespace Go.Proofs.YtmbcbocnncfpbaaDoor.Lg
open Go Go.Eng Go.Proofs

theorem three_idx {a b c i j k : Nat} (hi : i < a) (hj : j < b) (hk : k < c) : (i * b + j) * c + k < a * b * c := by
  have h1 : i * b + j < a * b := by
    have : (i + 1) * b ≤ a * b := Nat.mul_le_mul_right b hi
    rw [Nat.add_mul] at this
    omega
  have : (i * b + j + 1) * c ≤ a * b * c := Nat.mul_le_mul_right c h1
  rw [Nat.add_mul] at this
  omega

/-! pools, by the document -/

def poolSh (n s : Int) (a : List Int) : List Int := [(a.getD 0 0 - n) / s + 1, (a.getD 1 0 - n) / s + 1, a.getD 2 0]

def poolRes (ar : List Int) (a : D) : D × Er :=
  if ar.length ≠ 2 then (noD, .s ErrShape)
  else if !(shapeV a.1).isNil then (noD, shapeV a.1)
  else if a.1.length ≠ 3 then (noD, .s ErrShape)
  else if ar.getD 0 0 < 1 ∨ 16 < ar.getD 0 0 ∨ ar.getD 1 0 < 1 ∨ 16 < ar.getD 1 0 then (noD, .s ErrRange)
  else if a.1.getD 0 0 < ar.getD 0 0 ∨ a.1.getD 1 0 < ar.getD 0 0 then (noD, .s ErrShape)
  else ((poolSh (ar.getD 0 0) (ar.getD 1 0) a.1, a.2), .nil)

theorem poolRes_bare (ar : List Int) (a : D) : bareE (poolRes ar a).2 := by
  unfold poolRes
  repeat' split
  all_goals first | exact True.intro | (dsimp only; exact shapeV_bare _)

theorem poolRes_OK (ar : List Int) (a : D) : erOK (poolRes ar a).2 := by
  unfold poolRes
  repeat' split
  all_goals first | exact True.intro | exact (show ErrShape < 21 by decide) | exact (show ErrRange < 21 by decide) | (dsimp only; exact shapeV_OK _)

theorem poolSh_nat {h w c n s : Nat} (hn : 1 ≤ n) (hs : 1 ≤ s) (h1 : n ≤ h) (h2 : n ≤ w) : poolSh (n : Int) (s : Int) [(h : Int), (w : Int), (c : Int)] = [(((h - n) / s + 1 : Nat) : Int), (((w - n) / s + 1 : Nat) : Int), (c : Int)] := by
  unfold poolSh
  simp only [List.getD_cons_zero, List.getD_cons_succ]
  rw [show (h : Int) - n = ((h - n : Nat) : Int) by omega, show (w : Int) - n = ((w - n : Nat) : Int) by omega]
  simp

theorem pool_dim {h n s : Nat} (hn : 1 ≤ n) (hs : 1 ≤ s) (h1 : n ≤ h) : 1 ≤ (h - n) / s + 1 ∧ (h - n) / s + 1 ≤ h := by
  have := Nat.div_le_self (h - n) s
  generalize (h - n) / s = q at *
  omega

theorem pool_prod {h w c n s : Nat} (hn : 1 ≤ n) (hs : 1 ≤ s) (h1 : n ≤ h) (h2 : n ≤ w) (hp : h * w * c ≤ 16384) : ((h - n) / s + 1) * ((w - n) / s + 1) * c ≤ 16384 :=
  Nat.le_trans (Nat.mul_le_mul_right c (Nat.mul_le_mul (pool_dim hn hs h1).2 (pool_dim hn hs h2).2)) hp

/-- the greatest of the first ones -/
def mx (f : Nat → Int) : Nat → Int
  | 0 => f 0
  | k + 1 => max (mx f k) (f (k + 1))

def bst (f : Nat → Int) : Nat → Int
  | 0 => 0
  | k + 1 => mx f k

theorem mx_bound {f : Nat → Int} {lo hi : Int} (h : ∀ i, lo ≤ f i ∧ f i ≤ hi) : ∀ k, lo ≤ mx f k ∧ mx f k ≤ hi
  | 0 => h 0
  | k + 1 => by
    have := mx_bound h k
    have := h (k + 1)
    simp only [mx]
    omega

theorem mx_ge {f : Nat → Int} : ∀ {k i : Nat}, i ≤ k → f i ≤ mx f k
  | 0, i, h => by
    have : i = 0 := by omega
    subst this
    exact Int.le_refl _
  | k + 1, i, h => by
    simp only [mx]
    by_cases e : i = k + 1
    · subst e; omega
    · have := mx_ge (f := f) (k := k) (i := i) (by omega)
      omega

/-- what a pool is made of -/
structure PoolOK (a : T) (h w c n s : Nat) : Prop where
  hh : 1 ≤ h ∧ h ≤ 256
  hw : 1 ≤ w ∧ w ≤ 256
  hc : 1 ≤ c ∧ c ≤ 256
  hn : 1 ≤ n ∧ n ≤ 16
  hs : 1 ≤ s ∧ s ≤ 16
  nh : n ≤ h
  nw : n ≤ w
  sa : a.1.1 = [(h : Int), (w : Int), (c : Int)]
  hA : a.2.length = h * w * c
  bA : h * w * c ≤ 16384
  fA : ∀ p, -2147483648 ≤ a.2.getD p 0 ∧ a.2.getD p 0 ≤ 2147483647

/-- what it reads -/
def plV (A : List Int) (w c s y x ch dy dx : Nat) : Int := A.getD (((y * s + dy) * w + (x * s + dx)) * c + ch) 0

def plS (A : List Int) (w c n s y x ch : Nat) : Int := sumN (fun dy => sumN (plV A w c s y x ch dy) n) n

def plM (A : List Int) (w c n s y x ch : Nat) : Int := mx (fun q => plV A w c s y x ch (q / n) (q % n)) (n * n - 1)

def plC (avg : Bool) (A : List Int) (w c n s ow i : Nat) : Int :=
  if avg then (2 * plS A w c n s (i / c / ow) (i / c % ow) (i % c) + ((n * n : Nat) : Int)) / (2 * ((n * n : Nat) : Int)) else plM A w c n s (i / c / ow) (i / c % ow) (i % c)

section

variable {a : T} {h w c n s : Nat}

theorem pool_idx (H : PoolOK a h w c n s) {y x ch dy dx : Nat} (hy : y < (h - n) / s + 1) (hx : x < (w - n) / s + 1) (hch : ch < c) (hdy : dy < n) (hdx : dx < n) :
    y * s + dy < h ∧ x * s + dx < w ∧ ((y * s + dy) * w + (x * s + dx)) * c + ch < h * w * c := by
  have e1 : y * s ≤ h - n := by
    have : y ≤ (h - n) / s := by omega
    have := Nat.mul_le_mul_right s this
    have := Nat.div_mul_le_self (h - n) s
    omega
  have e2 : x * s ≤ w - n := by
    have : x ≤ (w - n) / s := by omega
    have := Nat.mul_le_mul_right s this
    have := Nat.div_mul_le_self (w - n) s
    omega
  have := H.nh
  have := H.nw
  have h1 : y * s + dy < h := by omega
  have h2 : x * s + dx < w := by omega
  exact ⟨h1, h2, three_idx h1 h2 hch⟩

theorem pool_wi (H : PoolOK a h w c n s) {y x ch dy dx : Nat} (hy : y < (h - n) / s + 1) (hx : x < (w - n) / s + 1) (hch : ch < c) (hdy : dy < n) (hdx : dx < n) :
    wi64 (wi64 (wi64 (wi64 (wi64 (wi64 (wi64 ((y : Int) * s) + dy) * w) + wi64 ((x : Int) * s)) + dx) * c) + ch) = ((((y * s + dy) * w + (x * s + dx)) * c + ch : Nat) : Int) := by
  obtain ⟨h1, h2, h3⟩ := pool_idx H hy hx hch hdy hdx
  have bA := H.bA
  have hw := H.hw
  have hh := H.hh
  have hc := H.hc
  have b1 : (y * s + dy) * w ≤ 256 * 256 := Nat.mul_le_mul (by omega) hw.2
  have b2 : (y * s + dy) * w + (x * s + dx) ≤ ((y * s + dy) * w + (x * s + dx)) * c := Nat.le_mul_of_pos_right _ (by omega)
  rw [wi64_row (by omega), wi64_mul (i := x) (k := s) (by omega), wi64_mul (by omega), wi64_add (i := (y * s + dy) * w) (by omega), wi64_add (i := (y * s + dy) * w + x * s) (by omega), Nat.add_assoc, wi64_row (by omega)]

theorem plS_bound (H : PoolOK a h w c n s) (y x ch : Nat) : -549755813888 ≤ plS a.2 w c n s y x ch ∧ plS a.2 w c n s y x ch ≤ 549755813888 := by
  have hn := H.hn
  have := sumN_bound (fun dy => sumN (plV a.2 w c s y x ch dy) n) 34359738368 (fun dy => by
        have := sumN_bound (plV a.2 w c s y x ch dy) 2147483648 (fun q => by have := H.fA (((y * s + dy) * w + (x * s + q)) * c + ch); unfold plV; omega) n
        omega) n
  unfold plS
  omega

end

/-! tables, choices, sums, by the document -/

def softK (op : Int) : Int := if op = 16 ∨ op = 17 then 2 else 1

def softRes (op : Int) (ins : List D) : D × Er :=
  if ¬ (op = 16 ∨ op = 17 ∨ op = 19 ∨ op = 20) then (noD, .s ErrKind)
  else if (ins.length : Int) ≠ softK op then (noD, .s ErrShape)
  else if !(firstBad ins).isNil then (noD, firstBad ins)
  else if op = 16 then
    if (ins.getD 0 noD).2 = true ∨ ((ins.getD 0 noD).1.length : Int) < 1 ∨ ins.getD 1 noD ≠ ([256], true) then (noD, .s ErrShape) else (ins.getD 0 noD, .nil)
  else if op = 17 then
    if (ins.getD 0 noD).1.length ≠ 2 ∨ (ins.getD 1 noD).1.length ≠ 1 ∨ (ins.getD 1 noD).2 = false then (noD, .s ErrShape) else seenD ([(ins.getD 1 noD).1.getD 0 0, (ins.getD 0 noD).1.getD 1 0], (ins.getD 0 noD).2)
  else if ((ins.getD 0 noD).1.length : Int) < 1 then (noD, .s ErrShape)
  else (((ins.getD 0 noD).1.take ((ins.getD 0 noD).1.length - 1), true), .nil)

theorem softRes_bare (op : Int) (ins : List D) : bareE (softRes op ins).2 := by
  unfold softRes
  repeat' split
  all_goals first | exact True.intro | exact seenD_bare _ | (dsimp only; exact firstBad_bare _)

theorem softRes_OK (op : Int) (ins : List D) : erOK (softRes op ins).2 := by
  unfold softRes
  repeat' split
  all_goals first | exact True.intro | exact (show ErrShape < 21 by decide) | exact (show ErrKind < 21 by decide) | exact seenD_OK _ | (dsimp only; exact firstBad_OK _)

theorem firstBad_two {a b : D} (h : firstBad [a, b] = .nil) : shapeV a.1 = .nil ∧ shapeV b.1 = .nil := by
  unfold firstBad firstBad firstBad at h
  rcases shapeV_cases a.1 with ha | ⟨ha, ha'⟩
  case inr => rw [ifF ha] at h; rw [h] at ha; cases ha
  rw [ifT (nilT ha)] at h
  rcases shapeV_cases b.1 with hb | ⟨hb, hb'⟩
  case inr => rw [ifF hb] at h; rw [h] at hb; cases hb
  exact ⟨ha, hb⟩

theorem firstBad_one {a : D} (h : firstBad [a] = .nil) : shapeV a.1 = .nil := by
  unfold firstBad firstBad at h
  rcases shapeV_cases a.1 with ha | ⟨ha, ha'⟩
  case inr => rw [ifF ha] at h; rw [h] at ha; cases ha
  exact ha

theorem prodN_append : ∀ (l m : List Nat), prodN (l ++ m) = prodN l * prodN m
  | [], m => by simp [prodN]
  | n :: r, m => by rw [List.cons_append, prodN, prodN, prodN_append r m, Nat.mul_assoc]

/-- the last dimension, and those ahead of it -/
theorem shape_nat_last {sh : List Int} (h : shapeV sh = .nil) (hl : 1 ≤ sh.length) : ∃ (pre : List Nat) (n : Nat), sh = (pre.map Nat.cast) ++ [(n : Int)] ∧ (1 ≤ n ∧ n ≤ 256) ∧ 1 ≤ prodN pre ∧ prodN pre * n ≤ 16384 ∧ elems sh = ((prodN pre * n : Nat) : Int) ∧ shapeV (pre.map (Nat.cast : Nat → Int)) = .nil ∧ elems (pre.map (Nat.cast : Nat → Int)) = ((prodN pre : Nat) : Int) := by
  obtain ⟨ns, e, h4, hn, h1, h5, h6⟩ := shape_nat h
  have hne : ns ≠ [] := by
    intro e0
    rw [e, e0] at hl
    simp at hl
  have hd : ns.dropLast ++ [ns.getLast hne] = ns := List.dropLast_concat_getLast hne
  have hp : prodN ns = prodN ns.dropLast * ns.getLast hne := by
    conv => lhs; rw [← hd]
    rw [prodN_append]
    simp [prodN]
  have hmem : ∀ x, x ∈ ns.dropLast → x ∈ ns := fun x hx => (List.dropLast_sublist _).subset hx
  have hpos : 1 ≤ prodN ns.dropLast := by
    rcases Nat.eq_zero_or_pos (prodN ns.dropLast) with h0 | h0
    · rw [h0, Nat.zero_mul] at hp; omega
    · exact h0
  have hlast := hn _ (List.getLast_mem hne)
  have hle : prodN ns.dropLast ≤ prodN ns.dropLast * ns.getLast hne := Nat.le_mul_of_pos_right _ (by omega)
  have hv : shapeV (ns.dropLast.map (Nat.cast : Nat → Int)) = .nil := by
    rw [shapeV_nil]
    refine ⟨by simp; omega, ?_, ?_⟩
    · rw [List.any_eq_false]
      intro x hx
      obtain ⟨m, hm, rfl⟩ := List.mem_map.1 hx
      have := hn m (hmem m hm)
      simp [badDim]
      omega
    · have hb : (ns.dropLast.map (Nat.cast : Nat → Int)).any badDim = false := by
        rw [List.any_eq_false]
        intro x hx
        obtain ⟨m, hm, rfl⟩ := List.mem_map.1 hx
        have := hn m (hmem m hm)
        simp [badDim]
        omega
      have := overs_foldl (ns.dropLast.map (Nat.cast : Nat → Int)) 1 (by omega) hb
      have hf := foldl_prodN ns.dropLast 1
      rw [Nat.one_mul] at hf
      rw [show ((1 : Nat) : Int) = 1 from rfl] at hf
      rw [hf] at this
      rw [show decide ((16384 : Int) < 1) = false from rfl, Bool.or_false] at this
      rw [this]
      simp
      omega
  refine ⟨ns.dropLast, ns.getLast hne, ?_, hlast, hpos, by omega, by rw [h6, hp], hv, ?_⟩
  · rw [e]
    conv => lhs; rw [← hd]
    simp
  · unfold elems
    rw [hv]
    have hf := foldl_prodN ns.dropLast 1
    rw [Nat.one_mul] at hf
    exact hf

theorem take_last {α : Type} (l : List α) (x : α) : (l ++ [x]).take ((l ++ [x]).length - 1) = l := by simp

theorem getD_last {α : Type} (l : List α) (x d : α) : (l ++ [x]).getD ((l ++ [x]).length - 1) d = x := by
  rw [List.getD_eq_getElem?_getD]
  simp

/-! elements -/

def smM (A : List Int) (n i : Nat) : Int := mx (fun j => A.getD (i / n * n + j) 0) (n - 1)

def smW (A B : List Int) (n i j : Nat) : Int := max 0 (B.getD (smM A n i - A.getD j 0).toNat 0)

def smS (A B : List Int) (n i : Nat) : Int := sumN (fun j => smW A B n i (i / n * n + j)) n

def smC (A B : List Int) (n i : Nat) : Int := if smS A B n i = 0 then -128 else (255 * smW A B n i i + smS A B n i / 2) / smS A B n i - 128

theorem row_idx {P n i : Nat} (hn : 1 ≤ n) (hi : i < P * n) : i / n * n + n ≤ P * n ∧ i / n * n ≤ i ∧ i < i / n * n + n := by
  have h1 : i / n < P := Nat.div_lt_of_lt_mul (by rw [Nat.mul_comm]; exact hi)
  have h2 : (i / n + 1) * n ≤ P * n := Nat.mul_le_mul_right n h1
  have h3 := Nat.div_mul_le_self i n
  have h4 := Nat.mod_lt i (show 0 < n by omega)
  have h5 := Nat.div_add_mod i n
  rw [Nat.add_mul, Nat.one_mul] at h2
  rw [Nat.mul_comm] at h5
  omega

theorem imax_eq' (a b : Int) : imax a b = max a b := by
  unfold imax
  split <;> omega

section

variable {a b : T} {n P : Nat}

theorem smM_in (fA : ∀ p, -128 ≤ a.2.getD p 0 ∧ a.2.getD p 0 ≤ 127) (i : Nat) : -128 ≤ smM a.2 n i ∧ smM a.2 n i ≤ 127 := mx_bound (fun j => fA _) _

theorem smD_in (fA : ∀ p, -128 ≤ a.2.getD p 0 ∧ a.2.getD p 0 ≤ 127) (hn : 1 ≤ n) {i j : Nat} (h1 : i / n * n ≤ j) (h2 : j < i / n * n + n) : 0 ≤ smM a.2 n i - a.2.getD j 0 ∧ smM a.2 n i - a.2.getD j 0 ≤ 255 := by
  have h3 := smM_in fA (n := n) i
  have h4 := fA j
  have h5 : a.2.getD j 0 ≤ smM a.2 n i := by
    have := mx_ge (f := fun j => a.2.getD (i / n * n + j) 0) (k := n - 1) (i := j - i / n * n) (by omega)
    rw [show i / n * n + (j - i / n * n) = j by omega] at this
    exact this
  omega

theorem smW_in (fB : ∀ p, -2147483648 ≤ b.2.getD p 0 ∧ b.2.getD p 0 ≤ 2147483647) (A : List Int) (i j : Nat) : 0 ≤ smW A b.2 n i j ∧ smW A b.2 n i j ≤ 2147483647 := by
  have := fB (smM A n i - A.getD j 0).toNat
  unfold smW
  omega

theorem sumN_nonneg {f : Nat → Int} (h : ∀ i, 0 ≤ f i) : ∀ k, 0 ≤ sumN f k
  | 0 => Int.le_refl _
  | k + 1 => by
    have := sumN_nonneg h k
    have := h k
    simp only [sumN]
    omega

/-- a number, cut -/
def cut (x lo hi : Int) : Int := if x < lo then lo else if hi < x then hi else x

theorem lodgeref3_Cut_spec (N : Nat) (x lo hi : Int) : F_lodgeref3_Cut N x lo hi = some (cut x lo hi, ()) := by
  unfold F_lodgeref3_Cut cut
  by_cases h1 : x < lo
  · rw [if_pos h1]; exact cT h1 rfl
  rw [if_neg h1]
  refine cF h1 ?_
  by_cases h2 : hi < x
  · rw [if_pos h2]; exact cT h2 rfl
  rw [if_neg h2]
  exact cF h2 rfl

theorem cut_in {x lo hi : Int} (h : lo ≤ hi) : lo ≤ cut x lo hi ∧ cut x lo hi ≤ hi := by
  unfold cut
  split
  · omega
  · split <;> omega

def gaC (A B : List Int) (m w i : Nat) : Int := A.getD ((cut (B.getD (i / w) 0) 0 ((m : Int) - 1)).toNat * w + i % w) 0

theorem ga_idx {m w : Nat} (hm : 1 ≤ m) (hw : 1 ≤ w) (x : Int) (i : Nat) : (cut x 0 ((m : Int) - 1)).toNat * w + i % w < m * w := by
  have h := cut_in (x := x) (lo := 0) (hi := (m : Int) - 1) (by omega)
  have h2 : (cut x 0 ((m : Int) - 1)).toNat + 1 ≤ m := by omega
  have h3 := Nat.mul_le_mul_right w h2
  have h4 := Nat.mod_lt i (show 0 < w by omega)
  rw [Nat.add_mul] at h3
  omega

/-- the first of the greatest of the first ones -/
def am (f : Nat → Int) : Nat → Nat
  | 0 => 0
  | k + 1 => if f (am f k) < f k then k else am f k

theorem am_lt (f : Nat → Int) : ∀ k, 1 ≤ k → am f k < k
  | 0, h => by omega
  | 1, _ => by simp [am]
  | k + 2, _ => by
    have := am_lt f (k + 1) (by omega)
    rw [am]
    split <;> omega

theorem am_le (f : Nat → Int) : ∀ k, am f k ≤ k
  | 0 => Nat.le_refl _
  | k + 1 => by
    have := am_le f k
    rw [am]
    split <;> omega

def rowF (A : List Int) (n i j : Nat) : Int := A.getD (i * n + j) 0

end

/-! element by element, by the document -/

def kept (w : Bool) (n : Int) : Int := if w then round32 n else cut n (-128) 127

def requ (x m s z : Int) : Int :=
  cut ((if 0 < cut s 0 62 then (cut x (-2147483648) 2147483647 * cut m 0 2147483647 + 2 ^ ((cut s 0 62).toNat - 1)) / 2 ^ (cut s 0 62).toNat else cut x (-2147483648) 2147483647 * cut m 0 2147483647) + cut z (-128) 127) (-128) 127

def elV (op : Int) (w : Bool) (x y : Int) (args : List Int) : Int :=
  if op = 4 then kept w (x + y) else if op = 5 then kept w (x - y) else if op = 6 then kept w (x * y) else if op = 7 then max x y else if op = 8 then max x 0
  else if op = 9 then cut x (args.getD 0 0) (args.getD 1 0) else if op = 10 then requ x (args.getD 0 0) (args.getD 1 0) (args.getD 2 0) else if op = 11 then x - args.getD 0 0 else 0

def elN (op : Int) : Nat := if op = 9 then 2 else if op = 10 then 3 else if op = 11 then 1 else 0

theorem lodgeref3_kept_spec (N : Nat) (n : Int) (w : Bool) : F_lodgeref3_kept N n w = some (kept w n, ()) := by
  unfold F_lodgeref3_kept kept
  cases w
  · exact bF rfl (bnd _ (lodgeref3_Cut_spec N _ _ _) rfl)
  · exact bT rfl (bnd _ (lodgeref3_Wide_spec N _) rfl)

theorem pow_bound {s : Nat} (h : s ≤ 61) : (1 : Int) ≤ 2 ^ s ∧ (2 : Int) ^ s ≤ 2305843009213693952 := by
  have h1 : (2 : Nat) ^ s ≤ 2 ^ 61 := Nat.pow_le_pow_right (by omega) h
  have h2 : 1 ≤ (2 : Nat) ^ s := Nat.one_le_two_pow
  have e : ((2 : Int) ^ s) = ((2 ^ s : Nat) : Int) := by simp
  rw [e]
  constructor
  · omega
  · have : (2 : Nat) ^ 61 = 2305843009213693952 := by decide
    omega

theorem requ_prod (x m : Int) : -4611686018427387904 ≤ cut x (-2147483648) 2147483647 * cut m 0 2147483647 ∧ cut x (-2147483648) 2147483647 * cut m 0 2147483647 ≤ 4611686018427387904 := by
  have h1 := cut_in (x := x) (lo := -2147483648) (hi := 2147483647) (by omega)
  have h2 := cut_in (x := m) (lo := 0) (hi := 2147483647) (by omega)
  exact mul_abs (A := 2147483648) (B := 2147483648) (by omega) (by omega) (by omega) (by omega)

theorem shl_one {s : Nat} (h1 : 1 ≤ s) (h2 : s ≤ 62) : shlI IntKind.i64 1 (wu64 (wi64 ((s : Int) - 1))) = 2 ^ (s - 1) := by
  have e1 : wi64 ((s : Int) - 1) = ((s - 1 : Nat) : Int) := by rw [wi64_in (by omega) (by omega)]; omega
  have e2 : wu64 ((s - 1 : Nat) : Int) = ((s - 1 : Nat) : Int) := by
    show IntKind.wrap .u64 _ = _
    simp only [IntKind.wrap, IntKind.bits, IntKind.signed]
    simp
    omega
  have hb := pow_bound (s := s - 1) (by omega)
  rw [e1, e2]
  unfold shlI
  rw [show IntKind.bits .i64 = 64 from rfl, Int.toNat_natCast, Nat.min_eq_left (by omega), Int.one_mul]
  exact wi64_in (by omega) (by omega)

theorem shr_at {p : Int} {s : Nat} (h2 : s ≤ 62) : shrI IntKind.i64 p (wu64 (s : Int)) = p / 2 ^ s := by
  have e2 : wu64 (s : Int) = (s : Int) := by
    show IntKind.wrap .u64 _ = _
    simp only [IntKind.wrap, IntKind.bits, IntKind.signed]
    simp
    omega
  rw [e2]
  unfold shrI
  rw [show IntKind.bits .i64 = 64 from rfl, Int.toNat_natCast, Nat.min_eq_left (by omega), Int.fdiv_eq_ediv_of_nonneg]
  have : (0 : Int) < 2 ^ s := Int.pow_pos (by omega)
  omega

theorem cut_cut {q z : Int} (hz : -128 ≤ z ∧ z ≤ 127) : cut (cut q (-1099511627776) 1099511627776 + z) (-128) 127 = cut (q + z) (-128) 127 := by
  unfold cut
  repeat' split
  all_goals omega

theorem lodgeref3_Requant_spec (N : Nat) (x m s z : Int) : F_lodgeref3_Requant N x m s z = some (requ x m s z, ()) := by
  unfold F_lodgeref3_Requant requ
  refine bnd _ (lodgeref3_Cut_spec N _ _ _) (bnd _ (lodgeref3_Cut_spec N _ _ _) (bnd _ (lodgeref3_Cut_spec N _ _ _) ?_))
  have hs := cut_in (x := s) (lo := 0) (hi := 62) (by omega)
  have hz := cut_in (x := z) (lo := -128) (hi := 127) (by omega)
  have hp := requ_prod x m
  obtain ⟨S, hS⟩ : ∃ S : Nat, cut s 0 62 = (S : Int) := ⟨(cut s 0 62).toNat, by omega⟩
  rw [hS] at hs ⊢
  dsimp only
  generalize cut x (-2147483648) 2147483647 * cut m 0 2147483647 = p at *
  rw [wi64_in (n := p) (by omega) (by omega)]
  by_cases h0 : (0 : Int) < S
  · rw [if_pos h0]
    have hb := pow_bound (s := S - 1) (by omega)
    refine cT h0 ?_
    rw [shl_one (by omega) (by omega), wi64_in (n := p + 2 ^ (S - 1)) (by omega) (by omega), shr_at (by omega)]
    have u1 : ∀ n : Nat, n ≤ 64 → wu64 (n : Int) = (n : Int) := by
      intro n hn
      show IntKind.wrap .u64 _ = _
      simp only [IntKind.wrap, IntKind.bits, IntKind.signed]
      simp
      omega
    refine cT ?_ (cT ?_ ?_)
    · rw [show wi64 ((S : Int) - 1) = ((S - 1 : Nat) : Int) by rw [wi64_in (by omega) (by omega)]; omega, u1 _ (by omega)]
      omega
    · rw [u1 _ (by omega)]
      omega
    refine bnd _ (lodgeref3_Cut_spec N _ _ _) (bnd _ (lodgeref3_Cut_spec N _ _ _) ?_)
    have hc := cut_in (x := (p + 2 ^ (S - 1)) / 2 ^ S) (lo := -1099511627776) (hi := 1099511627776) (by omega)
    dsimp only
    rw [wi64_in (by omega) (by omega)]
    refine bnd _ (lodgeref3_Cut_spec N _ _ _) ?_
    rw [cut_cut hz, Int.toNat_natCast]
  · rw [if_neg h0]
    refine cF h0 (bnd _ (lodgeref3_Cut_spec N _ _ _) (bnd _ (lodgeref3_Cut_spec N _ _ _) ?_))
    have hc := cut_in (x := p) (lo := -1099511627776) (hi := 1099511627776) (by omega)
    dsimp only
    rw [wi64_in (by omega) (by omega)]
    refine bnd _ (lodgeref3_Cut_spec N _ _ _) ?_
    rw [cut_cut hz]

theorem lodgeref3_Value_spec (N : Nat) (op : Int) (w : Bool) {x y : Int} {args : List Int} (hx : -2147483648 ≤ x ∧ x ≤ 2147483647) (hy : -2147483648 ≤ y ∧ y ≤ 2147483647) (hargs : elN op ≤ args.length) (h11 : op = 11 → -2147483648 ≤ args.getD 0 0 ∧ args.getD 0 0 ≤ 2147483647) :
    F_lodgeref3_Value N op w x y args = some (elV op w x y args, ()) := by
  unfold F_lodgeref3_Value elV
  unfold elN at hargs
  by_cases h4 : op = 4
  · subst h4
    refine cT rfl ?_
    rw [if_pos rfl, wi64_in (by omega) (by omega)]
    exact bnd _ (lodgeref3_kept_spec N _ _) rfl
  refine cF h4 ?_
  rw [if_neg h4]
  by_cases h5 : op = 5
  · subst h5
    refine cT rfl ?_
    rw [if_pos rfl, wi64_in (by omega) (by omega)]
    exact bnd _ (lodgeref3_kept_spec N _ _) rfl
  refine cF h5 ?_
  rw [if_neg h5]
  by_cases h6 : op = 6
  · subst h6
    refine cT rfl ?_
    have hp := mul_abs (A := 2147483648) (B := 2147483648) (a := x) (b := y) (by omega) (by omega) (by omega) (by omega)
    rw [if_pos rfl, wi64_in (by omega) (by omega)]
    exact bnd _ (lodgeref3_kept_spec N _ _) rfl
  refine cF h6 ?_
  rw [if_neg h6]
  by_cases h7 : op = 7
  · subst h7
    refine cT rfl ?_
    rw [if_pos rfl, imax_eq']
  refine cF h7 ?_
  rw [if_neg h7]
  by_cases h8 : op = 8
  · subst h8
    refine cT rfl ?_
    rw [if_pos rfl, imax_eq']
  refine cF h8 ?_
  rw [if_neg h8]
  by_cases h9 : op = 9
  · subst h9
    rw [if_pos rfl] at hargs
    refine cT rfl (cT (by omega) (cT (by omega) ?_))
    rw [if_pos rfl]
    exact bnd _ (lodgeref3_Cut_spec N _ _ _) rfl
  refine cF h9 ?_
  rw [if_neg h9] at hargs ⊢
  by_cases h10 : op = 10
  · subst h10
    rw [if_pos rfl] at hargs
    refine cT rfl (cT (by omega) (cT (by omega) (cT (by omega) ?_)))
    rw [if_pos rfl]
    exact bnd _ (lodgeref3_Requant_spec N _ _ _ _) rfl
  refine cF h10 ?_
  rw [if_neg h10] at hargs ⊢
  by_cases h11' : op = 11
  · have hr := h11 h11'
    subst h11'
    rw [if_pos rfl] at hargs
    refine cT rfl (cT (by omega) ?_)
    rw [if_pos rfl, wi64_in (by omega) (by omega)]
  refine cF h11' ?_
  rw [if_neg h11']

/-- what an operation element by element makes of what looks so -/
def elK (op : Int) : Nat := if op = 4 ∨ op = 5 ∨ op = 6 ∨ op = 7 then 2 else 1

def elFair (op : Int) (args : List Int) (w : Bool) : Bool :=
  if op = 9 then fitsB w (args.getD 0 0) && fitsB w (args.getD 1 0) && decide (args.getD 0 0 ≤ args.getD 1 0)
  else if op = 10 then decide (0 ≤ args.getD 0 0) && decide (args.getD 0 0 ≤ 2147483647) && decide (0 ≤ args.getD 1 0) && decide (args.getD 1 0 ≤ 62) && narrowB (args.getD 2 0)
  else if op = 11 then narrowB (args.getD 0 0) else true

def elWide (op : Int) (w : Bool) : Bool := if op = 10 then false else if op = 11 then true else w

def elemRes (op : Int) (args : List Int) (ins : List D) : D × Er :=
  if ¬ (4 ≤ op ∧ op ≤ 11) then (noD, .s ErrKind)
  else if args.length ≠ elN op ∨ ins.length ≠ elK op then (noD, .s ErrShape)
  else if !(firstBad ins).isNil then (noD, firstBad ins)
  else if elK op = 2 ∧ ins.getD 0 noD ≠ ins.getD 1 noD ∨ op = 10 ∧ (ins.getD 0 noD).2 = false ∨ op = 11 ∧ (ins.getD 0 noD).2 = true then (noD, .s ErrShape)
  else if elFair op args (ins.getD 0 noD).2 = false then (noD, .s ErrRange)
  else (((ins.getD 0 noD).1, elWide op (ins.getD 0 noD).2), .nil)

theorem elemRes_bare (op : Int) (args : List Int) (ins : List D) : bareE (elemRes op args ins).2 := by
  unfold elemRes
  repeat' split
  all_goals first | exact True.intro | (dsimp only; exact firstBad_bare _)

theorem elemRes_OK (op : Int) (args : List Int) (ins : List D) : erOK (elemRes op args ins).2 := by
  unfold elemRes
  repeat' split
  all_goals first | exact True.intro | exact (show ErrShape < 21 by decide) | exact (show ErrKind < 21 by decide) | exact (show ErrRange < 21 by decide) | (dsimp only; exact firstBad_OK _)

/-! element by element -/

theorem elem_in_spec (N : Nat) (n lo hi : Int) : F_elem_in N n lo hi = some (decide (lo ≤ n) && decide (n ≤ hi), ()) := by
  unfold F_elem_in
  by_cases h : lo ≤ n
  · exact cT h (by simp [h])
  · exact cF h (by simp [h])

theorem elem_of_spec (N : Nat) (n : Int) (w : Bool) : F_elem_of N n w = some (fitsB w n, ()) := by
  unfold F_elem_of
  cases w
  · exact bF rfl (bnd _ (elem_in_spec N _ _ _) rfl)
  · exact bT rfl (bnd _ (elem_in_spec N _ _ _) rfl)

theorem loop_elem_Result {N : Nat} (hN : 20000 ≤ N) (op : Int) (args : List Int) (ins : List D) (t : List Int × (Bool × Unit)) (k : Int) (l : List D) (hl : l.length < 1000000) : ∀ (n i : Nat), i ≤ l.length → l.length < n + i →
    g_elem_Result_0 N n op args ins t k l l.length i = if firstBad (l.drop i) = .nil then some (.inl (op, (args, (ins, (t, (k, ())))))) else some (.inr (([], (false, ())), (firstBad (l.drop i), ())))
  | 0, i, h, h' => by omega
  | n + 1, i, h, h' => by
    rw [g_elem_Result_0]
    by_cases hi : i < l.length
    · refine cT (by omega) (cT (by omega) (cT (by simpa using hi) (bnd _ (shape_Valid_spec hN _) ?_)))
      rw [drop_cons hi ([], false), Int.toNat_natCast, wi64_succ (by omega), firstBad]
      rcases shapeV_cases (l.getD i ([], false)).1 with h1 | ⟨h1, h2⟩
      · rw [h1]
        refine bF rfl (cT rfl ?_)
        rw [ifT (c := Er.nil.isNil) rfl]
        exact loop_elem_Result hN op args ins t k l hl n (i + 1) hi (by omega)
      · refine bT (by simp only [h1]; rfl) ?_
        have h3 : ¬ shapeV (l.getD i ([], false)).1 = .nil := fun e => by rw [e] at h1; cases h1
        rw [ifF h1, if_neg h3]
    · refine cF (by omega) (cT rfl ?_)
      rw [List.drop_eq_nil_of_le (by omega)]
      rfl

theorem ER_4 {N : Nat} (hN : 20000 ≤ N) (args : List Int) (ins : List D) (hi : ins.length ≤ 1000) : F_elem_Result N 4 args ins = some (boxD (elemRes 4 args ins).1, ((elemRes 4 args ins).2, ())) := by
  unfold F_elem_Result elemRes
  rw [if_neg (by decide), show elN 4 = 0 from rfl, show elK 4 = 2 from rfl]
  refine bnd _ rfl ?_
  (repeat first | refine bT rfl ?_ | refine bF rfl ?_)
  refine bnd (4, (args, (ins, (([], (false, ())), (2, (decide (args.length ≠ 0 ∨ ins.length ≠ 2), ())))))) ?_ ?_
  · by_cases h1 : args.length = 0
    case neg =>
      refine cT (by first | omega | (dsimp only; omega) | (simp; omega)) ?_
      (repeat first | refine cT rfl ?_ | refine cT True.intro ?_)
      rw [decide_eq_true (p := _ ∨ _) (.inl h1)]
      all_goals rfl
    refine cF (by first | omega | (dsimp only; omega) | (simp; omega)) ?_
    (repeat first | refine cT rfl ?_ | refine cT True.intro ?_)
    dsimp only
    by_cases h2 : ins.length = 2
    · rw [decide_eq_false (show ¬ ((ins.length : Int) ≠ 2) by omega), decide_eq_false (p := _ ∨ _) (by omega)]
      all_goals rfl
    · rw [decide_eq_true (show (ins.length : Int) ≠ 2 by omega), decide_eq_true (p := _ ∨ _) (.inr h2)]
      all_goals rfl
  by_cases hB : args.length ≠ 0 ∨ ins.length ≠ 2
  case pos => rw [if_pos hB]; exact cT hB rfl
  rw [if_neg hB]
  refine cF hB ?_
  (repeat first | refine cT rfl ?_ | refine cT True.intro ?_)
  have h0 := loop_elem_Result hN 4 args ins ([], (false, ())) 2 ins (by first | omega | (dsimp only; omega) | (simp; omega)) N 0 (by omega) (by omega)
  rw [show ((0 : Nat) : Int) = 0 from rfl, List.drop_zero] at h0
  dsimp only
  rw [h0]
  by_cases hb : firstBad ins = .nil
  case neg =>
    rw [if_neg hb, ifNF (isNil_false hb)]
    simp only [Option.bind_some, Sum.elim_inr]
    (repeat first | refine cT rfl ?_ | refine cT True.intro ?_)
    rfl
  rw [if_pos hb, ifNT (nilT hb)]
  simp only [Option.bind_some, Sum.elim_inl]
  simp only [not_or, ne_eq, Decidable.not_not] at hB
  match ins, hB.2, hb with
  | [a, b], _, hb =>
  obtain ⟨va, vb⟩ := firstBad_two hb
  have l4 := (shapeV_nil.1 va).1
  refine cT (by simp) ?_
  by_cases h3 : a = b
  case neg =>
    rw [if_pos (.inl ⟨by first | rfl | exact True.intro, h3⟩)]
    refine bnd (4, args, ([], false, ()), (a, ()), true, ()) ?_ rfl
    refine bT rfl (cT (by simp) (bnd _ (shape_Same_spec a b (by omega) (by omega)) ?_))
    refine bT (by simp [h3]) ?_
    (repeat first | refine cT rfl ?_ | refine cT True.intro ?_)
    rfl
  rw [if_neg (by rintro (⟨_, h⟩ | ⟨h, _⟩ | ⟨h, _⟩); exact h h3; exact absurd h (by decide); exact absurd h (by decide))]
  refine bnd (4, args, ([], false, ()), (a, ()), false, ()) ?_ ?_
  · refine bT rfl (cT (by simp) (bnd _ (shape_Same_spec a b (by omega) (by omega)) ?_))
    refine bF (by simp [h3]) ?_
    (repeat first | refine bT rfl ?_ | refine bF rfl ?_)
    rfl
  refine bF rfl ?_
  have eF : ∀ w, elFair 4 args w = true := fun _ => rfl
  rw [eF, if_neg (show ¬ (true = false) by decide)]
  refine bnd _ rfl ?_
  refine bF rfl ?_
  refine bnd _ (shape_Clone_spec N _ (by first | omega | (dsimp only; omega) | (simp; omega))) ?_
  (repeat first | refine cT rfl ?_ | refine cT True.intro ?_)
  rfl

theorem ER_5 {N : Nat} (hN : 20000 ≤ N) (args : List Int) (ins : List D) (hi : ins.length ≤ 1000) : F_elem_Result N 5 args ins = some (boxD (elemRes 5 args ins).1, ((elemRes 5 args ins).2, ())) := by
  unfold F_elem_Result elemRes
  rw [if_neg (by decide), show elN 5 = 0 from rfl, show elK 5 = 2 from rfl]
  refine bnd _ rfl ?_
  (repeat first | refine bT rfl ?_ | refine bF rfl ?_)
  refine bnd (5, (args, (ins, (([], (false, ())), (2, (decide (args.length ≠ 0 ∨ ins.length ≠ 2), ())))))) ?_ ?_
  · by_cases h1 : args.length = 0
    case neg =>
      refine cT (by first | omega | (dsimp only; omega) | (simp; omega)) ?_
      (repeat first | refine cT rfl ?_ | refine cT True.intro ?_)
      rw [decide_eq_true (p := _ ∨ _) (.inl h1)]
      all_goals rfl
    refine cF (by first | omega | (dsimp only; omega) | (simp; omega)) ?_
    (repeat first | refine cT rfl ?_ | refine cT True.intro ?_)
    dsimp only
    by_cases h2 : ins.length = 2
    · rw [decide_eq_false (show ¬ ((ins.length : Int) ≠ 2) by omega), decide_eq_false (p := _ ∨ _) (by omega)]
      all_goals rfl
    · rw [decide_eq_true (show (ins.length : Int) ≠ 2 by omega), decide_eq_true (p := _ ∨ _) (.inr h2)]
      all_goals rfl
  by_cases hB : args.length ≠ 0 ∨ ins.length ≠ 2
  case pos => rw [if_pos hB]; exact cT hB rfl
  rw [if_neg hB]
  refine cF hB ?_
  (repeat first | refine cT rfl ?_ | refine cT True.intro ?_)
  have h0 := loop_elem_Result hN 5 args ins ([], (false, ())) 2 ins (by first | omega | (dsimp only; omega) | (simp; omega)) N 0 (by omega) (by omega)
  rw [show ((0 : Nat) : Int) = 0 from rfl, List.drop_zero] at h0
  dsimp only
  rw [h0]
  by_cases hb : firstBad ins = .nil
  case neg =>
    rw [if_neg hb, ifNF (isNil_false hb)]
    simp only [Option.bind_some, Sum.elim_inr]
    (repeat first | refine cT rfl ?_ | refine cT True.intro ?_)
    rfl
  rw [if_pos hb, ifNT (nilT hb)]
  simp only [Option.bind_some, Sum.elim_inl]
  simp only [not_or, ne_eq, Decidable.not_not] at hB
  match ins, hB.2, hb with
  | [a, b], _, hb =>
  obtain ⟨va, vb⟩ := firstBad_two hb
  have l4 := (shapeV_nil.1 va).1
  refine cT (by simp) ?_
  by_cases h3 : a = b
  case neg =>
    rw [if_pos (.inl ⟨by first | rfl | exact True.intro, h3⟩)]
    refine bnd (5, args, ([], false, ()), (a, ()), true, ()) ?_ rfl
    refine bT rfl (cT (by simp) (bnd _ (shape_Same_spec a b (by omega) (by omega)) ?_))
    refine bT (by simp [h3]) ?_
    (repeat first | refine cT rfl ?_ | refine cT True.intro ?_)
    rfl
  rw [if_neg (by rintro (⟨_, h⟩ | ⟨h, _⟩ | ⟨h, _⟩); exact h h3; exact absurd h (by decide); exact absurd h (by decide))]
  refine bnd (5, args, ([], false, ()), (a, ()), false, ()) ?_ ?_
  · refine bT rfl (cT (by simp) (bnd _ (shape_Same_spec a b (by omega) (by omega)) ?_))
    refine bF (by simp [h3]) ?_
    (repeat first | refine bT rfl ?_ | refine bF rfl ?_)
    rfl
  refine bF rfl ?_
  have eF : ∀ w, elFair 5 args w = true := fun _ => rfl
  rw [eF, if_neg (show ¬ (true = false) by decide)]
  refine bnd _ rfl ?_
  refine bF rfl ?_
  refine bnd _ (shape_Clone_spec N _ (by first | omega | (dsimp only; omega) | (simp; omega))) ?_
  (repeat first | refine cT rfl ?_ | refine cT True.intro ?_)
  rfl

theorem ER_6 {N : Nat} (hN : 20000 ≤ N) (args : List Int) (ins : List D) (hi : ins.length ≤ 1000) : F_elem_Result N 6 args ins = some (boxD (elemRes 6 args ins).1, ((elemRes 6 args ins).2, ())) := by
  unfold F_elem_Result elemRes
  rw [if_neg (by decide), show elN 6 = 0 from rfl, show elK 6 = 2 from rfl]
  refine bnd _ rfl ?_
  (repeat first | refine bT rfl ?_ | refine bF rfl ?_)
  refine bnd (6, (args, (ins, (([], (false, ())), (2, (decide (args.length ≠ 0 ∨ ins.length ≠ 2), ())))))) ?_ ?_
  · by_cases h1 : args.length = 0
    case neg =>
      refine cT (by first | omega | (dsimp only; omega) | (simp; omega)) ?_
      (repeat first | refine cT rfl ?_ | refine cT True.intro ?_)
      rw [decide_eq_true (p := _ ∨ _) (.inl h1)]
      all_goals rfl
    refine cF (by first | omega | (dsimp only; omega) | (simp; omega)) ?_
    (repeat first | refine cT rfl ?_ | refine cT True.intro ?_)
    dsimp only
    by_cases h2 : ins.length = 2
    · rw [decide_eq_false (show ¬ ((ins.length : Int) ≠ 2) by omega), decide_eq_false (p := _ ∨ _) (by omega)]
      all_goals rfl
    · rw [decide_eq_true (show (ins.length : Int) ≠ 2 by omega), decide_eq_true (p := _ ∨ _) (.inr h2)]
      all_goals rfl
  by_cases hB : args.length ≠ 0 ∨ ins.length ≠ 2
  case pos => rw [if_pos hB]; exact cT hB rfl
  rw [if_neg hB]
  refine cF hB ?_
  (repeat first | refine cT rfl ?_ | refine cT True.intro ?_)
  have h0 := loop_elem_Result hN 6 args ins ([], (false, ())) 2 ins (by first | omega | (dsimp only; omega) | (simp; omega)) N 0 (by omega) (by omega)
  rw [show ((0 : Nat) : Int) = 0 from rfl, List.drop_zero] at h0
  dsimp only
  rw [h0]
  by_cases hb : firstBad ins = .nil
  case neg =>
    rw [if_neg hb, ifNF (isNil_false hb)]
    simp only [Option.bind_some, Sum.elim_inr]
    (repeat first | refine cT rfl ?_ | refine cT True.intro ?_)
    rfl
  rw [if_pos hb, ifNT (nilT hb)]
  simp only [Option.bind_some, Sum.elim_inl]
  simp only [not_or, ne_eq, Decidable.not_not] at hB
  match ins, hB.2, hb with
  | [a, b], _, hb =>
  obtain ⟨va, vb⟩ := firstBad_two hb
  have l4 := (shapeV_nil.1 va).1
  refine cT (by simp) ?_
  by_cases h3 : a = b
  case neg =>
    rw [if_pos (.inl ⟨by first | rfl | exact True.intro, h3⟩)]
    refine bnd (6, args, ([], false, ()), (a, ()), true, ()) ?_ rfl
    refine bT rfl (cT (by simp) (bnd _ (shape_Same_spec a b (by omega) (by omega)) ?_))
    refine bT (by simp [h3]) ?_
    (repeat first | refine cT rfl ?_ | refine cT True.intro ?_)
    rfl
  rw [if_neg (by rintro (⟨_, h⟩ | ⟨h, _⟩ | ⟨h, _⟩); exact h h3; exact absurd h (by decide); exact absurd h (by decide))]
  refine bnd (6, args, ([], false, ()), (a, ()), false, ()) ?_ ?_
  · refine bT rfl (cT (by simp) (bnd _ (shape_Same_spec a b (by omega) (by omega)) ?_))
    refine bF (by simp [h3]) ?_
    (repeat first | refine bT rfl ?_ | refine bF rfl ?_)
    rfl
  refine bF rfl ?_
  have eF : ∀ w, elFair 6 args w = true := fun _ => rfl
  rw [eF, if_neg (show ¬ (true = false) by decide)]
  refine bnd _ rfl ?_
  refine bF rfl ?_
  refine bnd _ (shape_Clone_spec N _ (by first | omega | (dsimp only; omega) | (simp; omega))) ?_
  (repeat first | refine cT rfl ?_ | refine cT True.intro ?_)
  rfl

theorem ER_7 {N : Nat} (hN : 20000 ≤ N) (args : List Int) (ins : List D) (hi : ins.length ≤ 1000) : F_elem_Result N 7 args ins = some (boxD (elemRes 7 args ins).1, ((elemRes 7 args ins).2, ())) := by
  unfold F_elem_Result elemRes
  rw [if_neg (by decide), show elN 7 = 0 from rfl, show elK 7 = 2 from rfl]
  refine bnd _ rfl ?_
  (repeat first | refine bT rfl ?_ | refine bF rfl ?_)
  refine bnd (7, (args, (ins, (([], (false, ())), (2, (decide (args.length ≠ 0 ∨ ins.length ≠ 2), ())))))) ?_ ?_
  · by_cases h1 : args.length = 0
    case neg =>
      refine cT (by first | omega | (dsimp only; omega) | (simp; omega)) ?_
      (repeat first | refine cT rfl ?_ | refine cT True.intro ?_)
      rw [decide_eq_true (p := _ ∨ _) (.inl h1)]
      all_goals rfl
    refine cF (by first | omega | (dsimp only; omega) | (simp; omega)) ?_
    (repeat first | refine cT rfl ?_ | refine cT True.intro ?_)
    dsimp only
    by_cases h2 : ins.length = 2
    · rw [decide_eq_false (show ¬ ((ins.length : Int) ≠ 2) by omega), decide_eq_false (p := _ ∨ _) (by omega)]
      all_goals rfl
    · rw [decide_eq_true (show (ins.length : Int) ≠ 2 by omega), decide_eq_true (p := _ ∨ _) (.inr h2)]
      all_goals rfl
  by_cases hB : args.length ≠ 0 ∨ ins.length ≠ 2
  case pos => rw [if_pos hB]; exact cT hB rfl
  rw [if_neg hB]
  refine cF hB ?_
  (repeat first | refine cT rfl ?_ | refine cT True.intro ?_)
  have h0 := loop_elem_Result hN 7 args ins ([], (false, ())) 2 ins (by first | omega | (dsimp only; omega) | (simp; omega)) N 0 (by omega) (by omega)
  rw [show ((0 : Nat) : Int) = 0 from rfl, List.drop_zero] at h0
  dsimp only
  rw [h0]
  by_cases hb : firstBad ins = .nil
  case neg =>
    rw [if_neg hb, ifNF (isNil_false hb)]
    simp only [Option.bind_some, Sum.elim_inr]
    (repeat first | refine cT rfl ?_ | refine cT True.intro ?_)
    rfl
  rw [if_pos hb, ifNT (nilT hb)]
  simp only [Option.bind_some, Sum.elim_inl]
  simp only [not_or, ne_eq, Decidable.not_not] at hB
  match ins, hB.2, hb with
  | [a, b], _, hb =>
  obtain ⟨va, vb⟩ := firstBad_two hb
  have l4 := (shapeV_nil.1 va).1
  refine cT (by simp) ?_
  by_cases h3 : a = b
  case neg =>
    rw [if_pos (.inl ⟨by first | rfl | exact True.intro, h3⟩)]
    refine bnd (7, args, ([], false, ()), (a, ()), true, ()) ?_ rfl
    refine bT rfl (cT (by simp) (bnd _ (shape_Same_spec a b (by omega) (by omega)) ?_))
    refine bT (by simp [h3]) ?_
    (repeat first | refine cT rfl ?_ | refine cT True.intro ?_)
    rfl
  rw [if_neg (by rintro (⟨_, h⟩ | ⟨h, _⟩ | ⟨h, _⟩); exact h h3; exact absurd h (by decide); exact absurd h (by decide))]
  refine bnd (7, args, ([], false, ()), (a, ()), false, ()) ?_ ?_
  · refine bT rfl (cT (by simp) (bnd _ (shape_Same_spec a b (by omega) (by omega)) ?_))
    refine bF (by simp [h3]) ?_
    (repeat first | refine bT rfl ?_ | refine bF rfl ?_)
    rfl
  refine bF rfl ?_
  have eF : ∀ w, elFair 7 args w = true := fun _ => rfl
  rw [eF, if_neg (show ¬ (true = false) by decide)]
  refine bnd _ rfl ?_
  refine bF rfl ?_
  refine bnd _ (shape_Clone_spec N _ (by first | omega | (dsimp only; omega) | (simp; omega))) ?_
  (repeat first | refine cT rfl ?_ | refine cT True.intro ?_)
  rfl

theorem ER_8 {N : Nat} (hN : 20000 ≤ N) (args : List Int) (ins : List D) (hi : ins.length ≤ 1000) : F_elem_Result N 8 args ins = some (boxD (elemRes 8 args ins).1, ((elemRes 8 args ins).2, ())) := by
  unfold F_elem_Result elemRes
  rw [if_neg (by decide), show elN 8 = 0 from rfl, show elK 8 = 1 from rfl]
  refine bnd _ rfl ?_
  (repeat first | refine bT rfl ?_ | refine bF rfl ?_)
  refine bnd (8, (args, (ins, (([], (false, ())), (1, (decide (args.length ≠ 0 ∨ ins.length ≠ 1), ())))))) ?_ ?_
  · by_cases h1 : args.length = 0
    case neg =>
      refine cT (by first | omega | (dsimp only; omega) | (simp; omega)) ?_
      (repeat first | refine cT rfl ?_ | refine cT True.intro ?_)
      rw [decide_eq_true (p := _ ∨ _) (.inl h1)]
      all_goals rfl
    refine cF (by first | omega | (dsimp only; omega) | (simp; omega)) ?_
    (repeat first | refine cT rfl ?_ | refine cT True.intro ?_)
    dsimp only
    by_cases h2 : ins.length = 1
    · rw [decide_eq_false (show ¬ ((ins.length : Int) ≠ 1) by omega), decide_eq_false (p := _ ∨ _) (by omega)]
      all_goals rfl
    · rw [decide_eq_true (show (ins.length : Int) ≠ 1 by omega), decide_eq_true (p := _ ∨ _) (.inr h2)]
      all_goals rfl
  by_cases hB : args.length ≠ 0 ∨ ins.length ≠ 1
  case pos => rw [if_pos hB]; exact cT hB rfl
  rw [if_neg hB]
  refine cF hB ?_
  (repeat first | refine cT rfl ?_ | refine cT True.intro ?_)
  have h0 := loop_elem_Result hN 8 args ins ([], (false, ())) 1 ins (by first | omega | (dsimp only; omega) | (simp; omega)) N 0 (by omega) (by omega)
  rw [show ((0 : Nat) : Int) = 0 from rfl, List.drop_zero] at h0
  dsimp only
  rw [h0]
  by_cases hb : firstBad ins = .nil
  case neg =>
    rw [if_neg hb, ifNF (isNil_false hb)]
    simp only [Option.bind_some, Sum.elim_inr]
    (repeat first | refine cT rfl ?_ | refine cT True.intro ?_)
    rfl
  rw [if_pos hb, ifNT (nilT hb)]
  simp only [Option.bind_some, Sum.elim_inl]
  simp only [not_or, ne_eq, Decidable.not_not] at hB
  match ins, hB.2, hb with
  | [a], _, hb =>
  have va := firstBad_one hb
  have l4 := (shapeV_nil.1 va).1
  refine cT (by simp) ?_
  rw [if_neg (by rintro (⟨h, _⟩ | ⟨h, _⟩ | ⟨h, _⟩) <;> exact absurd h (by decide))]
  refine bnd (8, args, ([], false, ()), (a, ()), false, ()) rfl ?_
  refine bF rfl ?_
  have eF : ∀ w, elFair 8 args w = true := fun _ => rfl
  rw [eF, if_neg (show ¬ (true = false) by decide)]
  refine bnd _ rfl ?_
  refine bF rfl ?_
  refine bnd _ (shape_Clone_spec N _ (by first | omega | (dsimp only; omega) | (simp; omega))) ?_
  (repeat first | refine cT rfl ?_ | refine cT True.intro ?_)
  rfl

theorem ER_9 {N : Nat} (hN : 20000 ≤ N) (args : List Int) (ins : List D) (hi : ins.length ≤ 1000) : F_elem_Result N 9 args ins = some (boxD (elemRes 9 args ins).1, ((elemRes 9 args ins).2, ())) := by
  unfold F_elem_Result elemRes
  rw [if_neg (by decide), show elN 9 = 2 from rfl, show elK 9 = 1 from rfl]
  refine bnd _ rfl ?_
  (repeat first | refine bT rfl ?_ | refine bF rfl ?_)
  refine bnd (9, (args, (ins, (([], (false, ())), (1, (decide (args.length ≠ 2 ∨ ins.length ≠ 1), ())))))) ?_ ?_
  · by_cases h1 : args.length = 2
    case neg =>
      refine cT (by first | omega | (dsimp only; omega) | (simp; omega)) ?_
      (repeat first | refine cT rfl ?_ | refine cT True.intro ?_)
      rw [decide_eq_true (p := _ ∨ _) (.inl h1)]
      all_goals rfl
    refine cF (by first | omega | (dsimp only; omega) | (simp; omega)) ?_
    (repeat first | refine cT rfl ?_ | refine cT True.intro ?_)
    dsimp only
    by_cases h2 : ins.length = 1
    · rw [decide_eq_false (show ¬ ((ins.length : Int) ≠ 1) by omega), decide_eq_false (p := _ ∨ _) (by omega)]
      all_goals rfl
    · rw [decide_eq_true (show (ins.length : Int) ≠ 1 by omega), decide_eq_true (p := _ ∨ _) (.inr h2)]
      all_goals rfl
  by_cases hB : args.length ≠ 2 ∨ ins.length ≠ 1
  case pos => rw [if_pos hB]; exact cT hB rfl
  rw [if_neg hB]
  refine cF hB ?_
  (repeat first | refine cT rfl ?_ | refine cT True.intro ?_)
  have h0 := loop_elem_Result hN 9 args ins ([], (false, ())) 1 ins (by first | omega | (dsimp only; omega) | (simp; omega)) N 0 (by omega) (by omega)
  rw [show ((0 : Nat) : Int) = 0 from rfl, List.drop_zero] at h0
  dsimp only
  rw [h0]
  by_cases hb : firstBad ins = .nil
  case neg =>
    rw [if_neg hb, ifNF (isNil_false hb)]
    simp only [Option.bind_some, Sum.elim_inr]
    (repeat first | refine cT rfl ?_ | refine cT True.intro ?_)
    rfl
  rw [if_pos hb, ifNT (nilT hb)]
  simp only [Option.bind_some, Sum.elim_inl]
  simp only [not_or, ne_eq, Decidable.not_not] at hB
  match ins, hB.2, hb with
  | [a], _, hb =>
  have va := firstBad_one hb
  have l4 := (shapeV_nil.1 va).1
  refine cT (by simp) ?_
  rw [if_neg (by rintro (⟨h, _⟩ | ⟨h, _⟩ | ⟨h, _⟩) <;> exact absurd h (by decide))]
  refine bnd (9, args, ([], false, ()), (a, ()), false, ()) rfl ?_
  refine bF rfl ?_
  have hlen : args.length = 2 := hB.1
  simp only [List.getD_cons_zero]
  have eF : elFair 9 args a.2 = (fitsB a.2 (args.getD 0 0) && fitsB a.2 (args.getD 1 0) && decide (args.getD 0 0 ≤ args.getD 1 0)) := rfl
  refine bnd (([], false, ()), ((a, ()), (elFair 9 args a.2, (a.2, ())))) ?_ ?_
  · (repeat first | refine bT rfl ?_ | refine bF rfl ?_)
    refine cT (by omega) (cT (by omega) ?_)
    rw [eF]
    by_cases e3 : args.getD 0 0 ≤ args.getD 1 0
    case neg =>
      refine cF e3 ?_
      (repeat first | refine cT rfl ?_ | refine cT True.intro ?_)
      rw [decide_eq_false e3, Bool.and_false]
    refine cT e3 (cT (by omega) (bnd _ (elem_of_spec N _ _) ?_))
    cases e1 : fitsB a.2 (args.getD 0 0)
    · refine bF rfl ?_
      (repeat first | refine cT rfl ?_ | refine cT True.intro ?_)
      rfl
    refine bT rfl (cT (by omega) (bnd _ (elem_of_spec N _ _) ?_))
    (repeat first | refine cT rfl ?_ | refine cT True.intro ?_)
    rw [decide_eq_true e3, Bool.and_true]
    rfl
  skip
  cases hF : elFair 9 args a.2
  · rfl
  refine bF rfl ?_
  refine bnd _ (shape_Clone_spec N _ (by first | omega | (dsimp only; omega) | (simp; omega))) ?_
  (repeat first | refine cT rfl ?_ | refine cT True.intro ?_)
  rfl

theorem ER_10 {N : Nat} (hN : 20000 ≤ N) (args : List Int) (ins : List D) (hi : ins.length ≤ 1000) : F_elem_Result N 10 args ins = some (boxD (elemRes 10 args ins).1, ((elemRes 10 args ins).2, ())) := by
  unfold F_elem_Result elemRes
  rw [if_neg (by decide), show elN 10 = 3 from rfl, show elK 10 = 1 from rfl]
  refine bnd _ rfl ?_
  (repeat first | refine bT rfl ?_ | refine bF rfl ?_)
  refine bnd (10, (args, (ins, (([], (false, ())), (1, (decide (args.length ≠ 3 ∨ ins.length ≠ 1), ())))))) ?_ ?_
  · by_cases h1 : args.length = 3
    case neg =>
      refine cT (by first | omega | (dsimp only; omega) | (simp; omega)) ?_
      (repeat first | refine cT rfl ?_ | refine cT True.intro ?_)
      rw [decide_eq_true (p := _ ∨ _) (.inl h1)]
      all_goals rfl
    refine cF (by first | omega | (dsimp only; omega) | (simp; omega)) ?_
    (repeat first | refine cT rfl ?_ | refine cT True.intro ?_)
    dsimp only
    by_cases h2 : ins.length = 1
    · rw [decide_eq_false (show ¬ ((ins.length : Int) ≠ 1) by omega), decide_eq_false (p := _ ∨ _) (by omega)]
      all_goals rfl
    · rw [decide_eq_true (show (ins.length : Int) ≠ 1 by omega), decide_eq_true (p := _ ∨ _) (.inr h2)]
      all_goals rfl
  by_cases hB : args.length ≠ 3 ∨ ins.length ≠ 1
  case pos => rw [if_pos hB]; exact cT hB rfl
  rw [if_neg hB]
  refine cF hB ?_
  (repeat first | refine cT rfl ?_ | refine cT True.intro ?_)
  have h0 := loop_elem_Result hN 10 args ins ([], (false, ())) 1 ins (by first | omega | (dsimp only; omega) | (simp; omega)) N 0 (by omega) (by omega)
  rw [show ((0 : Nat) : Int) = 0 from rfl, List.drop_zero] at h0
  dsimp only
  rw [h0]
  by_cases hb : firstBad ins = .nil
  case neg =>
    rw [if_neg hb, ifNF (isNil_false hb)]
    simp only [Option.bind_some, Sum.elim_inr]
    (repeat first | refine cT rfl ?_ | refine cT True.intro ?_)
    rfl
  rw [if_pos hb, ifNT (nilT hb)]
  simp only [Option.bind_some, Sum.elim_inl]
  simp only [not_or, ne_eq, Decidable.not_not] at hB
  match ins, hB.2, hb with
  | [a], _, hb =>
  have va := firstBad_one hb
  have l4 := (shapeV_nil.1 va).1
  refine cT (by simp) ?_
  cases h3 : a.2
  case false =>
    rw [if_pos (.inr (.inl ⟨by first | rfl | exact True.intro, h3⟩))]
    refine bnd (10, args, ([], false, ()), (a, ()), true, ()) ?_ rfl
    (repeat first | refine bT rfl ?_ | refine bF rfl ?_)
    refine bT (by simp [h3]) ?_
    (repeat first | refine cT rfl ?_ | refine cT True.intro ?_)
    rfl
  rw [if_neg (by rintro (⟨h, _⟩ | ⟨_, h⟩ | ⟨h, _⟩); exact absurd h (by decide); rw [List.getD_cons_zero, h3] at h; cases h; exact absurd h (by decide))]
  refine bnd (10, args, ([], false, ()), (a, ()), false, ()) ?_ ?_
  · (repeat first | refine bT rfl ?_ | refine bF rfl ?_)
    refine bF (by simp [h3]) ?_
    (repeat first | refine bT rfl ?_ | refine bF rfl ?_)
    rfl
  refine bF rfl ?_
  have hlen : args.length = 3 := hB.1
  simp only [List.getD_cons_zero]
  have eF : elFair 10 args a.2 = (decide (0 ≤ args.getD 0 0) && decide (args.getD 0 0 ≤ 2147483647) && decide (0 ≤ args.getD 1 0) && decide (args.getD 1 0 ≤ 62) && narrowB (args.getD 2 0)) := rfl
  refine bnd (([], false, ()), ((a, ()), (elFair 10 args a.2, (false, ())))) ?_ ?_
  · (repeat first | refine bT rfl ?_ | refine bF rfl ?_)
    refine cT (by omega) (bnd _ (elem_in_spec N _ _ _) ?_)
    rw [eF]
    cases e1 : (decide (0 ≤ args.getD 0 0) && decide (args.getD 0 0 ≤ 2147483647))
    · refine bF rfl ?_
      (repeat first | refine cT rfl ?_ | refine cT True.intro ?_)
      rfl
    refine bT rfl (cT (by omega) (bnd _ (elem_in_spec N _ _ _) ?_))
    rw [Bool.true_and]
    cases e2 : (decide (0 ≤ args.getD 1 0) && decide (args.getD 1 0 ≤ 62))
    · refine bF rfl ?_
      (repeat first | refine cT rfl ?_ | refine cT True.intro ?_)
      rfl
    refine bT rfl (cT (by omega) (bnd _ (elem_of_spec N _ _) ?_))
    (repeat first | refine cT rfl ?_ | refine cT True.intro ?_)
    rfl
  simp only [h3] at *
  cases hF : elFair 10 args true
  · rfl
  refine bF rfl ?_
  refine bnd _ (shape_Clone_spec N _ (by first | omega | (dsimp only; omega) | (simp; omega))) ?_
  (repeat first | refine cT rfl ?_ | refine cT True.intro ?_)
  rfl

theorem ER_11 {N : Nat} (hN : 20000 ≤ N) (args : List Int) (ins : List D) (hi : ins.length ≤ 1000) : F_elem_Result N 11 args ins = some (boxD (elemRes 11 args ins).1, ((elemRes 11 args ins).2, ())) := by
  unfold F_elem_Result elemRes
  rw [if_neg (by decide), show elN 11 = 1 from rfl, show elK 11 = 1 from rfl]
  refine bnd _ rfl ?_
  (repeat first | refine bT rfl ?_ | refine bF rfl ?_)
  refine bnd (11, (args, (ins, (([], (false, ())), (1, (decide (args.length ≠ 1 ∨ ins.length ≠ 1), ())))))) ?_ ?_
  · by_cases h1 : args.length = 1
    case neg =>
      refine cT (by first | omega | (dsimp only; omega) | (simp; omega)) ?_
      (repeat first | refine cT rfl ?_ | refine cT True.intro ?_)
      rw [decide_eq_true (p := _ ∨ _) (.inl h1)]
      all_goals rfl
    refine cF (by first | omega | (dsimp only; omega) | (simp; omega)) ?_
    (repeat first | refine cT rfl ?_ | refine cT True.intro ?_)
    dsimp only
    by_cases h2 : ins.length = 1
    · rw [decide_eq_false (show ¬ ((ins.length : Int) ≠ 1) by omega), decide_eq_false (p := _ ∨ _) (by omega)]
      all_goals rfl
    · rw [decide_eq_true (show (ins.length : Int) ≠ 1 by omega), decide_eq_true (p := _ ∨ _) (.inr h2)]
      all_goals rfl
  by_cases hB : args.length ≠ 1 ∨ ins.length ≠ 1
  case pos => rw [if_pos hB]; exact cT hB rfl
  rw [if_neg hB]
  refine cF hB ?_
  (repeat first | refine cT rfl ?_ | refine cT True.intro ?_)
  have h0 := loop_elem_Result hN 11 args ins ([], (false, ())) 1 ins (by first | omega | (dsimp only; omega) | (simp; omega)) N 0 (by omega) (by omega)
  rw [show ((0 : Nat) : Int) = 0 from rfl, List.drop_zero] at h0
  dsimp only
  rw [h0]
  by_cases hb : firstBad ins = .nil
  case neg =>
    rw [if_neg hb, ifNF (isNil_false hb)]
    simp only [Option.bind_some, Sum.elim_inr]
    (repeat first | refine cT rfl ?_ | refine cT True.intro ?_)
    rfl
  rw [if_pos hb, ifNT (nilT hb)]
  simp only [Option.bind_some, Sum.elim_inl]
  simp only [not_or, ne_eq, Decidable.not_not] at hB
  match ins, hB.2, hb with
  | [a], _, hb =>
  have va := firstBad_one hb
  have l4 := (shapeV_nil.1 va).1
  refine cT (by simp) ?_
  cases h3 : a.2
  case true =>
    rw [if_pos (.inr (.inr ⟨by first | rfl | exact True.intro, h3⟩))]
    refine bnd (11, args, ([], false, ()), (a, ()), true, ()) ?_ rfl
    (repeat first | refine bT rfl ?_ | refine bF rfl ?_)
    simp only [List.getD_cons_zero, h3]
  rw [if_neg (by rintro (⟨h, _⟩ | ⟨h, _⟩ | ⟨_, h⟩); exact absurd h (by decide); exact absurd h (by decide); rw [List.getD_cons_zero, h3] at h; cases h)]
  refine bnd (11, args, ([], false, ()), (a, ()), false, ()) ?_ ?_
  · (repeat first | refine bT rfl ?_ | refine bF rfl ?_)
    simp only [List.getD_cons_zero, h3]
  refine bF rfl ?_
  have hlen : args.length = 1 := hB.1
  simp only [List.getD_cons_zero]
  have eF : elFair 11 args a.2 = narrowB (args.getD 0 0) := rfl
  refine bnd (([], false, ()), ((a, ()), (elFair 11 args a.2, (true, ())))) ?_ ?_
  · (repeat first | refine bT rfl ?_ | refine bF rfl ?_)
    refine cT (by first | omega | (dsimp only; omega) | (simp; omega)) (bnd _ (elem_of_spec N _ _) ?_)
    (repeat first | refine cT rfl ?_ | refine cT True.intro ?_)
    rfl
  simp only [h3] at *
  cases hF : elFair 11 args false
  · rfl
  refine bF rfl ?_
  refine bnd _ (shape_Clone_spec N _ (by first | omega | (dsimp only; omega) | (simp; omega))) ?_
  (repeat first | refine cT rfl ?_ | refine cT True.intro ?_)
  rfl

theorem elem_Result_spec {N : Nat} (hN : 20000 ≤ N) (op : Int) (args : List Int) (ins : List D) (hi : ins.length ≤ 1000) : F_elem_Result N op args ins = some (boxD (elemRes op args ins).1, ((elemRes op args ins).2, ())) := by
  by_cases hop : 4 ≤ op ∧ op ≤ 11
  · have h : op = 4 ∨ op = 5 ∨ op = 6 ∨ op = 7 ∨ op = 8 ∨ op = 9 ∨ op = 10 ∨ op = 11 := by omega
    rcases h with rfl | rfl | rfl | rfl | rfl | rfl | rfl | rfl
    · exact ER_4 hN args ins hi
    · exact ER_5 hN args ins hi
    · exact ER_6 hN args ins hi
    · exact ER_7 hN args ins hi
    · exact ER_8 hN args ins hi
    · exact ER_9 hN args ins hi
    · exact ER_10 hN args ins hi
    · exact ER_11 hN args ins hi
  · unfold elemRes
    rw [if_pos hop]
    unfold F_elem_Result
    refine bnd (0, (0, (false, ()))) ?_ (bT rfl rfl)
    unfold F_elem_counts
    refine cF (by omega) (cF (by omega) (cF (by omega) (cF (by omega) (cF (by omega) (cF (by omega) (cF (by omega) (cF (by omega) rfl)))))))

/-! an operation of one element -/

theorem quant_cut_spec (N : Nat) (x : Int) {lo hi : Int} (h : lo ≤ hi) : F_quant_cut N x lo hi = some (cut x lo hi, ()) := by
  unfold F_quant_cut imax imin cut
  congr 2
  repeat' split
  all_goals omega

theorem shl_one' {s : Nat} (h1 : 1 ≤ s) (h2 : s ≤ 62) : shlI IntKind.i64 1 (wi64 ((s : Int) - 1)) = 2 ^ (s - 1) := by
  have e1 : wi64 ((s : Int) - 1) = ((s - 1 : Nat) : Int) := by rw [wi64_in (by omega) (by omega)]; omega
  have hb := pow_bound (s := s - 1) (by omega)
  rw [e1]
  unfold shlI
  rw [show IntKind.bits .i64 = 64 from rfl, Int.toNat_natCast, Nat.min_eq_left (by omega), Int.one_mul]
  exact wi64_in (by omega) (by omega)

theorem shr_at' {p : Int} {s : Nat} (h2 : s ≤ 62) : shrI IntKind.i64 p (s : Int) = p / 2 ^ s := by
  unfold shrI
  rw [show IntKind.bits .i64 = 64 from rfl, Int.toNat_natCast, Nat.min_eq_left (by omega), Int.fdiv_eq_ediv_of_nonneg]
  have : (0 : Int) < 2 ^ s := Int.pow_pos (by omega)
  omega

theorem div_pow_bound {p : Int} (h : -9223372036854775000 ≤ p ∧ p ≤ 9223372036854775000) {s : Nat} : -9223372036854775000 ≤ p / 2 ^ s ∧ p / 2 ^ s ≤ 9223372036854775000 := by
  have h1 : 1 ≤ (2 : Nat) ^ s := Nat.one_le_two_pow
  have e : ((2 : Int) ^ s) = ((2 ^ s : Nat) : Int) := by simp
  rw [e]
  generalize (2 : Nat) ^ s = q at *
  constructor
  · exact Int.le_ediv_of_mul_le (by omega) (by omega)
  · exact Int.ediv_le_of_le_mul (by omega) (by omega)

theorem quant_Requant_spec (N : Nat) (x m s z : Int) : F_quant_Requant N x m s z = some (requ x m s z, ()) := by
  unfold F_quant_Requant requ
  refine bnd _ (quant_cut_spec N _ (by omega)) (bnd _ (quant_cut_spec N _ (by omega)) (bnd _ (quant_cut_spec N _ (by omega)) ?_))
  have hs := cut_in (x := s) (lo := 0) (hi := 62) (by omega)
  have hz := cut_in (x := z) (lo := -128) (hi := 127) (by omega)
  have hp := requ_prod x m
  obtain ⟨S, hS⟩ : ∃ S : Nat, cut s 0 62 = (S : Int) := ⟨(cut s 0 62).toNat, by omega⟩
  rw [hS] at hs ⊢
  dsimp only
  generalize cut x (-2147483648) 2147483647 * cut m 0 2147483647 = p at *
  rw [wi64_in (n := p) (by omega) (by omega)]
  by_cases h0 : (0 : Int) < S
  · rw [if_pos h0]
    have hb := pow_bound (s := S - 1) (by omega)
    refine cT h0 (cT (by rw [wi64_in (by omega) (by omega)]; omega) (cT (by omega) ?_))
    rw [shl_one' (by omega) (by omega), wi64_in (n := p + 2 ^ (S - 1)) (by omega) (by omega), shr_at' (by omega)]
    have hd := div_pow_bound (p := p + 2 ^ (S - 1)) (by omega) (s := S)
    refine bnd _ (quant_cut_spec N _ (by omega)) ?_
    dsimp only
    rw [wi64_in (by omega) (by omega)]
    refine bnd _ (quant_cut_spec N _ (by omega)) ?_
    rw [Int.toNat_natCast]
  · rw [if_neg h0]
    refine cF h0 (bnd _ (quant_cut_spec N _ (by omega)) ?_)
    dsimp only
    rw [wi64_in (by omega) (by omega)]
    exact bnd _ (quant_cut_spec N _ (by omega)) rfl

theorem elem_kind_spec (N : Nat) (n : Int) (w : Bool) : F_elem_kind N n w = some (kept w n, ()) := by
  unfold F_elem_kind kept
  cases w
  · refine bF rfl (bnd _ (tens_Narrow_spec N _) ?_)
    rw [if_neg (by decide)]
    unfold cut
    congr 2
    repeat' split
    all_goals omega
  · exact bT rfl (bnd _ (tens_Wide_spec N _) rfl)

theorem elem_counts_spec (N : Nat) (op : Int) : ∃ k b, F_elem_counts N op = some (k, (((elN op : Nat) : Int), (b, ()))) := by
  unfold F_elem_counts
  by_cases h4 : op = 4
  · subst h4; exact ⟨_, _, rfl⟩
  by_cases h5 : op = 5
  · subst h5; exact ⟨_, _, rfl⟩
  by_cases h6 : op = 6
  · subst h6; exact ⟨_, _, rfl⟩
  by_cases h7 : op = 7
  · subst h7; exact ⟨_, _, rfl⟩
  by_cases h8 : op = 8
  · subst h8; exact ⟨_, _, rfl⟩
  by_cases h9 : op = 9
  · subst h9; exact ⟨_, _, rfl⟩
  by_cases h10 : op = 10
  · subst h10; exact ⟨_, _, rfl⟩
  by_cases h11 : op = 11
  · subst h11; exact ⟨_, _, rfl⟩
  refine ⟨0, false, cF h4 (cF h5 (cF h6 (cF h7 (cF h8 (cF h9 (cF h10 (cF h11 ?_)))))))⟩
  unfold elN
  rw [if_neg h9, if_neg h10, if_neg h11]
  rfl

theorem elem_Value_spec (N : Nat) (op : Int) (w : Bool) {x y : Int} {args : List Int} (hx : -2147483648 ≤ x ∧ x ≤ 2147483647) (hy : -2147483648 ≤ y ∧ y ≤ 2147483647) (h9 : op = 9 → args.getD 0 0 ≤ args.getD 1 0) (h11 : op = 11 → -2147483648 ≤ args.getD 0 0 ∧ args.getD 0 0 ≤ 2147483647) :
    F_elem_Value N op w x y args = some (if args.length < elN op then 0 else elV op w x y args, ()) := by
  unfold F_elem_Value
  obtain ⟨k, b, hc⟩ := elem_counts_spec N op
  refine bnd _ hc ?_
  by_cases hl : args.length < elN op
  · rw [if_pos hl]
    exact cT (by dsimp only; omega) rfl
  rw [if_neg hl]
  refine cF (by dsimp only; omega) ?_
  unfold elV
  have hargs : elN op ≤ args.length := by omega
  unfold elN at hargs
  by_cases h4 : op = 4
  · subst h4
    refine cT rfl ?_
    rw [if_pos rfl, wi64_in (by omega) (by omega)]
    exact bnd _ (elem_kind_spec N _ _) rfl
  refine cF h4 ?_
  rw [if_neg h4]
  by_cases h5 : op = 5
  · subst h5
    refine cT rfl ?_
    rw [if_pos rfl, wi64_in (by omega) (by omega)]
    exact bnd _ (elem_kind_spec N _ _) rfl
  refine cF h5 ?_
  rw [if_neg h5]
  by_cases h6 : op = 6
  · subst h6
    refine cT rfl ?_
    have hp := mul_abs (A := 2147483648) (B := 2147483648) (a := x) (b := y) (by omega) (by omega) (by omega) (by omega)
    rw [if_pos rfl, wi64_in (by omega) (by omega)]
    exact bnd _ (elem_kind_spec N _ _) rfl
  refine cF h6 ?_
  rw [if_neg h6]
  by_cases h7 : op = 7
  · subst h7
    refine cT rfl ?_
    rw [if_pos rfl, imax_eq']
  refine cF h7 ?_
  rw [if_neg h7]
  by_cases h8 : op = 8
  · subst h8
    refine cT rfl ?_
    rw [if_pos rfl, imax_eq']
  refine cF h8 ?_
  rw [if_neg h8]
  by_cases h9' : op = 9
  · have hr := h9 h9'
    subst h9'
    rw [if_pos rfl] at hargs
    refine cT rfl (cT (by omega) (cT (by omega) ?_))
    rw [if_pos rfl]
    congr 2
    unfold imax imin cut
    repeat' split
    all_goals omega
  refine cF h9' ?_
  rw [if_neg h9'] at hargs ⊢
  by_cases h10 : op = 10
  · subst h10
    rw [if_pos rfl] at hargs
    refine cT rfl (cT (by omega) (cT (by omega) (cT (by omega) ?_)))
    rw [if_pos rfl]
    exact bnd _ (quant_Requant_spec N _ _ _ _) rfl
  refine cF h10 ?_
  rw [if_neg h10] at hargs ⊢
  by_cases h11' : op = 11
  · have hr := h11 h11'
    subst h11'
    rw [if_pos rfl] at hargs
    refine cT rfl (cT (by omega) ?_)
    rw [if_pos rfl, wi64_in (by omega) (by omega)]
  refine cF h11' ?_
  rw [if_neg h11']

theorem elem_Value_out (N : Nat) (op : Int) (w : Bool) (x y : Int) (args : List Int) (h : ¬ (4 ≤ op ∧ op ≤ 11)) : F_elem_Value N op w x y args = some (0, ()) := by
  unfold F_elem_Value
  obtain ⟨k, b, hc⟩ := elem_counts_spec N op
  refine bnd _ hc ?_
  have e : elN op = 0 := by unfold elN; rw [if_neg (by omega), if_neg (by omega), if_neg (by omega)]
  rw [e]
  refine cF (by dsimp only; omega) (cF (by omega) (cF (by omega) (cF (by omega) (cF (by omega) (cF (by omega) (cF (by omega) (cF (by omega) (cF (by omega) rfl))))))))

/-! tensors -/

def elY (ins : List T) (i : Nat) : Int := if 1 < ins.length then (ins.getD 1 (([], false), [])).2.getD i 0 else 0

def elE (op : Int) (args : List Int) (ins : List T) (i : Nat) : Int := elV op (ins.getD 0 (([], false), [])).1.2 ((ins.getD 0 (([], false), [])).2.getD i 0) (elY ins i) args

theorem elemRes_ok {op : Int} {args : List Int} {ins : List D} (h : (elemRes op args ins).2 = .nil) : (4 ≤ op ∧ op ≤ 11) ∧ args.length = elN op ∧ ins.length = elK op ∧ firstBad ins = .nil ∧
    (elK op = 2 → ins.getD 0 noD = ins.getD 1 noD) ∧ (op = 10 → (ins.getD 0 noD).2 = true) ∧ (op = 11 → (ins.getD 0 noD).2 = false) ∧ elFair op args (ins.getD 0 noD).2 = true ∧ (elemRes op args ins).1 = ((ins.getD 0 noD).1, elWide op (ins.getD 0 noD).2) := by
  unfold elemRes at h ⊢
  by_cases h1 : 4 ≤ op ∧ op ≤ 11
  case neg => rw [if_pos h1] at h; cases h
  rw [if_neg (fun h => h h1)] at h ⊢
  by_cases h2 : args.length ≠ elN op ∨ ins.length ≠ elK op
  · rw [if_pos h2] at h; cases h
  rw [if_neg h2] at h ⊢
  by_cases h3 : firstBad ins = .nil
  case neg => rw [ifNF (isNil_false h3)] at h; exact absurd h h3
  rw [ifNT (nilT h3)] at h ⊢
  by_cases h4 : elK op = 2 ∧ ins.getD 0 noD ≠ ins.getD 1 noD ∨ op = 10 ∧ (ins.getD 0 noD).2 = false ∨ op = 11 ∧ (ins.getD 0 noD).2 = true
  · rw [if_pos h4] at h; cases h
  rw [if_neg h4] at h ⊢
  by_cases h5 : elFair op args (ins.getD 0 noD).2 = false
  · rw [if_pos h5] at h; cases h
  rw [if_neg h5] at h ⊢
  simp only [not_or, ne_eq, Decidable.not_not] at h2
  refine ⟨h1, h2.1, h2.2, h3, fun hk => Decidable.byContradiction fun hn => h4 (.inl ⟨hk, hn⟩), fun ho => ?_, fun ho => ?_, by simpa using h5, rfl⟩
  · cases hw : (ins.getD 0 noD).2
    · exact absurd (.inr (.inl ⟨ho, hw⟩)) h4
    · rfl
  · cases hw : (ins.getD 0 noD).2
    · rfl
    · exact absurd (.inr (.inr ⟨ho, hw⟩)) h4

theorem elFair_9 {args : List Int} {w : Bool} (h : elFair 9 args w = true) : args.getD 0 0 ≤ args.getD 1 0 := by
  have e : elFair 9 args w = (fitsB w (args.getD 0 0) && fitsB w (args.getD 1 0) && decide (args.getD 0 0 ≤ args.getD 1 0)) := rfl
  rw [e] at h
  simp only [Bool.and_eq_true, decide_eq_true_eq] at h
  exact h.2

theorem elFair_11 {args : List Int} {w : Bool} (h : elFair 11 args w = true) : -128 ≤ args.getD 0 0 ∧ args.getD 0 0 ≤ 127 := narrowB_iff.1 h

theorem loop_elem_apply_0 {N : Nat} (hN : 20000 ≤ N) (op : Int) (args : List Int) (ins : List T) (t : List Int × (Bool × (List Int × Unit))) (l : List T) (hl : l.length ≤ 1000) : ∀ (n i : Nat), i ≤ l.length → l.length < n + i →
    g_elem_apply_0 N n op args ins t ((l.map Prod.fst).take i) l l.length i = if firstBadT (l.drop i) = .nil then some (.inl (op, (args, (ins, (t, (l.map Prod.fst, ())))))) else some (.inr (([], (false, ([], ()))), (firstBadT (l.drop i), ())))
  | 0, i, h, h' => by omega
  | n + 1, i, h, h' => by
    rw [g_elem_apply_0]
    by_cases hi : i < l.length
    · have hlen : ((l.map Prod.fst).take i).length = i := by simp; omega
      have e : List.take (List.length ((l.map Prod.fst).take i)) ((l.map Prod.fst).take i) ++ [(l.getD i (([], false), [])).1] = (l.map Prod.fst).take (i + 1) := by
        rw [List.take_length, List.take_succ_eq_append_getElem (by simpa using hi), getD_lt hi]
        simp
      refine cT (by omega) (cT (by omega) (cT (by simpa using hi) (bnd _ (tens_Valid_spec hN _) ?_)))
      rw [drop_cons hi (([], false), []), Int.toNat_natCast, wi64_succ (by omega), firstBadT]
      by_cases h1 : tensV (l.getD i (([], false), [])) = .nil
      · rw [ifT (nilT h1)]
        refine bF (by dsimp only; rw [nilT h1]; rfl) (cT (by omega) ?_)
        rw [e]
        refine cT (by rw [hlen]; simp only [most]; omega) ?_
        (repeat first | refine cT rfl ?_ | refine cT True.intro ?_)
        refine cT (by simp; omega) ?_
        exact loop_elem_apply_0 hN op args ins t l hl n (i + 1) hi (by omega)
      · rw [ifF (isNil_false h1), if_neg h1]
        exact bT (by dsimp only; rw [isNil_false h1]; rfl) rfl
    · refine cF (by omega) ?_
      rw [List.drop_eq_nil_of_le (by omega), List.take_of_length_le (by simp; omega)]
      (repeat first | refine cT rfl ?_ | refine cT True.intro ?_)
      rfl

theorem loop_elem_apply_1 (N : Nat) (op : Int) (args : List Int) (ins : List T) (t : List Int × (Bool × (List Int × Unit))) (a : T) (sh : List Int) (w : Bool) (hl : a.2.length ≤ 1000000) (h2 : 1 < ins.length → (ins.getD 1 (([], false), [])).2.length = a.2.length) (f : Nat → Int)
    (hf : ∀ i, i < a.2.length → F_elem_Value N op a.1.2 (a.2.getD i 0) (elY ins i) args = some (f i, ())) : ∀ (cnt i : Nat), i ≤ a.2.length → a.2.length < cnt + i →
    g_elem_apply_1 N cnt op args ins t (a, ()) (boxT sh w ((List.range i).map f)) a.2 a.2.length i = some (t, (boxT sh w ((List.range a.2.length).map f), ()))
  | 0, i, h, h' => by omega
  | cnt + 1, i, h, h' => by
    rw [g_elem_apply_1]
    by_cases hi : i < a.2.length
    · have e : List.take (List.length ((List.range i).map f)) ((List.range i).map f) ++ [f i] = (List.range (i + 1)).map f := by
        rw [List.take_length, List.range_succ, List.map_append]
        rfl
      have hv := hf i hi
      unfold elY at hv
      refine cT (by omega) (cT (by omega) (cT (by simpa using hi) ?_))
      simp only [Int.toNat_natCast]
      by_cases h1 : 1 < ins.length
      · rw [if_pos h1] at hv
        refine cT (by omega) (cT h1 (cT (by omega) (cT (by rw [h2 h1]; exact hi) (bnd _ hv ?_))))
        refine cT (by omega) (cT (by simp [most]; omega) ?_)
        (repeat first | refine cT rfl ?_ | refine cT True.intro ?_)
        simp only [e]
        refine cT (by simp) ?_
        rw [wi64_succ (by omega)]
        exact loop_elem_apply_1 N op args ins t a sh w hl h2 f hf cnt (i + 1) hi (by omega)
      · rw [if_neg h1] at hv
        refine cF (by omega) (bnd _ hv ?_)
        refine cT (by omega) (cT (by simp [most]; omega) ?_)
        (repeat first | refine cT rfl ?_ | refine cT True.intro ?_)
        simp only [e]
        refine cT (by simp) ?_
        rw [wi64_succ (by omega)]
        exact loop_elem_apply_1 N op args ins t a sh w hl h2 f hf cnt (i + 1) hi (by omega)
    · have : i = a.2.length := by omega
      refine cF (by omega) ?_
      (repeat first | refine cT rfl ?_ | refine cT True.intro ?_)
      rw [this]

/-- the answer of tensors -/
def elemApp (op : Int) (args : List Int) (ins : List T) : T × Er :=
  if firstBadT ins ≠ .nil then ((noD, []), firstBadT ins)
  else if (elemRes op args (ins.map Prod.fst)).2 ≠ .nil then ((noD, []), (elemRes op args (ins.map Prod.fst)).2)
  else (((elemRes op args (ins.map Prod.fst)).1, (List.range (ins.getD 0 (([], false), [])).2.length).map (elE op args ins)), .nil)

theorem elemApp_OK (op : Int) (args : List Int) (ins : List T) : erOK (elemApp op args ins).2 := by
  unfold elemApp
  repeat' split
  all_goals first | exact True.intro | exact firstBadT_OK _ | exact elemRes_OK _ _ _

/-- of one or two, all of one length -/
theorem elem_lens {op : Int} {args : List Int} {ins : List T} (hr : (elemRes op args (ins.map Prod.fst)).2 = .nil) (hv : firstBadT ins = .nil) :
    0 < ins.length ∧ tensV (ins.getD 0 (([], false), [])) = .nil ∧ (ins.map Prod.fst).getD 0 noD = (ins.getD 0 (([], false), [])).1 ∧ (1 < ins.length → tensV (ins.getD 1 (([], false), [])) = .nil ∧ (ins.getD 1 (([], false), [])).2.length = (ins.getD 0 (([], false), [])).2.length) := by
  obtain ⟨h1, h2, h3, _, h5, _, _, h8, _⟩ := elemRes_ok hr
  have hk : elK op = 2 ∨ elK op = 1 := by unfold elK; split <;> simp
  rcases hk with hk | hk
  · rw [List.length_map, hk] at h3
    match ins, h3 with
    | [a, b], _ =>
    obtain ⟨va, vb⟩ := firstBadT_two hv
    have hab : a.1 = b.1 := h5 hk
    refine ⟨by simp, va, rfl, fun _ => ⟨vb, ?_⟩⟩
    have h6 := tensV_len va
    have h7 := tensV_len vb
    rw [hab] at h6
    simp only [List.getD_cons_zero, List.getD_cons_succ]
    omega
  · rw [List.length_map, hk] at h3
    match ins, h3 with
    | [a], _ => exact ⟨by simp, firstBadT_one hv, rfl, fun h => by simp at h⟩

theorem elem_apply_spec {N : Nat} (hN : 20000 ≤ N) (op : Int) (args : List Int) (ins : List T) (hi : ins.length ≤ 1000) : F_elem_apply N op args ins = some (boxT (elemApp op args ins).1.1.1 (elemApp op args ins).1.1.2 (elemApp op args ins).1.2, ((elemApp op args ins).2, ())) := by
  unfold F_elem_apply elemApp
  have h0 := loop_elem_apply_0 hN op args ins ([], (false, ([], ()))) ins hi N 0 (by omega) (by omega)
  rw [show ((0 : Nat) : Int) = 0 from rfl, List.drop_zero, List.take_zero] at h0
  rw [h0]
  by_cases hv : firstBadT ins = .nil
  case neg =>
    rw [if_neg hv, if_pos hv]
    simp only [Option.bind_some, Sum.elim_inr]
    (repeat first | refine cT rfl ?_ | refine cT True.intro ?_)
    rfl
  rw [if_pos hv, if_neg (fun h => h hv)]
  simp only [Option.bind_some, Sum.elim_inl]
  refine cT (by simp) ?_
  (try simp only [List.take_length])
  have hm : List.take (List.length (ins.map Prod.fst)) (ins.map Prod.fst) = ins.map Prod.fst := List.take_length
  (try rw [hm])
  refine bnd _ (elem_Result_spec hN op args _ (by simpa using hi)) ?_
  by_cases hr : (elemRes op args (ins.map Prod.fst)).2 = .nil
  case neg =>
    rw [if_pos hr]
    exact bT (by simp [isNil_false hr]) rfl
  rw [if_neg (fun h => h hr)]
  obtain ⟨p1, p2, p3, p4⟩ := elem_lens hr hv
  obtain ⟨h1, h2, h3, _, h5, _, _, h8, _⟩ := elemRes_ok hr
  have hb := elems_bound (ins.getD 0 (([], false), [])).1.1
  have hl := tensV_len p2
  refine bF (by simp [hr, Er.isNil]) (cT p1 ?_)
  (repeat first | refine cT rfl ?_ | refine cT True.intro ?_)
  have h1 := loop_elem_apply_1 N op args ins ([], (false, ([], ()))) (ins.getD 0 (([], false), [])) (elemRes op args (ins.map Prod.fst)).1.1 (elemRes op args (ins.map Prod.fst)).1.2 (by omega) (fun h => (p4 h).2) (elE op args ins) (fun i hi => by
    have hy : -2147483648 ≤ elY ins i ∧ elY ins i ≤ 2147483647 := by
      unfold elY
      split
      · rename_i hh
        exact tensV_in (p4 hh).1 _
      · omega
    rw [elem_Value_spec N op _ (tensV_in p2 i) hy (fun ho => by subst ho; exact elFair_9 h8) (fun ho => by subst ho; have := elFair_11 h8; omega), if_neg (by omega)]
    rfl) N 0 (by omega) (by omega)
  rw [show ((0 : Nat) : Int) = 0 from rfl] at h1
  refine bnd _ h1 ?_
  (repeat first | refine cT rfl ?_ | refine cT True.intro ?_)
  rfl

theorem elem_Two_spec {N : Nat} (hN : 20000 ≤ N) (op : Int) (a b : T) : F_elem_Two N op a b = some (boxT (elemApp op [] [a, b]).1.1.1 (elemApp op [] [a, b]).1.1.2 (elemApp op [] [a, b]).1.2, ((elemApp op [] [a, b]).2, ())) := by
  unfold F_elem_Two
  refine bnd _ (elem_apply_spec hN op [] [a, b] (by simp)) ?_
  (repeat first | refine cT rfl ?_ | refine cT True.intro ?_)
  rfl

theorem elem_One_spec {N : Nat} (hN : 20000 ≤ N) (op : Int) (a : T) (args : List Int) : F_elem_One N op a args = some (boxT (elemApp op args [a]).1.1.1 (elemApp op args [a]).1.1.2 (elemApp op args [a]).1.2, ((elemApp op args [a]).2, ())) := by
  unfold F_elem_One
  refine bnd _ (elem_apply_spec hN op args [a] (by simp)) ?_
  (repeat first | refine cT rfl ?_ | refine cT True.intro ?_)
  rfl

end Go.Proofs.YtmbcbocnncfpbaaDoor.Lg
