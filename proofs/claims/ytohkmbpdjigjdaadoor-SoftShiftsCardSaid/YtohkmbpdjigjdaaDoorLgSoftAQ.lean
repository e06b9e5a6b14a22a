/-
  What the program's functions come to, in plain words.
-/
import Derived.Test.YtohkmbpdjigjdaaDoorLgSoftAP
namespace Go.Proofs.YtohkmbpdjigjdaaDoor.Lg
open Go Go.Eng Go.Proofs

/-- three dimensions -/
theorem shape_nat_three {sh : List Int} (h : shapeV sh = .nil) (hl : sh.length = 3) : ∃ a b c : Nat, sh = [(a : Int), (b : Int), (c : Int)] ∧ (1 ≤ a ∧ a ≤ 256) ∧ (1 ≤ b ∧ b ≤ 256) ∧ (1 ≤ c ∧ c ≤ 256) ∧ a * b * c ≤ 16384 ∧ elems sh = ((a * b * c : Nat) : Int) := by
  obtain ⟨ns, e, _, hn, _, h5, h6⟩ := shape_nat h
  rw [e] at hl
  match ns, hl with
  | [a, b, c], _ =>
    simp only [prodN, Nat.mul_one] at h5 h6
    rw [← Nat.mul_assoc] at h5 h6
    exact ⟨a, b, c, e, hn a (by simp), hn b (by simp), hn c (by simp), h5, h6⟩

theorem firstBadT_two {a b : T} (h : firstBadT [a, b] = .nil) : tensV a = .nil ∧ tensV b = .nil := by
  unfold firstBadT firstBadT firstBadT at h
  by_cases ha : tensV a = .nil
  case neg => rw [ifF (isNil_false ha)] at h; exact absurd h ha
  rw [ifT (nilT ha)] at h
  by_cases hb : tensV b = .nil
  case neg => rw [ifF (isNil_false hb)] at h; exact absurd h hb
  exact ⟨ha, hb⟩

theorem firstBadT_one {a : T} (h : firstBadT [a] = .nil) : tensV a = .nil := by
  unfold firstBadT firstBadT at h
  by_cases ha : tensV a = .nil
  case neg => rw [ifF (isNil_false ha)] at h; exact absurd h ha
  exact ha

theorem tensV_in {a : T} (h : tensV a = .nil) (p : Nat) : -2147483648 ≤ a.2.getD p 0 ∧ a.2.getD p 0 ≤ 2147483647 := by
  have h3 := ((tensV_iff a).1 h).2.2
  rcases Nat.lt_or_ge p a.2.length with hp | hp
  · have := h3 _ (List.getElem_mem hp)
    rw [getD_lt hp]
    cases hw : a.1.2
    · rw [hw] at this; have := fitsB_narrow.1 this; omega
    · rw [hw] at this; exact fitsB_wide.1 this
  · rw [List.getD_eq_getElem?_getD, List.getElem?_eq_none hp]; simp

theorem tensV_narrowD {a : T} (h : tensV a = .nil) (hw : a.1.2 = false) (p : Nat) : -128 ≤ a.2.getD p 0 ∧ a.2.getD p 0 ≤ 127 := by
  have h3 := ((tensV_iff a).1 h).2.2
  rcases Nat.lt_or_ge p a.2.length with hp | hp
  · have := h3 _ (List.getElem_mem hp)
    rw [getD_lt hp]
    rw [hw] at this; exact fitsB_narrow.1 this
  · rw [List.getD_eq_getElem?_getD, List.getElem?_eq_none hp]; simp

theorem tensV_len {a : T} (h : tensV a = .nil) : (a.2.length : Int) = elems a.1.1 := ((tensV_iff a).1 h).2.1

theorem tensV_shape {a : T} (h : tensV a = .nil) : shapeV a.1.1 = .nil := ((tensV_iff a).1 h).1

/-! pools, by the document -/

def poolSh (n s : Int) (a : List Int) : List Int := [(a.getD 0 0 - n) / s + 1, (a.getD 1 0 - n) / s + 1, a.getD 2 0]

def poolRes (ar : List Int) (a : D) : D × Er :=
  if ar.length ≠ 2 then (noD, .s ErrShape)
  else if !(shapeV a.1).isNil then (noD, shapeV a.1)
  else if a.1.length ≠ 3 then (noD, .s ErrShape)
  else if ar.getD 0 0 < 1 ∨ 16 < ar.getD 0 0 ∨ ar.getD 1 0 < 1 ∨ 16 < ar.getD 1 0 then (noD, .s ErrRange)
  else if a.1.getD 0 0 < ar.getD 0 0 ∨ a.1.getD 1 0 < ar.getD 0 0 then (noD, .s ErrShape)
  else ((poolSh (ar.getD 0 0) (ar.getD 1 0) a.1, a.2), .nil)

theorem poolRes_bare (ar : List Int) (a : D) : bareE (poolRes ar a).2 := by
  unfold poolRes
  repeat' split
  all_goals first | exact True.intro | (dsimp only; exact shapeV_bare _)

theorem poolRes_OK (ar : List Int) (a : D) : erOK (poolRes ar a).2 := by
  unfold poolRes
  repeat' split
  all_goals first | exact True.intro | exact (show ErrShape < 21 by decide) | exact (show ErrRange < 21 by decide) | (dsimp only; exact shapeV_OK _)

theorem poolSh_nat {h w c n s : Nat} (hn : 1 ≤ n) (hs : 1 ≤ s) (h1 : n ≤ h) (h2 : n ≤ w) : poolSh (n : Int) (s : Int) [(h : Int), (w : Int), (c : Int)] = [(((h - n) / s + 1 : Nat) : Int), (((w - n) / s + 1 : Nat) : Int), (c : Int)] := by
  unfold poolSh
  simp only [List.getD_cons_zero, List.getD_cons_succ]
  rw [show (h : Int) - n = ((h - n : Nat) : Int) by omega, show (w : Int) - n = ((w - n : Nat) : Int) by omega]
  simp

theorem pool_dim {h n s : Nat} (hn : 1 ≤ n) (hs : 1 ≤ s) (h1 : n ≤ h) : 1 ≤ (h - n) / s + 1 ∧ (h - n) / s + 1 ≤ h := by
  have := Nat.div_le_self (h - n) s
  generalize (h - n) / s = q at *
  omega

theorem pool_prod {h w c n s : Nat} (hn : 1 ≤ n) (hs : 1 ≤ s) (h1 : n ≤ h) (h2 : n ≤ w) (hp : h * w * c ≤ 16384) : ((h - n) / s + 1) * ((w - n) / s + 1) * c ≤ 16384 :=
  Nat.le_trans (Nat.mul_le_mul_right c (Nat.mul_le_mul (pool_dim hn hs h1).2 (pool_dim hn hs h2).2)) hp

/-- the greatest of the first ones -/
def mx (f : Nat → Int) : Nat → Int
  | 0 => f 0
  | k + 1 => max (mx f k) (f (k + 1))

def bst (f : Nat → Int) : Nat → Int
  | 0 => 0
  | k + 1 => mx f k

theorem mx_bound {f : Nat → Int} {lo hi : Int} (h : ∀ i, lo ≤ f i ∧ f i ≤ hi) : ∀ k, lo ≤ mx f k ∧ mx f k ≤ hi
  | 0 => h 0
  | k + 1 => by
    have := mx_bound h k
    have := h (k + 1)
    simp only [mx]
    omega

theorem mx_ge {f : Nat → Int} : ∀ {k i : Nat}, i ≤ k → f i ≤ mx f k
  | 0, i, h => by
    have : i = 0 := by omega
    subst this
    exact Int.le_refl _
  | k + 1, i, h => by
    simp only [mx]
    by_cases e : i = k + 1
    · subst e; omega
    · have := mx_ge (f := f) (k := k) (i := i) (by omega)
      omega

/-- what a pool is made of -/
structure PoolOK (a : T) (h w c n s : Nat) : Prop where
  hh : 1 ≤ h ∧ h ≤ 256
  hw : 1 ≤ w ∧ w ≤ 256
  hc : 1 ≤ c ∧ c ≤ 256
  hn : 1 ≤ n ∧ n ≤ 16
  hs : 1 ≤ s ∧ s ≤ 16
  nh : n ≤ h
  nw : n ≤ w
  sa : a.1.1 = [(h : Int), (w : Int), (c : Int)]
  hA : a.2.length = h * w * c
  bA : h * w * c ≤ 16384
  fA : ∀ p, -2147483648 ≤ a.2.getD p 0 ∧ a.2.getD p 0 ≤ 2147483647

/-- what it reads -/
def plV (A : List Int) (w c s y x ch dy dx : Nat) : Int := A.getD (((y * s + dy) * w + (x * s + dx)) * c + ch) 0

def plS (A : List Int) (w c n s y x ch : Nat) : Int := sumN (fun dy => sumN (plV A w c s y x ch dy) n) n

def plM (A : List Int) (w c n s y x ch : Nat) : Int := mx (fun q => plV A w c s y x ch (q / n) (q % n)) (n * n - 1)

def plC (avg : Bool) (A : List Int) (w c n s ow i : Nat) : Int :=
  if avg then (2 * plS A w c n s (i / c / ow) (i / c % ow) (i % c) + ((n * n : Nat) : Int)) / (2 * ((n * n : Nat) : Int)) else plM A w c n s (i / c / ow) (i / c % ow) (i % c)

section

variable {a : T} {h w c n s : Nat}

theorem pool_idx (H : PoolOK a h w c n s) {y x ch dy dx : Nat} (hy : y < (h - n) / s + 1) (hx : x < (w - n) / s + 1) (hch : ch < c) (hdy : dy < n) (hdx : dx < n) :
    y * s + dy < h ∧ x * s + dx < w ∧ ((y * s + dy) * w + (x * s + dx)) * c + ch < h * w * c := by
  have e1 : y * s ≤ h - n := by
    have : y ≤ (h - n) / s := by omega
    have := Nat.mul_le_mul_right s this
    have := Nat.div_mul_le_self (h - n) s
    omega
  have e2 : x * s ≤ w - n := by
    have : x ≤ (w - n) / s := by omega
    have := Nat.mul_le_mul_right s this
    have := Nat.div_mul_le_self (w - n) s
    omega
  have := H.nh
  have := H.nw
  have h1 : y * s + dy < h := by omega
  have h2 : x * s + dx < w := by omega
  exact ⟨h1, h2, three_idx h1 h2 hch⟩

theorem pool_wi (H : PoolOK a h w c n s) {y x ch dy dx : Nat} (hy : y < (h - n) / s + 1) (hx : x < (w - n) / s + 1) (hch : ch < c) (hdy : dy < n) (hdx : dx < n) :
    wi64 (wi64 (wi64 (wi64 (wi64 (wi64 (wi64 ((y : Int) * s) + dy) * w) + wi64 ((x : Int) * s)) + dx) * c) + ch) = ((((y * s + dy) * w + (x * s + dx)) * c + ch : Nat) : Int) := by
  obtain ⟨h1, h2, h3⟩ := pool_idx H hy hx hch hdy hdx
  have bA := H.bA
  have hw := H.hw
  have hh := H.hh
  have hc := H.hc
  have b1 : (y * s + dy) * w ≤ 256 * 256 := Nat.mul_le_mul (by omega) hw.2
  have b2 : (y * s + dy) * w + (x * s + dx) ≤ ((y * s + dy) * w + (x * s + dx)) * c := Nat.le_mul_of_pos_right _ (by omega)
  rw [wi64_row (by omega), wi64_mul (i := x) (k := s) (by omega), wi64_mul (by omega), wi64_add (i := (y * s + dy) * w) (by omega), wi64_add (i := (y * s + dy) * w + x * s) (by omega), Nat.add_assoc, wi64_row (by omega)]

theorem plS_bound (H : PoolOK a h w c n s) (y x ch : Nat) : -549755813888 ≤ plS a.2 w c n s y x ch ∧ plS a.2 w c n s y x ch ≤ 549755813888 := by
  have hn := H.hn
  have := sumN_bound (fun dy => sumN (plV a.2 w c s y x ch dy) n) 34359738368 (fun dy => by
        have := sumN_bound (plV a.2 w c s y x ch dy) 2147483648 (fun q => by have := H.fA (((y * s + dy) * w + (x * s + q)) * c + ch); unfold plV; omega) n
        omega) n
  unfold plS
  omega

end

/-! tables, choices, sums, by the document -/

def softK (op : Int) : Int := if op = 16 ∨ op = 17 then 2 else 1

def softRes (op : Int) (ins : List D) : D × Er :=
  if ¬ (op = 16 ∨ op = 17 ∨ op = 19 ∨ op = 20) then (noD, .s ErrKind)
  else if (ins.length : Int) ≠ softK op then (noD, .s ErrShape)
  else if !(firstBad ins).isNil then (noD, firstBad ins)
  else if op = 16 then
    if (ins.getD 0 noD).2 = true ∨ ((ins.getD 0 noD).1.length : Int) < 1 ∨ ins.getD 1 noD ≠ ([256], true) then (noD, .s ErrShape) else (ins.getD 0 noD, .nil)
  else if op = 17 then
    if (ins.getD 0 noD).1.length ≠ 2 ∨ (ins.getD 1 noD).1.length ≠ 1 ∨ (ins.getD 1 noD).2 = false then (noD, .s ErrShape) else seenD ([(ins.getD 1 noD).1.getD 0 0, (ins.getD 0 noD).1.getD 1 0], (ins.getD 0 noD).2)
  else if ((ins.getD 0 noD).1.length : Int) < 1 then (noD, .s ErrShape)
  else (((ins.getD 0 noD).1.take ((ins.getD 0 noD).1.length - 1), true), .nil)

theorem softRes_bare (op : Int) (ins : List D) : bareE (softRes op ins).2 := by
  unfold softRes
  repeat' split
  all_goals first | exact True.intro | exact seenD_bare _ | (dsimp only; exact firstBad_bare _)

theorem softRes_OK (op : Int) (ins : List D) : erOK (softRes op ins).2 := by
  unfold softRes
  repeat' split
  all_goals first | exact True.intro | exact (show ErrShape < 21 by decide) | exact (show ErrKind < 21 by decide) | exact seenD_OK _ | (dsimp only; exact firstBad_OK _)

theorem firstBad_two {a b : D} (h : firstBad [a, b] = .nil) : shapeV a.1 = .nil ∧ shapeV b.1 = .nil := by
  unfold firstBad firstBad firstBad at h
  rcases shapeV_cases a.1 with ha | ⟨ha, ha'⟩
  case inr => rw [ifF ha] at h; rw [h] at ha; cases ha
  rw [ifT (nilT ha)] at h
  rcases shapeV_cases b.1 with hb | ⟨hb, hb'⟩
  case inr => rw [ifF hb] at h; rw [h] at hb; cases hb
  exact ⟨ha, hb⟩

theorem firstBad_one {a : D} (h : firstBad [a] = .nil) : shapeV a.1 = .nil := by
  unfold firstBad firstBad at h
  rcases shapeV_cases a.1 with ha | ⟨ha, ha'⟩
  case inr => rw [ifF ha] at h; rw [h] at ha; cases ha
  exact ha

theorem prodN_append : ∀ (l m : List Nat), prodN (l ++ m) = prodN l * prodN m
  | [], m => by simp [prodN]
  | n :: r, m => by rw [List.cons_append, prodN, prodN, prodN_append r m, Nat.mul_assoc]

/-- the last dimension, and those ahead of it -/
theorem shape_nat_last {sh : List Int} (h : shapeV sh = .nil) (hl : 1 ≤ sh.length) : ∃ (pre : List Nat) (n : Nat), sh = (pre.map Nat.cast) ++ [(n : Int)] ∧ (1 ≤ n ∧ n ≤ 256) ∧ 1 ≤ prodN pre ∧ prodN pre * n ≤ 16384 ∧ elems sh = ((prodN pre * n : Nat) : Int) ∧ shapeV (pre.map (Nat.cast : Nat → Int)) = .nil ∧ elems (pre.map (Nat.cast : Nat → Int)) = ((prodN pre : Nat) : Int) := by
  obtain ⟨ns, e, h4, hn, h1, h5, h6⟩ := shape_nat h
  have hne : ns ≠ [] := by
    intro e0
    rw [e, e0] at hl
    simp at hl
  have hd : ns.dropLast ++ [ns.getLast hne] = ns := List.dropLast_concat_getLast hne
  have hp : prodN ns = prodN ns.dropLast * ns.getLast hne := by
    conv => lhs; rw [← hd]
    rw [prodN_append]
    simp [prodN]
  have hmem : ∀ x, x ∈ ns.dropLast → x ∈ ns := fun x hx => (List.dropLast_sublist _).subset hx
  have hpos : 1 ≤ prodN ns.dropLast := by
    rcases Nat.eq_zero_or_pos (prodN ns.dropLast) with h0 | h0
    · rw [h0, Nat.zero_mul] at hp; omega
    · exact h0
  have hlast := hn _ (List.getLast_mem hne)
  have hle : prodN ns.dropLast ≤ prodN ns.dropLast * ns.getLast hne := Nat.le_mul_of_pos_right _ (by omega)
  have hv : shapeV (ns.dropLast.map (Nat.cast : Nat → Int)) = .nil := by
    rw [shapeV_nil]
    refine ⟨by simp; omega, ?_, ?_⟩
    · rw [List.any_eq_false]
      intro x hx
      obtain ⟨m, hm, rfl⟩ := List.mem_map.1 hx
      have := hn m (hmem m hm)
      simp [badDim]
      omega
    · have hb : (ns.dropLast.map (Nat.cast : Nat → Int)).any badDim = false := by
        rw [List.any_eq_false]
        intro x hx
        obtain ⟨m, hm, rfl⟩ := List.mem_map.1 hx
        have := hn m (hmem m hm)
        simp [badDim]
        omega
      have := overs_foldl (ns.dropLast.map (Nat.cast : Nat → Int)) 1 (by omega) hb
      have hf := foldl_prodN ns.dropLast 1
      rw [Nat.one_mul] at hf
      rw [show ((1 : Nat) : Int) = 1 from rfl] at hf
      rw [hf] at this
      rw [show decide ((16384 : Int) < 1) = false from rfl, Bool.or_false] at this
      rw [this]
      simp
      omega
  refine ⟨ns.dropLast, ns.getLast hne, ?_, hlast, hpos, by omega, by rw [h6, hp], hv, ?_⟩
  · rw [e]
    conv => lhs; rw [← hd]
    simp
  · unfold elems
    rw [hv]
    have hf := foldl_prodN ns.dropLast 1
    rw [Nat.one_mul] at hf
    exact hf

theorem take_last {α : Type} (l : List α) (x : α) : (l ++ [x]).take ((l ++ [x]).length - 1) = l := by simp

theorem getD_last {α : Type} (l : List α) (x d : α) : (l ++ [x]).getD ((l ++ [x]).length - 1) d = x := by
  rw [List.getD_eq_getElem?_getD]
  simp

/-! elements -/

def smM (A : List Int) (n i : Nat) : Int := mx (fun j => A.getD (i / n * n + j) 0) (n - 1)

def smW (A B : List Int) (n i j : Nat) : Int := max 0 (B.getD (smM A n i - A.getD j 0).toNat 0)

def smS (A B : List Int) (n i : Nat) : Int := sumN (fun j => smW A B n i (i / n * n + j)) n

def smC (A B : List Int) (n i : Nat) : Int := if smS A B n i = 0 then -128 else (255 * smW A B n i i + smS A B n i / 2) / smS A B n i - 128

theorem row_idx {P n i : Nat} (hn : 1 ≤ n) (hi : i < P * n) : i / n * n + n ≤ P * n ∧ i / n * n ≤ i ∧ i < i / n * n + n := by
  have h1 : i / n < P := Nat.div_lt_of_lt_mul (by rw [Nat.mul_comm]; exact hi)
  have h2 : (i / n + 1) * n ≤ P * n := Nat.mul_le_mul_right n h1
  have h3 := Nat.div_mul_le_self i n
  have h4 := Nat.mod_lt i (show 0 < n by omega)
  have h5 := Nat.div_add_mod i n
  rw [Nat.add_mul, Nat.one_mul] at h2
  rw [Nat.mul_comm] at h5
  omega

theorem imax_eq' (a b : Int) : imax a b = max a b := by
  unfold imax
  split <;> omega

section

variable {a b : T} {n P : Nat}

theorem smM_in (fA : ∀ p, -128 ≤ a.2.getD p 0 ∧ a.2.getD p 0 ≤ 127) (i : Nat) : -128 ≤ smM a.2 n i ∧ smM a.2 n i ≤ 127 := mx_bound (fun j => fA _) _

theorem smD_in (fA : ∀ p, -128 ≤ a.2.getD p 0 ∧ a.2.getD p 0 ≤ 127) (hn : 1 ≤ n) {i j : Nat} (h1 : i / n * n ≤ j) (h2 : j < i / n * n + n) : 0 ≤ smM a.2 n i - a.2.getD j 0 ∧ smM a.2 n i - a.2.getD j 0 ≤ 255 := by
  have h3 := smM_in fA (n := n) i
  have h4 := fA j
  have h5 : a.2.getD j 0 ≤ smM a.2 n i := by
    have := mx_ge (f := fun j => a.2.getD (i / n * n + j) 0) (k := n - 1) (i := j - i / n * n) (by omega)
    rw [show i / n * n + (j - i / n * n) = j by omega] at this
    exact this
  omega

theorem smW_in (fB : ∀ p, -2147483648 ≤ b.2.getD p 0 ∧ b.2.getD p 0 ≤ 2147483647) (A : List Int) (i j : Nat) : 0 ≤ smW A b.2 n i j ∧ smW A b.2 n i j ≤ 2147483647 := by
  have := fB (smM A n i - A.getD j 0).toNat
  unfold smW
  omega

theorem sumN_nonneg {f : Nat → Int} (h : ∀ i, 0 ≤ f i) : ∀ k, 0 ≤ sumN f k
  | 0 => Int.le_refl _
  | k + 1 => by
    have := sumN_nonneg h k
    have := h k
    simp only [sumN]
    omega

/-- a number, cut -/
def cut (x lo hi : Int) : Int := if x < lo then lo else if hi < x then hi else x

theorem cut_in {x lo hi : Int} (h : lo ≤ hi) : lo ≤ cut x lo hi ∧ cut x lo hi ≤ hi := by
  unfold cut
  split
  · omega
  · split <;> omega

def gaC (A B : List Int) (m w i : Nat) : Int := A.getD ((cut (B.getD (i / w) 0) 0 ((m : Int) - 1)).toNat * w + i % w) 0

theorem ga_idx {m w : Nat} (hm : 1 ≤ m) (hw : 1 ≤ w) (x : Int) (i : Nat) : (cut x 0 ((m : Int) - 1)).toNat * w + i % w < m * w := by
  have h := cut_in (x := x) (lo := 0) (hi := (m : Int) - 1) (by omega)
  have h2 : (cut x 0 ((m : Int) - 1)).toNat + 1 ≤ m := by omega
  have h3 := Nat.mul_le_mul_right w h2
  have h4 := Nat.mod_lt i (show 0 < w by omega)
  rw [Nat.add_mul] at h3
  omega

/-- the first of the greatest of the first ones -/
def am (f : Nat → Int) : Nat → Nat
  | 0 => 0
  | k + 1 => if f (am f k) < f k then k else am f k

theorem am_lt (f : Nat → Int) : ∀ k, 1 ≤ k → am f k < k
  | 0, h => by omega
  | 1, _ => by simp [am]
  | k + 2, _ => by
    have := am_lt f (k + 1) (by omega)
    rw [am]
    split <;> omega

theorem am_le (f : Nat → Int) : ∀ k, am f k ≤ k
  | 0 => Nat.le_refl _
  | k + 1 => by
    have := am_le f k
    rw [am]
    split <;> omega

def rowF (A : List Int) (n i j : Nat) : Int := A.getD (i * n + j) 0

end

/-! element by element, by the document -/

def kept (w : Bool) (n : Int) : Int := if w then round32 n else cut n (-128) 127

def requ (x m s z : Int) : Int :=
  cut ((if 0 < cut s 0 62 then (cut x (-2147483648) 2147483647 * cut m 0 2147483647 + 2 ^ ((cut s 0 62).toNat - 1)) / 2 ^ (cut s 0 62).toNat else cut x (-2147483648) 2147483647 * cut m 0 2147483647) + cut z (-128) 127) (-128) 127

def elV (op : Int) (w : Bool) (x y : Int) (args : List Int) : Int :=
  if op = 4 then kept w (x + y) else if op = 5 then kept w (x - y) else if op = 6 then kept w (x * y) else if op = 7 then max x y else if op = 8 then max x 0
  else if op = 9 then cut x (args.getD 0 0) (args.getD 1 0) else if op = 10 then requ x (args.getD 0 0) (args.getD 1 0) (args.getD 2 0) else if op = 11 then x - args.getD 0 0 else 0

def elN (op : Int) : Nat := if op = 9 then 2 else if op = 10 then 3 else if op = 11 then 1 else 0

theorem pow_bound {s : Nat} (h : s ≤ 61) : (1 : Int) ≤ 2 ^ s ∧ (2 : Int) ^ s ≤ 2305843009213693952 := by
  have h1 : (2 : Nat) ^ s ≤ 2 ^ 61 := Nat.pow_le_pow_right (by omega) h
  have h2 : 1 ≤ (2 : Nat) ^ s := Nat.one_le_two_pow
  have e : ((2 : Int) ^ s) = ((2 ^ s : Nat) : Int) := by simp
  rw [e]
  constructor
  · omega
  · have : (2 : Nat) ^ 61 = 2305843009213693952 := by decide
    omega

theorem requ_prod (x m : Int) : -4611686018427387904 ≤ cut x (-2147483648) 2147483647 * cut m 0 2147483647 ∧ cut x (-2147483648) 2147483647 * cut m 0 2147483647 ≤ 4611686018427387904 := by
  have h1 := cut_in (x := x) (lo := -2147483648) (hi := 2147483647) (by omega)
  have h2 := cut_in (x := m) (lo := 0) (hi := 2147483647) (by omega)
  exact mul_abs (A := 2147483648) (B := 2147483648) (by omega) (by omega) (by omega) (by omega)

theorem shl_one {s : Nat} (h1 : 1 ≤ s) (h2 : s ≤ 62) : shlI IntKind.i64 1 (wu64 (wi64 ((s : Int) - 1))) = 2 ^ (s - 1) := by
  have e1 : wi64 ((s : Int) - 1) = ((s - 1 : Nat) : Int) := by rw [wi64_in (by omega) (by omega)]; omega
  have e2 : wu64 ((s - 1 : Nat) : Int) = ((s - 1 : Nat) : Int) := by
    show IntKind.wrap .u64 _ = _
    simp only [IntKind.wrap, IntKind.bits, IntKind.signed]
    simp
    omega
  have hb := pow_bound (s := s - 1) (by omega)
  rw [e1, e2]
  unfold shlI
  rw [show IntKind.bits .i64 = 64 from rfl, Int.toNat_natCast, Nat.min_eq_left (by omega), Int.one_mul]
  exact wi64_in (by omega) (by omega)

theorem shr_at {p : Int} {s : Nat} (h2 : s ≤ 62) : shrI IntKind.i64 p (wu64 (s : Int)) = p / 2 ^ s := by
  have e2 : wu64 (s : Int) = (s : Int) := by
    show IntKind.wrap .u64 _ = _
    simp only [IntKind.wrap, IntKind.bits, IntKind.signed]
    simp
    omega
  rw [e2]
  unfold shrI
  rw [show IntKind.bits .i64 = 64 from rfl, Int.toNat_natCast, Nat.min_eq_left (by omega), Int.fdiv_eq_ediv_of_nonneg]
  have : (0 : Int) < 2 ^ s := Int.pow_pos (by omega)
  omega

theorem cut_cut {q z : Int} (hz : -128 ≤ z ∧ z ≤ 127) : cut (cut q (-1099511627776) 1099511627776 + z) (-128) 127 = cut (q + z) (-128) 127 := by
  unfold cut
  repeat' split
  all_goals omega

/-- what an operation element by element makes of what looks so -/
def elK (op : Int) : Nat := if op = 4 ∨ op = 5 ∨ op = 6 ∨ op = 7 then 2 else 1

def elFair (op : Int) (args : List Int) (w : Bool) : Bool :=
  if op = 9 then fitsB w (args.getD 0 0) && fitsB w (args.getD 1 0) && decide (args.getD 0 0 ≤ args.getD 1 0)
  else if op = 10 then decide (0 ≤ args.getD 0 0) && decide (args.getD 0 0 ≤ 2147483647) && decide (0 ≤ args.getD 1 0) && decide (args.getD 1 0 ≤ 62) && narrowB (args.getD 2 0)
  else if op = 11 then narrowB (args.getD 0 0) else true

def elWide (op : Int) (w : Bool) : Bool := if op = 10 then false else if op = 11 then true else w

def elemRes (op : Int) (args : List Int) (ins : List D) : D × Er :=
  if ¬ (4 ≤ op ∧ op ≤ 11) then (noD, .s ErrKind)
  else if args.length ≠ elN op ∨ ins.length ≠ elK op then (noD, .s ErrShape)
  else if !(firstBad ins).isNil then (noD, firstBad ins)
  else if elK op = 2 ∧ ins.getD 0 noD ≠ ins.getD 1 noD ∨ op = 10 ∧ (ins.getD 0 noD).2 = false ∨ op = 11 ∧ (ins.getD 0 noD).2 = true then (noD, .s ErrShape)
  else if elFair op args (ins.getD 0 noD).2 = false then (noD, .s ErrRange)
  else (((ins.getD 0 noD).1, elWide op (ins.getD 0 noD).2), .nil)

theorem elemRes_bare (op : Int) (args : List Int) (ins : List D) : bareE (elemRes op args ins).2 := by
  unfold elemRes
  repeat' split
  all_goals first | exact True.intro | (dsimp only; exact firstBad_bare _)

theorem elemRes_OK (op : Int) (args : List Int) (ins : List D) : erOK (elemRes op args ins).2 := by
  unfold elemRes
  repeat' split
  all_goals first | exact True.intro | exact (show ErrShape < 21 by decide) | exact (show ErrKind < 21 by decide) | exact (show ErrRange < 21 by decide) | (dsimp only; exact firstBad_OK _)

/-! element by element -/

theorem firstBad_len : ∀ {l : List D}, firstBad l = .nil → (l.getD 0 noD).1.length ≤ 4
  | [], _ => by simp [noD]
  | d :: r, h => by
    unfold firstBad at h
    rcases shapeV_cases d.1 with hd | ⟨hd, hd'⟩
    · exact (shapeV_nil.1 hd).1
    · rw [ifF hd] at h
      rw [h] at hd
      cases hd

theorem elemRes_len (op : Int) (args : List Int) (ins : List D) : (elemRes op args ins).1.1.length ≤ 4 := by
  unfold elemRes
  by_cases h1 : 4 ≤ op ∧ op ≤ 11
  case neg => rw [if_pos h1]; simp [noD]
  rw [if_neg (fun h => h h1)]
  split
  · simp [noD]
  by_cases h3 : firstBad ins = .nil
  case neg => rw [ifNF (isNil_false h3)]; simp [noD]
  rw [ifNT (nilT h3)]
  split
  · simp [noD]
  split
  · simp [noD]
  · exact firstBad_len h3

/-! all operations -/

def insN (op : Int) : Nat := if op = 4 ∨ op = 5 ∨ op = 6 ∨ op = 7 ∨ op = 12 ∨ op = 13 ∨ op = 16 ∨ op = 17 then 2 else if 4 ≤ op ∧ op ≤ 21 then 1 else 0

def argN (op : Int) : Nat := if op = 9 ∨ op = 12 ∨ op = 14 ∨ op = 15 then 2 else if op = 10 ∨ op = 13 then 3 else if op = 11 then 1 else 0

def reshRes (args : List Int) (a : D) : D × Er :=
  if !(shapeV a.1).isNil then (noD, shapeV a.1)
  else if !(shapeV args).isNil then (noD, shapeV args)
  else if elems args ≠ elems a.1 then (noD, .s ErrShape)
  else ((args, a.2), .nil)

def resV (op : Int) (args : List Int) (ins : List D) : D × Er :=
  if ¬ (4 ≤ op ∧ op ≤ 21) then (noD, .s ErrKind)
  else if op ≤ 11 then elemRes op args ins
  else if ins.length ≠ insN op ∨ (op ≠ 18 ∧ args.length ≠ argN op) then (noD, .s ErrShape)
  else if op = 12 then matRes (args.getD 0 0) (args.getD 1 0) (ins.getD 0 noD) (ins.getD 1 noD)
  else if op = 13 then convRes args (ins.getD 0 noD) (ins.getD 1 noD)
  else if op = 14 ∨ op = 15 then poolRes args (ins.getD 0 noD)
  else if op = 16 ∨ op = 17 ∨ op = 19 ∨ op = 20 then softRes op ins
  else if op = 21 then turnRes (ins.getD 0 noD)
  else reshRes args (ins.getD 0 noD)

theorem turnRes_bare (a : D) : bareE (turnRes a).2 := by
  unfold turnRes
  repeat' split
  all_goals first | exact True.intro | (dsimp only; exact shapeV_bare _)

theorem turnRes_OK (a : D) : erOK (turnRes a).2 := by
  unfold turnRes
  repeat' split
  all_goals first | exact True.intro | exact (show ErrShape < 21 by decide) | (dsimp only; exact shapeV_OK _)

theorem reshRes_bare (args : List Int) (a : D) : bareE (reshRes args a).2 := by
  unfold reshRes
  repeat' split
  all_goals first | exact True.intro | (dsimp only; exact shapeV_bare _)

theorem reshRes_OK (args : List Int) (a : D) : erOK (reshRes args a).2 := by
  unfold reshRes
  repeat' split
  all_goals first | exact True.intro | exact (show ErrShape < 21 by decide) | (dsimp only; exact shapeV_OK _)

theorem resV_bare (op : Int) (args : List Int) (ins : List D) : bareE (resV op args ins).2 := by
  unfold resV
  repeat' split
  all_goals first | exact True.intro | exact elemRes_bare _ _ _ | exact matRes_bare _ _ _ _ | exact convRes_bare _ _ _ | exact poolRes_bare _ _ | exact softRes_bare _ _ | exact turnRes_bare _ | exact reshRes_bare _ _

theorem resV_OK (op : Int) (args : List Int) (ins : List D) : erOK (resV op args ins).2 := by
  unfold resV
  repeat' split
  all_goals first | exact True.intro | exact (show ErrKind < 21 by decide) | exact (show ErrShape < 21 by decide) | exact elemRes_OK _ _ _ | exact matRes_OK _ _ _ _ | exact convRes_OK _ _ _ | exact poolRes_OK _ _ | exact softRes_OK _ _ | exact turnRes_OK _ | exact reshRes_OK _ _

/-! an operation of one element -/

theorem shl_one' {s : Nat} (h1 : 1 ≤ s) (h2 : s ≤ 62) : shlI IntKind.i64 1 (wi64 ((s : Int) - 1)) = 2 ^ (s - 1) := by
  have e1 : wi64 ((s : Int) - 1) = ((s - 1 : Nat) : Int) := by rw [wi64_in (by omega) (by omega)]; omega
  have hb := pow_bound (s := s - 1) (by omega)
  rw [e1]
  unfold shlI
  rw [show IntKind.bits .i64 = 64 from rfl, Int.toNat_natCast, Nat.min_eq_left (by omega), Int.one_mul]
  exact wi64_in (by omega) (by omega)

theorem shr_at' {p : Int} {s : Nat} (h2 : s ≤ 62) : shrI IntKind.i64 p (s : Int) = p / 2 ^ s := by
  unfold shrI
  rw [show IntKind.bits .i64 = 64 from rfl, Int.toNat_natCast, Nat.min_eq_left (by omega), Int.fdiv_eq_ediv_of_nonneg]
  have : (0 : Int) < 2 ^ s := Int.pow_pos (by omega)
  omega

theorem div_pow_bound {p : Int} (h : -9223372036854775000 ≤ p ∧ p ≤ 9223372036854775000) {s : Nat} : -9223372036854775000 ≤ p / 2 ^ s ∧ p / 2 ^ s ≤ 9223372036854775000 := by
  have h1 : 1 ≤ (2 : Nat) ^ s := Nat.one_le_two_pow
  have e : ((2 : Int) ^ s) = ((2 ^ s : Nat) : Int) := by simp
  rw [e]
  generalize (2 : Nat) ^ s = q at *
  constructor
  · exact Int.le_ediv_of_mul_le (by omega) (by omega)
  · exact Int.ediv_le_of_le_mul (by omega) (by omega)

/-! tensors -/

def elY (ins : List T) (i : Nat) : Int := if 1 < ins.length then (ins.getD 1 (([], false), [])).2.getD i 0 else 0

def elE (op : Int) (args : List Int) (ins : List T) (i : Nat) : Int := elV op (ins.getD 0 (([], false), [])).1.2 ((ins.getD 0 (([], false), [])).2.getD i 0) (elY ins i) args

theorem elemRes_ok {op : Int} {args : List Int} {ins : List D} (h : (elemRes op args ins).2 = .nil) : (4 ≤ op ∧ op ≤ 11) ∧ args.length = elN op ∧ ins.length = elK op ∧ firstBad ins = .nil ∧
    (elK op = 2 → ins.getD 0 noD = ins.getD 1 noD) ∧ (op = 10 → (ins.getD 0 noD).2 = true) ∧ (op = 11 → (ins.getD 0 noD).2 = false) ∧ elFair op args (ins.getD 0 noD).2 = true ∧ (elemRes op args ins).1 = ((ins.getD 0 noD).1, elWide op (ins.getD 0 noD).2) := by
  unfold elemRes at h ⊢
  by_cases h1 : 4 ≤ op ∧ op ≤ 11
  case neg => rw [if_pos h1] at h; cases h
  rw [if_neg (fun h => h h1)] at h ⊢
  by_cases h2 : args.length ≠ elN op ∨ ins.length ≠ elK op
  · rw [if_pos h2] at h; cases h
  rw [if_neg h2] at h ⊢
  by_cases h3 : firstBad ins = .nil
  case neg => rw [ifNF (isNil_false h3)] at h; exact absurd h h3
  rw [ifNT (nilT h3)] at h ⊢
  by_cases h4 : elK op = 2 ∧ ins.getD 0 noD ≠ ins.getD 1 noD ∨ op = 10 ∧ (ins.getD 0 noD).2 = false ∨ op = 11 ∧ (ins.getD 0 noD).2 = true
  · rw [if_pos h4] at h; cases h
  rw [if_neg h4] at h ⊢
  by_cases h5 : elFair op args (ins.getD 0 noD).2 = false
  · rw [if_pos h5] at h; cases h
  rw [if_neg h5] at h ⊢
  simp only [not_or, ne_eq, Decidable.not_not] at h2
  refine ⟨h1, h2.1, h2.2, h3, fun hk => Decidable.byContradiction fun hn => h4 (.inl ⟨hk, hn⟩), fun ho => ?_, fun ho => ?_, by simpa using h5, rfl⟩
  · cases hw : (ins.getD 0 noD).2
    · exact absurd (.inr (.inl ⟨ho, hw⟩)) h4
    · rfl
  · cases hw : (ins.getD 0 noD).2
    · rfl
    · exact absurd (.inr (.inr ⟨ho, hw⟩)) h4

theorem elFair_9 {args : List Int} {w : Bool} (h : elFair 9 args w = true) : args.getD 0 0 ≤ args.getD 1 0 := by
  have e : elFair 9 args w = (fitsB w (args.getD 0 0) && fitsB w (args.getD 1 0) && decide (args.getD 0 0 ≤ args.getD 1 0)) := rfl
  rw [e] at h
  simp only [Bool.and_eq_true, decide_eq_true_eq] at h
  exact h.2

theorem elFair_11 {args : List Int} {w : Bool} (h : elFair 11 args w = true) : -128 ≤ args.getD 0 0 ∧ args.getD 0 0 ≤ 127 := narrowB_iff.1 h

/-- the answer of tensors -/
def elemApp (op : Int) (args : List Int) (ins : List T) : T × Er :=
  if firstBadT ins ≠ .nil then ((noD, []), firstBadT ins)
  else if (elemRes op args (ins.map Prod.fst)).2 ≠ .nil then ((noD, []), (elemRes op args (ins.map Prod.fst)).2)
  else (((elemRes op args (ins.map Prod.fst)).1, (List.range (ins.getD 0 (([], false), [])).2.length).map (elE op args ins)), .nil)

theorem elemApp_OK (op : Int) (args : List Int) (ins : List T) : erOK (elemApp op args ins).2 := by
  unfold elemApp
  repeat' split
  all_goals first | exact True.intro | exact firstBadT_OK _ | exact elemRes_OK _ _ _

/-- of one or two, all of one length -/
theorem elem_lens {op : Int} {args : List Int} {ins : List T} (hr : (elemRes op args (ins.map Prod.fst)).2 = .nil) (hv : firstBadT ins = .nil) :
    0 < ins.length ∧ tensV (ins.getD 0 (([], false), [])) = .nil ∧ (ins.map Prod.fst).getD 0 noD = (ins.getD 0 (([], false), [])).1 ∧ (1 < ins.length → tensV (ins.getD 1 (([], false), [])) = .nil ∧ (ins.getD 1 (([], false), [])).2.length = (ins.getD 0 (([], false), [])).2.length) := by
  obtain ⟨h1, h2, h3, _, h5, _, _, h8, _⟩ := elemRes_ok hr
  have hk : elK op = 2 ∨ elK op = 1 := by unfold elK; split <;> simp
  rcases hk with hk | hk
  · rw [List.length_map, hk] at h3
    match ins, h3 with
    | [a, b], _ =>
    obtain ⟨va, vb⟩ := firstBadT_two hv
    have hab : a.1 = b.1 := h5 hk
    refine ⟨by simp, va, rfl, fun _ => ⟨vb, ?_⟩⟩
    have h6 := tensV_len va
    have h7 := tensV_len vb
    rw [hab] at h6
    simp only [List.getD_cons_zero, List.getD_cons_succ]
    omega
  · rw [List.length_map, hk] at h3
    match ins, h3 with
    | [a], _ => exact ⟨by simp, firstBadT_one hv, rfl, fun h => by simp at h⟩

/-! an element of any operation -/

def elAll (op : Int) (args : List Int) (ins : List T) (d : D) (i : Nat) : Int :=
  if op ≤ 11 then elE op args ins i
  else if op = 12 then mulC (ins.getD 0 (([], false), [])).2 (ins.getD 1 (([], false), [])).2 (args.getD 0 0) (args.getD 1 0) ((ins.getD 0 (([], false), [])).1.1.getD 1 0).toNat ((ins.getD 1 (([], false), [])).1.1.getD 1 0).toNat i
  else if op = 13 then cvC (ins.getD 0 (([], false), [])).2 (ins.getD 1 (([], false), [])).2 (args.getD 2 0) ((ins.getD 0 (([], false), [])).1.1.getD 0 0).toNat ((ins.getD 0 (([], false), [])).1.1.getD 1 0).toNat ((ins.getD 0 (([], false), [])).1.1.getD 2 0).toNat ((ins.getD 1 (([], false), [])).1.1.getD 0 0).toNat ((ins.getD 1 (([], false), [])).1.1.getD 1 0).toNat ((ins.getD 1 (([], false), [])).1.1.getD 3 0).toNat (args.getD 0 0).toNat (args.getD 1 0).toNat (d.1.getD 1 0).toNat i
  else if op = 14 ∨ op = 15 then plC (decide (op = 15)) (ins.getD 0 (([], false), [])).2 ((ins.getD 0 (([], false), [])).1.1.getD 1 0).toNat ((ins.getD 0 (([], false), [])).1.1.getD 2 0).toNat (args.getD 0 0).toNat (args.getD 1 0).toNat (d.1.getD 1 0).toNat i
  else if op = 16 then smC (ins.getD 0 (([], false), [])).2 (ins.getD 1 (([], false), [])).2 ((ins.getD 0 (([], false), [])).1.1.getD ((ins.getD 0 (([], false), [])).1.1.length - 1) 0).toNat i
  else if op = 17 then gaC (ins.getD 0 (([], false), [])).2 (ins.getD 1 (([], false), [])).2 ((ins.getD 0 (([], false), [])).1.1.getD 0 0).toNat ((ins.getD 0 (([], false), [])).1.1.getD 1 0).toNat i
  else if op = 19 then ((am (rowF (ins.getD 0 (([], false), [])).2 ((ins.getD 0 (([], false), [])).1.1.getD ((ins.getD 0 (([], false), [])).1.1.length - 1) 0).toNat i) ((ins.getD 0 (([], false), [])).1.1.getD ((ins.getD 0 (([], false), [])).1.1.length - 1) 0).toNat : Nat) : Int)
  else if op = 20 then round32 (sumN (rowF (ins.getD 0 (([], false), [])).2 ((ins.getD 0 (([], false), [])).1.1.getD ((ins.getD 0 (([], false), [])).1.1.length - 1) 0).toNat i) ((ins.getD 0 (([], false), [])).1.1.getD ((ins.getD 0 (([], false), [])).1.1.length - 1) 0).toNat)
  else if op = 21 then (ins.getD 0 (([], false), [])).2.getD (i % ((ins.getD 0 (([], false), [])).1.1.getD 0 0).toNat * ((ins.getD 0 (([], false), [])).1.1.getD 1 0).toNat + i / ((ins.getD 0 (([], false), [])).1.1.getD 0 0).toNat) 0
  else (ins.getD 0 (([], false), [])).2.getD i 0

/-- two tensors whose convolution may be -/
theorem convRes_ok {a k : T} {ar : List Int} (va : tensV a = .nil) (vk : tensV k = .nil) (h : (convRes ar a.1 k.1).2 = .nil) : ∃ (za : Int) (h w c kh kw n s p : Nat), ConvOK a k za h w c kh kw n s p ∧ ar = [(s : Int), (p : Int), za] ∧ a.1.2 = false ∧ k.1.2 = false ∧ kh ≤ h + 2 * p ∧ kw ≤ w + 2 * p ∧
    (1 ≤ (h + 2 * p - kh) / s + 1 ∧ (h + 2 * p - kh) / s + 1 ≤ 256) ∧ (1 ≤ (w + 2 * p - kw) / s + 1 ∧ (w + 2 * p - kw) / s + 1 ≤ 256) ∧ ((h + 2 * p - kh) / s + 1) * ((w + 2 * p - kw) / s + 1) * n ≤ 16384 ∧
    (convRes ar a.1 k.1).1 = ([(((h + 2 * p - kh) / s + 1 : Nat) : Int), (((w + 2 * p - kw) / s + 1 : Nat) : Int), (n : Int)], true) ∧ elems (convRes ar a.1 k.1).1.1 = ((((h + 2 * p - kh) / s + 1) * ((w + 2 * p - kw) / s + 1) * n : Nat) : Int) := by
  have sa := tensV_shape va
  have sk := tensV_shape vk
  unfold convRes at h ⊢
  by_cases hl : ar.length = 3
  case neg => rw [if_pos hl] at h; cases h
  rw [if_neg (fun h => h hl), ifNT (nilT sa), ifNT (nilT sk)] at h ⊢
  split at h
  · cases h
  rename_i hB1
  split at h
  · cases h
  rename_i hB2
  split at h
  · cases h
  rename_i hB3
  rw [if_neg hB1, if_neg hB2, if_neg hB3]
  simp only [not_or, ne_eq, Decidable.not_not, Bool.not_eq_true, Int.not_lt] at hB1 hB2 hB3
  obtain ⟨l1, l2, c1, w1, w2⟩ := hB1
  obtain ⟨r1, r2, r3, r4, r5⟩ := hB2
  obtain ⟨q1, q2⟩ := hB3
  obtain ⟨h0, w0, c0, e1, hh, hw, hc, hp, he⟩ := shape_nat_three sa l1
  obtain ⟨ns, e2, _, hn, _, hq, he2⟩ := shape_nat sk
  rw [e2] at l2
  match ns, l2, e2, hn, hq, he2 with
  | [kh, kw, kc, n], _, e2, hn, hq, he2 =>
  simp only [prodN, Nat.mul_one] at hq he2
  rw [e1, e2] at c1 q1 q2
  simp only [List.map_cons, List.map_nil, List.getD_cons_zero, List.getD_cons_succ] at c1 q1 q2 e2
  have hcc : kc = c0 := by omega
  subst hcc
  have hkh := hn kh (by simp)
  have hkw := hn kw (by simp)
  have hnn := hn n (by simp)
  match ar, hl with
  | [x, y, z], _ =>
  simp only [List.getD_cons_zero, List.getD_cons_succ] at r1 r2 r3 r4 r5 q1 q2 h ⊢
  obtain ⟨s, es⟩ : ∃ s : Nat, x = (s : Int) := ⟨x.toNat, by omega⟩
  obtain ⟨p, ep⟩ : ∃ p : Nat, y = (p : Int) := ⟨y.toNat, by omega⟩
  subst es
  subst ep
  have eS : convSh (s : Int) (p : Int) a.1.1 k.1.1 = [(((h0 + 2 * p - kh) / s + 1 : Nat) : Int), (((w0 + 2 * p - kw) / s + 1 : Nat) : Int), (n : Int)] := by
    unfold convSh
    rw [e1, e2]
    simp only [List.getD_cons_zero, List.getD_cons_succ]
    rw [show (h0 : Int) + 2 * p - kh = ((h0 + 2 * p - kh : Nat) : Int) by omega, show (w0 : Int) + 2 * p - kw = ((w0 + 2 * p - kw : Nat) : Int) by omega]
    simp
  rw [eS] at h ⊢
  by_cases hv : shapeV [(((h0 + 2 * p - kh) / s + 1 : Nat) : Int), (((w0 + 2 * p - kw) / s + 1 : Nat) : Int), (n : Int)] = .nil
  case neg => rw [ifF (isNil_false hv)] at h; exact absurd h hv
  rw [ifT (nilT hv)]
  obtain ⟨d1, d2, d3, ed, g1, g2, g3, g4, g5⟩ := shape_nat_three hv rfl
  simp only [List.cons.injEq, Int.ofNat_inj, and_true] at ed
  obtain ⟨ed1, ed2, ed3⟩ := ed
  rw [← ed1] at g1
  rw [← ed2] at g2
  rw [← ed1, ← ed2, ← ed3] at g4 g5
  have la := tensV_len va
  have lk := tensV_len vk
  rw [he] at la
  rw [he2] at lk
  refine ⟨z, h0, w0, kc, kh, kw, n, s, p, ⟨hh, hw, hc, hkh, hkw, hnn, by omega, by omega, e1, e2, by omega, by rw [Nat.mul_assoc, Nat.mul_assoc]; omega, hp, by rw [Nat.mul_assoc, Nat.mul_assoc]; exact hq, tensV_narrowD va w1, tensV_narrowD vk w2, narrowB_iff.1 (by simpa using r5)⟩, rfl, w1, w2, by omega, by omega, g1, g2, g4, rfl, g5⟩

/-- a tensor whose pool may be -/
theorem poolRes_ok {a : T} {ar : List Int} (va : tensV a = .nil) (h : (poolRes ar a.1).2 = .nil) : ∃ (h w c n s : Nat), PoolOK a h w c n s ∧ ar = [(n : Int), (s : Int)] ∧ ((h - n) / s + 1) * ((w - n) / s + 1) * c ≤ 16384 ∧
    (poolRes ar a.1).1 = ([(((h - n) / s + 1 : Nat) : Int), (((w - n) / s + 1 : Nat) : Int), (c : Int)], a.1.2) ∧ elems (poolRes ar a.1).1.1 = ((((h - n) / s + 1) * ((w - n) / s + 1) * c : Nat) : Int) := by
  have sa := tensV_shape va
  unfold poolRes at h ⊢
  by_cases hl : ar.length = 2
  case neg => rw [if_pos hl] at h; cases h
  rw [if_neg (fun h => h hl), ifNT (nilT sa)] at h ⊢
  by_cases h3 : a.1.1.length = 3
  case neg => rw [if_pos h3] at h; cases h
  rw [if_neg (fun h => h h3)] at h ⊢
  split at h
  · cases h
  rename_i hB1
  split at h
  · cases h
  rename_i hB2
  rw [if_neg hB1, if_neg hB2]
  simp only [not_or, Int.not_lt] at hB1 hB2
  obtain ⟨r1, r2, r3, r4⟩ := hB1
  obtain ⟨q1, q2⟩ := hB2
  obtain ⟨h0, w0, c0, e1, hh, hw, hc, hp, he⟩ := shape_nat_three sa h3
  rw [e1] at q1 q2
  simp only [List.getD_cons_zero, List.getD_cons_succ] at q1 q2
  match ar, hl with
  | [x, y], _ =>
  simp only [List.getD_cons_zero, List.getD_cons_succ] at r1 r2 r3 r4 q1 q2 ⊢
  obtain ⟨n, en⟩ : ∃ n : Nat, x = (n : Int) := ⟨x.toNat, by omega⟩
  obtain ⟨s, es⟩ : ∃ s : Nat, y = (s : Int) := ⟨y.toNat, by omega⟩
  subst en
  subst es
  have la := tensV_len va
  rw [he] at la
  have eS : poolSh (n : Int) (s : Int) a.1.1 = [(((h0 - n) / s + 1 : Nat) : Int), (((w0 - n) / s + 1 : Nat) : Int), (c0 : Int)] := by rw [e1, poolSh_nat (by omega) (by omega) (by omega) (by omega)]
  have p1 := pool_dim (h := h0) (n := n) (s := s) (by omega) (by omega) (by omega)
  have p2 := pool_dim (h := w0) (n := n) (s := s) (by omega) (by omega) (by omega)
  have p3 := pool_prod (h := h0) (w := w0) (c := c0) (n := n) (s := s) (by omega) (by omega) (by omega) (by omega) hp
  rw [eS]
  exact ⟨h0, w0, c0, n, s, ⟨hh, hw, hc, by omega, by omega, by omega, by omega, e1, by omega, hp, tensV_in va⟩, rfl, p3, rfl, elems_three (by omega) (by omega) hc p3⟩

/-! tensors -/

def appV (op : Int) (args : List Int) (ins : List T) : T × Er :=
  if firstBadT ins ≠ .nil then ((noD, []), firstBadT ins)
  else if (resV op args (ins.map Prod.fst)).2 ≠ .nil then ((noD, []), (resV op args (ins.map Prod.fst)).2)
  else (((resV op args (ins.map Prod.fst)).1, (List.range (elems (resV op args (ins.map Prod.fst)).1.1).toNat).map (elAll op args ins (resV op args (ins.map Prod.fst)).1)), .nil)

def elmV (op : Int) (args : List Int) (i : Int) (ins : List T) : Int :=
  if firstBadT ins ≠ .nil then 0
  else if (resV op args (ins.map Prod.fst)).2 ≠ .nil then 0
  else if 0 ≤ i ∧ i < elems (resV op args (ins.map Prod.fst)).1.1 then elAll op args ins (resV op args (ins.map Prod.fst)).1 i.toNat else 0

theorem appV_OK (op : Int) (args : List Int) (ins : List T) : erOK (appV op args ins).2 := by
  unfold appV
  repeat' split
  all_goals first | exact True.intro | exact firstBadT_OK _ | exact resV_OK _ _ _

theorem firstBad_getD1 : ∀ {l : List D}, firstBad l = .nil → ∀ k, (l.getD k noD).1.length ≤ 4
  | [], _, k => by simp [noD]
  | d :: r, h, k => by
    unfold firstBad at h
    rcases shapeV_cases d.1 with hd | ⟨hd, hd'⟩
    · rw [ifT (nilT hd)] at h
      cases k with
      | zero => exact (shapeV_nil.1 hd).1
      | succ k => exact firstBad_getD1 h k
    · rw [ifF hd] at h
      rw [h] at hd
      cases hd

theorem seenD_len (d : D) : (seenD d).1.1.length ≤ 4 := by
  unfold seenD
  rcases shapeV_cases d.1 with h | ⟨h, _⟩
  · rw [ifT (nilT h)]; exact (shapeV_nil.1 h).1
  · rw [ifF h]; simp [noD]

theorem softRes_len (op : Int) (ins : List D) : (softRes op ins).1.1.length ≤ 4 := by
  unfold softRes
  split
  · simp [noD]
  split
  · simp [noD]
  by_cases h3 : firstBad ins = .nil
  case neg => rw [ifNF (isNil_false h3)]; simp [noD]
  rw [ifNT (nilT h3)]
  have := firstBad_getD1 h3 0
  split
  · split
    · simp [noD]
    · exact this
  split
  · split
    · simp [noD]
    · exact seenD_len _
  split
  · simp [noD]
  · simp only [List.length_take]; omega

theorem resV_len (op : Int) (args : List Int) (ins : List D) : (resV op args ins).1.1.length ≤ 4 := by
  unfold resV
  split
  · simp [noD]
  split
  · exact elemRes_len _ _ _
  split
  · simp [noD]
  split
  · unfold matRes; repeat' split
    all_goals simp [noD]
  split
  · unfold convRes; repeat' split
    all_goals simp [noD, convSh]
  split
  · unfold poolRes; repeat' split
    all_goals simp [noD, poolSh]
  split
  · exact softRes_len _ _
  split
  · unfold turnRes; repeat' split
    all_goals simp [noD]
  · unfold reshRes
    split
    · simp [noD]
    by_cases h : shapeV args = .nil
    · rw [ifNT (nilT h)]
      split
      · simp [noD]
      · exact (shapeV_nil.1 h).1
    · rw [ifNF (isNil_false h)]; simp [noD]

theorem appV_len (op : Int) (args : List Int) (ins : List T) : (appV op args ins).1.1.1.length ≤ 4 ∧ (appV op args ins).1.2.length ≤ 16384 := by
  unfold appV
  split
  · simp [noD]
  split
  · simp [noD]
  · have h1 := resV_len op args (ins.map Prod.fst)
    have h2 := elems_bound (resV op args (ins.map Prod.fst)).1.1
    refine ⟨h1, ?_⟩
    simp
    omega

end Go.Proofs.YtohkmbpdjigjdaaDoor.Lg
