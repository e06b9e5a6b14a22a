/-
  What the program's functions come to, in plain words.
-/
import Derived.Test.YtnblnlanicpagaaDoorLgOpAP
namespace Go.Proofs.YtnblnlanicpagaaDoor.Lg
open Go Go.Eng Go.Proofs

/-- three dimensions -/
theorem shape_nat_three {sh : List Int} (h : shapeV sh = .nil) (hl : sh.length = 3) : ∃ a b c : Nat, sh = [(a : Int), (b : Int), (c : Int)] ∧ (1 ≤ a ∧ a ≤ 256) ∧ (1 ≤ b ∧ b ≤ 256) ∧ (1 ≤ c ∧ c ≤ 256) ∧ a * b * c ≤ 16384 ∧ elems sh = ((a * b * c : Nat) : Int) := by
  obtain ⟨ns, e, _, hn, _, h5, h6⟩ := shape_nat h
  rw [e] at hl
  match ns, hl with
  | [a, b, c], _ =>
    simp only [prodN, Nat.mul_one] at h5 h6
    rw [← Nat.mul_assoc] at h5 h6
    exact ⟨a, b, c, e, hn a (by simp), hn b (by simp), hn c (by simp), h5, h6⟩

theorem firstBadT_two {a b : T} (h : firstBadT [a, b] = .nil) : tensV a = .nil ∧ tensV b = .nil := by
  unfold firstBadT firstBadT firstBadT at h
  by_cases ha : tensV a = .nil
  case neg => rw [ifF (isNil_false ha)] at h; exact absurd h ha
  rw [ifT (nilT ha)] at h
  by_cases hb : tensV b = .nil
  case neg => rw [ifF (isNil_false hb)] at h; exact absurd h hb
  exact ⟨ha, hb⟩

theorem firstBadT_one {a : T} (h : firstBadT [a] = .nil) : tensV a = .nil := by
  unfold firstBadT firstBadT at h
  by_cases ha : tensV a = .nil
  case neg => rw [ifF (isNil_false ha)] at h; exact absurd h ha
  exact ha

theorem tensV_in {a : T} (h : tensV a = .nil) (p : Nat) : -2147483648 ≤ a.2.getD p 0 ∧ a.2.getD p 0 ≤ 2147483647 := by
  have h3 := ((tensV_iff a).1 h).2.2
  rcases Nat.lt_or_ge p a.2.length with hp | hp
  · have := h3 _ (List.getElem_mem hp)
    rw [getD_lt hp]
    cases hw : a.1.2
    · rw [hw] at this; have := fitsB_narrow.1 this; omega
    · rw [hw] at this; exact fitsB_wide.1 this
  · rw [List.getD_eq_getElem?_getD, List.getElem?_eq_none hp]; simp

theorem tensV_narrowD {a : T} (h : tensV a = .nil) (hw : a.1.2 = false) (p : Nat) : -128 ≤ a.2.getD p 0 ∧ a.2.getD p 0 ≤ 127 := by
  have h3 := ((tensV_iff a).1 h).2.2
  rcases Nat.lt_or_ge p a.2.length with hp | hp
  · have := h3 _ (List.getElem_mem hp)
    rw [getD_lt hp]
    rw [hw] at this; exact fitsB_narrow.1 this
  · rw [List.getD_eq_getElem?_getD, List.getElem?_eq_none hp]; simp

theorem tensV_len {a : T} (h : tensV a = .nil) : (a.2.length : Int) = elems a.1.1 := ((tensV_iff a).1 h).2.1

theorem tensV_shape {a : T} (h : tensV a = .nil) : shapeV a.1.1 = .nil := ((tensV_iff a).1 h).1

/-! pools, by the document -/

def poolSh (n s : Int) (a : List Int) : List Int := [(a.getD 0 0 - n) / s + 1, (a.getD 1 0 - n) / s + 1, a.getD 2 0]

def poolRes (ar : List Int) (a : D) : D × Er :=
  if ar.length ≠ 2 then (noD, .s ErrShape)
  else if !(shapeV a.1).isNil then (noD, shapeV a.1)
  else if a.1.length ≠ 3 then (noD, .s ErrShape)
  else if ar.getD 0 0 < 1 ∨ 16 < ar.getD 0 0 ∨ ar.getD 1 0 < 1 ∨ 16 < ar.getD 1 0 then (noD, .s ErrRange)
  else if a.1.getD 0 0 < ar.getD 0 0 ∨ a.1.getD 1 0 < ar.getD 0 0 then (noD, .s ErrShape)
  else ((poolSh (ar.getD 0 0) (ar.getD 1 0) a.1, a.2), .nil)

theorem poolRes_bare (ar : List Int) (a : D) : bareE (poolRes ar a).2 := by
  unfold poolRes
  repeat' split
  all_goals first | exact True.intro | (dsimp only; exact shapeV_bare _)

theorem poolRes_OK (ar : List Int) (a : D) : erOK (poolRes ar a).2 := by
  unfold poolRes
  repeat' split
  all_goals first | exact True.intro | exact (show ErrShape < 21 by decide) | exact (show ErrRange < 21 by decide) | (dsimp only; exact shapeV_OK _)

theorem poolSh_nat {h w c n s : Nat} (hn : 1 ≤ n) (hs : 1 ≤ s) (h1 : n ≤ h) (h2 : n ≤ w) : poolSh (n : Int) (s : Int) [(h : Int), (w : Int), (c : Int)] = [(((h - n) / s + 1 : Nat) : Int), (((w - n) / s + 1 : Nat) : Int), (c : Int)] := by
  unfold poolSh
  simp only [List.getD_cons_zero, List.getD_cons_succ]
  rw [show (h : Int) - n = ((h - n : Nat) : Int) by omega, show (w : Int) - n = ((w - n : Nat) : Int) by omega]
  simp

theorem pool_dim {h n s : Nat} (hn : 1 ≤ n) (hs : 1 ≤ s) (h1 : n ≤ h) : 1 ≤ (h - n) / s + 1 ∧ (h - n) / s + 1 ≤ h := by
  have := Nat.div_le_self (h - n) s
  generalize (h - n) / s = q at *
  omega

theorem pool_prod {h w c n s : Nat} (hn : 1 ≤ n) (hs : 1 ≤ s) (h1 : n ≤ h) (h2 : n ≤ w) (hp : h * w * c ≤ 16384) : ((h - n) / s + 1) * ((w - n) / s + 1) * c ≤ 16384 :=
  Nat.le_trans (Nat.mul_le_mul_right c (Nat.mul_le_mul (pool_dim hn hs h1).2 (pool_dim hn hs h2).2)) hp

theorem lodgeref3_PoolResult_spec {N : Nat} (hN : 20000 ≤ N) (ar : List Int) (a : D) : F_lodgeref3_PoolResult N ar a = some (boxD (poolRes ar a).1, (codeE (poolRes ar a).2, ())) := by
  unfold F_lodgeref3_PoolResult poolRes
  by_cases hl : ar.length = 2
  case neg =>
    rw [if_pos hl]
    exact cT (by omega) rfl
  rw [if_neg (fun h => h hl)]
  refine cF (by omega) ?_
  refine bnd _ (VD_spec hN _) ?_
  rcases shapeV_cases a.1 with ha | ⟨ha, ha'⟩
  case inr => rw [ifNF ha]; exact cT ha' rfl
  rw [ifNT (nilT ha)]
  refine cF (by simp [codeE, ha]) ?_
  by_cases h3 : a.1.length = 3
  case neg => rw [if_pos h3]; exact cT (by omega) rfl
  rw [if_neg (fun h => h h3)]
  refine cF (by omega) (cT (by omega) (cT (by omega) ?_))
  by_cases r1 : ar.getD 0 0 < 1
  · rw [if_pos (.inl r1)]; exact cT r1 rfl
  refine cF r1 ?_
  by_cases r2 : 16 < ar.getD 0 0
  · rw [if_pos (.inr (.inl r2))]; exact cT r2 rfl
  refine cF r2 ?_
  by_cases r3 : ar.getD 1 0 < 1
  · rw [if_pos (.inr (.inr (.inl r3)))]; exact cT r3 rfl
  refine cF r3 ?_
  by_cases r4 : 16 < ar.getD 1 0
  · rw [if_pos (.inr (.inr (.inr r4)))]; exact cT r4 rfl
  refine cF r4 ?_
  rw [if_neg (by omega)]
  obtain ⟨h, w, c, e, hh, hw, hc, hp, he⟩ := shape_nat_three ha h3
  refine cT (by omega) ?_
  by_cases q1 : a.1.getD 0 0 < ar.getD 0 0
  · rw [if_pos (.inl q1)]; exact cT q1 rfl
  refine cF q1 (cT (by omega) ?_)
  by_cases q2 : a.1.getD 1 0 < ar.getD 0 0
  · rw [if_pos (.inr q2)]; exact cT q2 rfl
  refine cF q2 (cT (by omega) (cT (by omega) (cT (by omega) (cT (by omega) (cT (by omega) ?_)))))
  rw [if_neg (by omega)]
  rw [e] at q1 q2 ⊢
  simp only [List.getD_cons_zero, List.getD_cons_succ] at q1 q2 ⊢
  obtain ⟨n, en⟩ : ∃ n : Nat, ar.getD 0 0 = (n : Int) := ⟨(ar.getD 0 0).toNat, by omega⟩
  obtain ⟨s, es⟩ : ∃ s : Nat, ar.getD 1 0 = (s : Int) := ⟨(ar.getD 1 0).toNat, by omega⟩
  rw [en] at r1 r2 q1 q2
  rw [es] at r3 r4
  simp only [en, es]
  have d0 : wi64 (wi64 (Int.tdiv (wi64 ((h : Int) - n)) s) + 1) = (((h - n) / s + 1 : Nat) : Int) := by
    rw [show (h : Int) - n = ((h - n : Nat) : Int) by omega, wi64_in (n := ((h - n : Nat) : Int)) (by omega) (by omega), wi64_tdiv _ s (by omega), wi64_succ]
    have := Nat.div_le_self (h - n) s
    generalize (h - n) / s = q at *
    omega
  have d1 : wi64 (wi64 (Int.tdiv (wi64 ((w : Int) - n)) s) + 1) = (((w - n) / s + 1 : Nat) : Int) := by
    rw [show (w : Int) - n = ((w - n : Nat) : Int) by omega, wi64_in (n := ((w - n : Nat) : Int)) (by omega) (by omega), wi64_tdiv _ s (by omega), wi64_succ]
    have := Nat.div_le_self (w - n) s
    generalize (w - n) / s = q at *
    omega
  rw [d0, d1]
  have hv := shapeV_three (a := (h - n) / s + 1) (b := (w - n) / s + 1) (c := c) (by have := pool_dim (h := h) (n := n) (s := s) (by omega) (by omega) (by omega); omega) (by have := pool_dim (h := w) (n := n) (s := s) (by omega) (by omega) (by omega); omega) hc (pool_prod (by omega) (by omega) (by omega) (by omega) hp)
  refine bnd _ (lodgeref3_seen_spec hN _) ?_
  (repeat first | refine cT rfl ?_ | refine cT True.intro ?_)
  unfold seenD
  rw [ifT (nilT hv), poolSh_nat (by omega) (by omega) (by omega) (by omega)]

/-- the greatest of the first ones -/
def mx (f : Nat → Int) : Nat → Int
  | 0 => f 0
  | k + 1 => max (mx f k) (f (k + 1))

def bst (f : Nat → Int) : Nat → Int
  | 0 => 0
  | k + 1 => mx f k

theorem mx_bound {f : Nat → Int} {lo hi : Int} (h : ∀ i, lo ≤ f i ∧ f i ≤ hi) : ∀ k, lo ≤ mx f k ∧ mx f k ≤ hi
  | 0 => h 0
  | k + 1 => by
    have := mx_bound h k
    have := h (k + 1)
    simp only [mx]
    omega

theorem mx_ge {f : Nat → Int} : ∀ {k i : Nat}, i ≤ k → f i ≤ mx f k
  | 0, i, h => by
    have : i = 0 := by omega
    subst this
    exact Int.le_refl _
  | k + 1, i, h => by
    simp only [mx]
    by_cases e : i = k + 1
    · subst e; omega
    · have := mx_ge (f := f) (k := k) (i := i) (by omega)
      omega

/-- what a pool is made of -/
structure PoolOK (a : T) (h w c n s : Nat) : Prop where
  hh : 1 ≤ h ∧ h ≤ 256
  hw : 1 ≤ w ∧ w ≤ 256
  hc : 1 ≤ c ∧ c ≤ 256
  hn : 1 ≤ n ∧ n ≤ 16
  hs : 1 ≤ s ∧ s ≤ 16
  nh : n ≤ h
  nw : n ≤ w
  sa : a.1.1 = [(h : Int), (w : Int), (c : Int)]
  hA : a.2.length = h * w * c
  bA : h * w * c ≤ 16384
  fA : ∀ p, -2147483648 ≤ a.2.getD p 0 ∧ a.2.getD p 0 ≤ 2147483647

/-- what it reads -/
def plV (A : List Int) (w c s y x ch dy dx : Nat) : Int := A.getD (((y * s + dy) * w + (x * s + dx)) * c + ch) 0

def plS (A : List Int) (w c n s y x ch : Nat) : Int := sumN (fun dy => sumN (plV A w c s y x ch dy) n) n

def plM (A : List Int) (w c n s y x ch : Nat) : Int := mx (fun q => plV A w c s y x ch (q / n) (q % n)) (n * n - 1)

def plC (avg : Bool) (A : List Int) (w c n s ow i : Nat) : Int :=
  if avg then (2 * plS A w c n s (i / c / ow) (i / c % ow) (i % c) + ((n * n : Nat) : Int)) / (2 * ((n * n : Nat) : Int)) else plM A w c n s (i / c / ow) (i / c % ow) (i % c)

section

variable {a : T} {h w c n s : Nat}

theorem pool_idx (H : PoolOK a h w c n s) {y x ch dy dx : Nat} (hy : y < (h - n) / s + 1) (hx : x < (w - n) / s + 1) (hch : ch < c) (hdy : dy < n) (hdx : dx < n) :
    y * s + dy < h ∧ x * s + dx < w ∧ ((y * s + dy) * w + (x * s + dx)) * c + ch < h * w * c := by
  have e1 : y * s ≤ h - n := by
    have : y ≤ (h - n) / s := by omega
    have := Nat.mul_le_mul_right s this
    have := Nat.div_mul_le_self (h - n) s
    omega
  have e2 : x * s ≤ w - n := by
    have : x ≤ (w - n) / s := by omega
    have := Nat.mul_le_mul_right s this
    have := Nat.div_mul_le_self (w - n) s
    omega
  have := H.nh
  have := H.nw
  have h1 : y * s + dy < h := by omega
  have h2 : x * s + dx < w := by omega
  exact ⟨h1, h2, three_idx h1 h2 hch⟩

theorem pool_wi (H : PoolOK a h w c n s) {y x ch dy dx : Nat} (hy : y < (h - n) / s + 1) (hx : x < (w - n) / s + 1) (hch : ch < c) (hdy : dy < n) (hdx : dx < n) :
    wi64 (wi64 (wi64 (wi64 (wi64 (wi64 (wi64 ((y : Int) * s) + dy) * w) + wi64 ((x : Int) * s)) + dx) * c) + ch) = ((((y * s + dy) * w + (x * s + dx)) * c + ch : Nat) : Int) := by
  obtain ⟨h1, h2, h3⟩ := pool_idx H hy hx hch hdy hdx
  have bA := H.bA
  have hw := H.hw
  have hh := H.hh
  have hc := H.hc
  have b1 : (y * s + dy) * w ≤ 256 * 256 := Nat.mul_le_mul (by omega) hw.2
  have b2 : (y * s + dy) * w + (x * s + dx) ≤ ((y * s + dy) * w + (x * s + dx)) * c := Nat.le_mul_of_pos_right _ (by omega)
  rw [wi64_row (by omega), wi64_mul (i := x) (k := s) (by omega), wi64_mul (by omega), wi64_add (i := (y * s + dy) * w) (by omega), wi64_add (i := (y * s + dy) * w + x * s) (by omega), Nat.add_assoc, wi64_row (by omega)]

theorem plS_bound (H : PoolOK a h w c n s) (y x ch : Nat) : -549755813888 ≤ plS a.2 w c n s y x ch ∧ plS a.2 w c n s y x ch ≤ 549755813888 := by
  have hn := H.hn
  have := sumN_bound (fun dy => sumN (plV a.2 w c s y x ch dy) n) 34359738368 (fun dy => by
        have := sumN_bound (plV a.2 w c s y x ch dy) 2147483648 (fun q => by have := H.fA (((y * s + dy) * w + (x * s + q)) * c + ch); unfold plV; omega) n
        omega) n
  unfold plS
  omega

end

/-! tables, choices, sums, by the document -/

def softK (op : Int) : Int := if op = 16 ∨ op = 17 then 2 else 1

def softRes (op : Int) (ins : List D) : D × Er :=
  if ¬ (op = 16 ∨ op = 17 ∨ op = 19 ∨ op = 20) then (noD, .s ErrKind)
  else if (ins.length : Int) ≠ softK op then (noD, .s ErrShape)
  else if !(firstBad ins).isNil then (noD, firstBad ins)
  else if op = 16 then
    if (ins.getD 0 noD).2 = true ∨ ((ins.getD 0 noD).1.length : Int) < 1 ∨ ins.getD 1 noD ≠ ([256], true) then (noD, .s ErrShape) else (ins.getD 0 noD, .nil)
  else if op = 17 then
    if (ins.getD 0 noD).1.length ≠ 2 ∨ (ins.getD 1 noD).1.length ≠ 1 ∨ (ins.getD 1 noD).2 = false then (noD, .s ErrShape) else seenD ([(ins.getD 1 noD).1.getD 0 0, (ins.getD 0 noD).1.getD 1 0], (ins.getD 0 noD).2)
  else if ((ins.getD 0 noD).1.length : Int) < 1 then (noD, .s ErrShape)
  else (((ins.getD 0 noD).1.take ((ins.getD 0 noD).1.length - 1), true), .nil)

theorem softRes_bare (op : Int) (ins : List D) : bareE (softRes op ins).2 := by
  unfold softRes
  repeat' split
  all_goals first | exact True.intro | exact seenD_bare _ | (dsimp only; exact firstBad_bare _)

theorem softRes_OK (op : Int) (ins : List D) : erOK (softRes op ins).2 := by
  unfold softRes
  repeat' split
  all_goals first | exact True.intro | exact (show ErrShape < 21 by decide) | exact (show ErrKind < 21 by decide) | exact seenD_OK _ | (dsimp only; exact firstBad_OK _)

theorem firstBad_two {a b : D} (h : firstBad [a, b] = .nil) : shapeV a.1 = .nil ∧ shapeV b.1 = .nil := by
  unfold firstBad firstBad firstBad at h
  rcases shapeV_cases a.1 with ha | ⟨ha, ha'⟩
  case inr => rw [ifF ha] at h; rw [h] at ha; cases ha
  rw [ifT (nilT ha)] at h
  rcases shapeV_cases b.1 with hb | ⟨hb, hb'⟩
  case inr => rw [ifF hb] at h; rw [h] at hb; cases hb
  exact ⟨ha, hb⟩

theorem firstBad_one {a : D} (h : firstBad [a] = .nil) : shapeV a.1 = .nil := by
  unfold firstBad firstBad at h
  rcases shapeV_cases a.1 with ha | ⟨ha, ha'⟩
  case inr => rw [ifF ha] at h; rw [h] at ha; cases ha
  exact ha

theorem prodN_append : ∀ (l m : List Nat), prodN (l ++ m) = prodN l * prodN m
  | [], m => by simp [prodN]
  | n :: r, m => by rw [List.cons_append, prodN, prodN, prodN_append r m, Nat.mul_assoc]

/-- the last dimension, and those ahead of it -/
theorem shape_nat_last {sh : List Int} (h : shapeV sh = .nil) (hl : 1 ≤ sh.length) : ∃ (pre : List Nat) (n : Nat), sh = (pre.map Nat.cast) ++ [(n : Int)] ∧ (1 ≤ n ∧ n ≤ 256) ∧ 1 ≤ prodN pre ∧ prodN pre * n ≤ 16384 ∧ elems sh = ((prodN pre * n : Nat) : Int) ∧ shapeV (pre.map (Nat.cast : Nat → Int)) = .nil ∧ elems (pre.map (Nat.cast : Nat → Int)) = ((prodN pre : Nat) : Int) := by
  obtain ⟨ns, e, h4, hn, h1, h5, h6⟩ := shape_nat h
  have hne : ns ≠ [] := by
    intro e0
    rw [e, e0] at hl
    simp at hl
  have hd : ns.dropLast ++ [ns.getLast hne] = ns := List.dropLast_concat_getLast hne
  have hp : prodN ns = prodN ns.dropLast * ns.getLast hne := by
    conv => lhs; rw [← hd]
    rw [prodN_append]
    simp [prodN]
  have hmem : ∀ x, x ∈ ns.dropLast → x ∈ ns := fun x hx => (List.dropLast_sublist _).subset hx
  have hpos : 1 ≤ prodN ns.dropLast := by
    rcases Nat.eq_zero_or_pos (prodN ns.dropLast) with h0 | h0
    · rw [h0, Nat.zero_mul] at hp; omega
    · exact h0
  have hlast := hn _ (List.getLast_mem hne)
  have hle : prodN ns.dropLast ≤ prodN ns.dropLast * ns.getLast hne := Nat.le_mul_of_pos_right _ (by omega)
  have hv : shapeV (ns.dropLast.map (Nat.cast : Nat → Int)) = .nil := by
    rw [shapeV_nil]
    refine ⟨by simp; omega, ?_, ?_⟩
    · rw [List.any_eq_false]
      intro x hx
      obtain ⟨m, hm, rfl⟩ := List.mem_map.1 hx
      have := hn m (hmem m hm)
      simp [badDim]
      omega
    · have hb : (ns.dropLast.map (Nat.cast : Nat → Int)).any badDim = false := by
        rw [List.any_eq_false]
        intro x hx
        obtain ⟨m, hm, rfl⟩ := List.mem_map.1 hx
        have := hn m (hmem m hm)
        simp [badDim]
        omega
      have := overs_foldl (ns.dropLast.map (Nat.cast : Nat → Int)) 1 (by omega) hb
      have hf := foldl_prodN ns.dropLast 1
      rw [Nat.one_mul] at hf
      rw [show ((1 : Nat) : Int) = 1 from rfl] at hf
      rw [hf] at this
      rw [show decide ((16384 : Int) < 1) = false from rfl, Bool.or_false] at this
      rw [this]
      simp
      omega
  refine ⟨ns.dropLast, ns.getLast hne, ?_, hlast, hpos, by omega, by rw [h6, hp], hv, ?_⟩
  · rw [e]
    conv => lhs; rw [← hd]
    simp
  · unfold elems
    rw [hv]
    have hf := foldl_prodN ns.dropLast 1
    rw [Nat.one_mul] at hf
    exact hf

theorem take_last {α : Type} (l : List α) (x : α) : (l ++ [x]).take ((l ++ [x]).length - 1) = l := by simp

theorem getD_last {α : Type} (l : List α) (x d : α) : (l ++ [x]).getD ((l ++ [x]).length - 1) d = x := by
  rw [List.getD_eq_getElem?_getD]
  simp

theorem lodgeref3_SoftResult_spec {N : Nat} (hN : 20000 ≤ N) (op : Int) (ins : List D) (hi : ins.length ≤ 1000) : F_lodgeref3_SoftResult N op ins = some (boxD (softRes op ins).1, (codeE (softRes op ins).2, ())) := by
  unfold F_lodgeref3_SoftResult softRes
  by_cases hop : op = 16 ∨ op = 17 ∨ op = 19 ∨ op = 20
  case neg =>
    rw [if_pos hop]
    refine bnd (.inl (([], (false, ())), ((103 : Int), ()))) ?_ rfl
    refine bnd (op, (ins, (([], (false, ())), ((1 : Int), (op, (false, ())))))) ?_ ?_
    · refine cF (by omega) ?_
      rw [decide_eq_false (show ¬ op = 17 by omega)]
    refine bF rfl ?_
    refine bnd (op, (ins, (([], (false, ())), ((1 : Int), (false, ()))))) ?_ (bF rfl rfl)
    refine cF (by dsimp only; omega) ?_
    refine bT rfl ?_
    dsimp only
    rw [decide_eq_false (show ¬ op = 20 by omega)]
  rw [if_neg (fun h => h hop)]
  refine bnd (.inr (op, (ins, (([], (false, ())), (softK op, ()))))) ?_ ?_
  · rcases hop with rfl | rfl | rfl | rfl <;> rfl
  dsimp only [Sum.elim_inr]
  by_cases hl : (ins.length : Int) = softK op
  case neg => rw [if_pos hl]; exact cT hl rfl
  rw [if_neg (fun h => h hl)]
  refine cF (fun h => h hl) ?_
  refine bnd _ (lodgeref3_descs_spec hN _ (by omega)) ?_
  by_cases hb : firstBad ins = .nil
  case neg =>
    rw [ifNF (isNil_false hb)]
    exact cT (fun e => hb ((codeE_zero _).1 e)) rfl
  rw [ifNT (nilT hb)]
  refine cF (by simp [codeE, hb]) ?_
  rcases hop with rfl | rfl | rfl | rfl
  · -- softmax
    simp only [softK, true_or, if_true] at hl
    match ins, hl, hb with
    | [a, b], _, hb =>
    obtain ⟨va, vb⟩ := firstBad_two hb
    (repeat first | refine bT rfl ?_ | refine bF rfl ?_)
    refine bnd (([], (false, ())), ((a, ()), (decide (a.2 = true ∨ (a.1.length : Int) < 1 ∨ b ≠ ([256], true)), ()))) ?_ ?_
    · by_cases h1 : a.2 = true
      · refine bT h1 ?_
        (repeat first | refine cT rfl ?_ | refine cT True.intro ?_)
        rw [decide_eq_true (p := _ ∨ _) (.inl h1)]
        rfl
      refine bF (by simpa using h1) ?_
      by_cases h2 : (a.1.length : Int) < 1
      · refine cT h2 ?_
        (repeat first | refine cT rfl ?_ | refine cT True.intro ?_)
        rw [decide_eq_true (p := _ ∨ _) (.inr (.inl h2))]
        rfl
      refine cF h2 (cT (by simp) ?_)
      refine bnd _ (lodgeref_SameDesc_spec b ([256], true) (by have := (shapeV_nil.1 vb).1; omega) (by have := (shapeV_nil.1 vb).1; omega)) (cT rfl ?_)
      by_cases h3 : b = ([256], true)
      · rw [decide_eq_true h3, decide_eq_false (p := _ ∨ _) (by rintro (h | h | h); exact h1 h; exact h2 h; exact h h3)]
        rfl
      · rw [decide_eq_false h3, decide_eq_true (p := _ ∨ _) (.inr (.inr h3))]
        rfl
    by_cases hB : a.2 = true ∨ (a.1.length : Int) < 1 ∨ b ≠ ([256], true)
    · rw [if_pos rfl]
      simp only [List.getD_cons_zero, List.getD_cons_succ]
      rw [if_pos hB]
      exact cT hB rfl
    · rw [if_pos rfl]
      simp only [List.getD_cons_zero, List.getD_cons_succ]
      rw [if_neg hB]
      refine cF hB ?_
      refine bnd _ (lodgeref3_seen_spec hN _) ?_
      (repeat first | refine cT rfl ?_ | refine cT True.intro ?_)
      unfold seenD
      rw [ifT (nilT va)]
  · -- gather
    simp only [softK, or_true, if_true] at hl
    match ins, hl, hb with
    | [a, b], _, hb =>
    obtain ⟨va, vb⟩ := firstBad_two hb
    (repeat first | refine bT rfl ?_ | refine bF rfl ?_)
    refine bnd ([a, b], (([], (false, ())), ((a, ()), (decide (a.1.length ≠ 2 ∨ b.1.length ≠ 1 ∨ b.2 = false), ())))) ?_ ?_
    · by_cases h1 : a.1.length = 2
      case neg =>
        refine cT (by simp only [List.getD_cons_zero]; omega) ?_
        (repeat first | refine cT rfl ?_ | refine cT True.intro ?_)
        rw [decide_eq_true (p := _ ∨ _) (.inl h1)]
        rfl
      refine cF (by simp only [List.getD_cons_zero]; omega) (cT (by simp) ?_)
      by_cases h2 : b.1.length = 1
      case neg =>
        refine cT (by simp only [List.getD_cons_zero, List.getD_cons_succ]; omega) ?_
        (repeat first | refine cT rfl ?_ | refine cT True.intro ?_)
        rw [decide_eq_true (p := _ ∨ _) (.inr (.inl h2))]
        rfl
      refine cF (by simp only [List.getD_cons_zero, List.getD_cons_succ]; omega) (cT (by simp) (cT rfl ?_))
      cases h3 : b.2
      · rw [decide_eq_true (p := _ ∨ _) (.inr (.inr rfl))]
        simp [h3]
      · rw [decide_eq_false (p := _ ∨ _) (by rintro (h | h | h); exact h h1; exact h h2; cases h)]
        simp [h3]
    rw [if_neg (by decide), if_pos rfl]
    simp only [List.getD_cons_zero, List.getD_cons_succ]
    by_cases hB : a.1.length ≠ 2 ∨ b.1.length ≠ 1 ∨ b.2 = false
    · rw [if_pos hB]
      exact cT hB rfl
    · rw [if_neg hB]
      refine cF hB ?_
      refine cT (by simp) (cT (by omega) (cT (by omega) ?_))
      refine bnd _ (lodgeref3_seen_spec hN _) ?_
      (repeat first | refine cT rfl ?_ | refine cT True.intro ?_)
      rfl
  all_goals
    rw [softK, if_neg (by decide)] at hl
    match ins, hl, hb with
    | [a], _, hb =>
    have va := firstBad_one hb
    have h4 := (shapeV_nil.1 va).1
    rw [if_neg (by decide), if_neg (by decide)]
    (repeat first | refine bT rfl ?_ | refine bF rfl ?_)
    simp only [List.getD_cons_zero]
    by_cases h1 : (a.1.length : Int) < 1
    · rw [if_pos h1]
      exact cT h1 rfl
    rw [if_neg h1]
    refine cF h1 ?_
    have e : wi64 ((a.1.length : Int) - 1) = ((a.1.length - 1 : Nat) : Int) := by rw [wi64_in (by omega) (by omega)]; omega
    rw [e]
    refine cT (by omega) (cT (by omega) ?_)
    rw [Int.toNat_natCast, Nat.sub_zero]
    obtain ⟨pre, n, es, hn, hp, hq, he, hv, _⟩ := shape_nat_last va (by omega)
    have hv' : shapeV (a.1.take (a.1.length - 1)) = .nil := by rw [es, take_last]; exact hv
    refine bnd _ (lodgeref3_seen_spec hN _) ?_
    (repeat first | refine cT rfl ?_ | refine cT True.intro ?_)
    unfold seenD
    rw [ifT (nilT hv')]

/-! elements -/

def smM (A : List Int) (n i : Nat) : Int := mx (fun j => A.getD (i / n * n + j) 0) (n - 1)

def smW (A B : List Int) (n i j : Nat) : Int := max 0 (B.getD (smM A n i - A.getD j 0).toNat 0)

def smS (A B : List Int) (n i : Nat) : Int := sumN (fun j => smW A B n i (i / n * n + j)) n

def smC (A B : List Int) (n i : Nat) : Int := if smS A B n i = 0 then -128 else (255 * smW A B n i i + smS A B n i / 2) / smS A B n i - 128

theorem row_idx {P n i : Nat} (hn : 1 ≤ n) (hi : i < P * n) : i / n * n + n ≤ P * n ∧ i / n * n ≤ i ∧ i < i / n * n + n := by
  have h1 : i / n < P := Nat.div_lt_of_lt_mul (by rw [Nat.mul_comm]; exact hi)
  have h2 : (i / n + 1) * n ≤ P * n := Nat.mul_le_mul_right n h1
  have h3 := Nat.div_mul_le_self i n
  have h4 := Nat.mod_lt i (show 0 < n by omega)
  have h5 := Nat.div_add_mod i n
  rw [Nat.add_mul, Nat.one_mul] at h2
  rw [Nat.mul_comm] at h5
  omega

theorem imax_eq' (a b : Int) : imax a b = max a b := by
  unfold imax
  split <;> omega

section

variable {a b : T} {n P : Nat}

theorem smM_in (fA : ∀ p, -128 ≤ a.2.getD p 0 ∧ a.2.getD p 0 ≤ 127) (i : Nat) : -128 ≤ smM a.2 n i ∧ smM a.2 n i ≤ 127 := mx_bound (fun j => fA _) _

theorem smD_in (fA : ∀ p, -128 ≤ a.2.getD p 0 ∧ a.2.getD p 0 ≤ 127) (hn : 1 ≤ n) {i j : Nat} (h1 : i / n * n ≤ j) (h2 : j < i / n * n + n) : 0 ≤ smM a.2 n i - a.2.getD j 0 ∧ smM a.2 n i - a.2.getD j 0 ≤ 255 := by
  have h3 := smM_in fA (n := n) i
  have h4 := fA j
  have h5 : a.2.getD j 0 ≤ smM a.2 n i := by
    have := mx_ge (f := fun j => a.2.getD (i / n * n + j) 0) (k := n - 1) (i := j - i / n * n) (by omega)
    rw [show i / n * n + (j - i / n * n) = j by omega] at this
    exact this
  omega

theorem smW_in (fB : ∀ p, -2147483648 ≤ b.2.getD p 0 ∧ b.2.getD p 0 ≤ 2147483647) (A : List Int) (i j : Nat) : 0 ≤ smW A b.2 n i j ∧ smW A b.2 n i j ≤ 2147483647 := by
  have := fB (smM A n i - A.getD j 0).toNat
  unfold smW
  omega

theorem sumN_nonneg {f : Nat → Int} (h : ∀ i, 0 ≤ f i) : ∀ k, 0 ≤ sumN f k
  | 0 => Int.le_refl _
  | k + 1 => by
    have := sumN_nonneg h k
    have := h k
    simp only [sumN]
    omega

/-- a number, cut -/
def cut (x lo hi : Int) : Int := if x < lo then lo else if hi < x then hi else x

theorem cut_in {x lo hi : Int} (h : lo ≤ hi) : lo ≤ cut x lo hi ∧ cut x lo hi ≤ hi := by
  unfold cut
  split
  · omega
  · split <;> omega

def gaC (A B : List Int) (m w i : Nat) : Int := A.getD ((cut (B.getD (i / w) 0) 0 ((m : Int) - 1)).toNat * w + i % w) 0

theorem ga_idx {m w : Nat} (hm : 1 ≤ m) (hw : 1 ≤ w) (x : Int) (i : Nat) : (cut x 0 ((m : Int) - 1)).toNat * w + i % w < m * w := by
  have h := cut_in (x := x) (lo := 0) (hi := (m : Int) - 1) (by omega)
  have h2 : (cut x 0 ((m : Int) - 1)).toNat + 1 ≤ m := by omega
  have h3 := Nat.mul_le_mul_right w h2
  have h4 := Nat.mod_lt i (show 0 < w by omega)
  rw [Nat.add_mul] at h3
  omega

/-- the first of the greatest of the first ones -/
def am (f : Nat → Int) : Nat → Nat
  | 0 => 0
  | k + 1 => if f (am f k) < f k then k else am f k

theorem am_lt (f : Nat → Int) : ∀ k, 1 ≤ k → am f k < k
  | 0, h => by omega
  | 1, _ => by simp [am]
  | k + 2, _ => by
    have := am_lt f (k + 1) (by omega)
    rw [am]
    split <;> omega

theorem am_le (f : Nat → Int) : ∀ k, am f k ≤ k
  | 0 => Nat.le_refl _
  | k + 1 => by
    have := am_le f k
    rw [am]
    split <;> omega

def rowF (A : List Int) (n i j : Nat) : Int := A.getD (i * n + j) 0

end

/-! element by element, by the document -/

def kept (w : Bool) (n : Int) : Int := if w then round32 n else cut n (-128) 127

def requ (x m s z : Int) : Int :=
  cut ((if 0 < cut s 0 62 then (cut x (-2147483648) 2147483647 * cut m 0 2147483647 + 2 ^ ((cut s 0 62).toNat - 1)) / 2 ^ (cut s 0 62).toNat else cut x (-2147483648) 2147483647 * cut m 0 2147483647) + cut z (-128) 127) (-128) 127

def elV (op : Int) (w : Bool) (x y : Int) (args : List Int) : Int :=
  if op = 4 then kept w (x + y) else if op = 5 then kept w (x - y) else if op = 6 then kept w (x * y) else if op = 7 then max x y else if op = 8 then max x 0
  else if op = 9 then cut x (args.getD 0 0) (args.getD 1 0) else if op = 10 then requ x (args.getD 0 0) (args.getD 1 0) (args.getD 2 0) else if op = 11 then x - args.getD 0 0 else 0

def elN (op : Int) : Nat := if op = 9 then 2 else if op = 10 then 3 else if op = 11 then 1 else 0

theorem pow_bound {s : Nat} (h : s ≤ 61) : (1 : Int) ≤ 2 ^ s ∧ (2 : Int) ^ s ≤ 2305843009213693952 := by
  have h1 : (2 : Nat) ^ s ≤ 2 ^ 61 := Nat.pow_le_pow_right (by omega) h
  have h2 : 1 ≤ (2 : Nat) ^ s := Nat.one_le_two_pow
  have e : ((2 : Int) ^ s) = ((2 ^ s : Nat) : Int) := by simp
  rw [e]
  constructor
  · omega
  · have : (2 : Nat) ^ 61 = 2305843009213693952 := by decide
    omega

theorem requ_prod (x m : Int) : -4611686018427387904 ≤ cut x (-2147483648) 2147483647 * cut m 0 2147483647 ∧ cut x (-2147483648) 2147483647 * cut m 0 2147483647 ≤ 4611686018427387904 := by
  have h1 := cut_in (x := x) (lo := -2147483648) (hi := 2147483647) (by omega)
  have h2 := cut_in (x := m) (lo := 0) (hi := 2147483647) (by omega)
  exact mul_abs (A := 2147483648) (B := 2147483648) (by omega) (by omega) (by omega) (by omega)

theorem shl_one {s : Nat} (h1 : 1 ≤ s) (h2 : s ≤ 62) : shlI IntKind.i64 1 (wu64 (wi64 ((s : Int) - 1))) = 2 ^ (s - 1) := by
  have e1 : wi64 ((s : Int) - 1) = ((s - 1 : Nat) : Int) := by rw [wi64_in (by omega) (by omega)]; omega
  have e2 : wu64 ((s - 1 : Nat) : Int) = ((s - 1 : Nat) : Int) := by
    show IntKind.wrap .u64 _ = _
    simp only [IntKind.wrap, IntKind.bits, IntKind.signed]
    simp
    omega
  have hb := pow_bound (s := s - 1) (by omega)
  rw [e1, e2]
  unfold shlI
  rw [show IntKind.bits .i64 = 64 from rfl, Int.toNat_natCast, Nat.min_eq_left (by omega), Int.one_mul]
  exact wi64_in (by omega) (by omega)

theorem shr_at {p : Int} {s : Nat} (h2 : s ≤ 62) : shrI IntKind.i64 p (wu64 (s : Int)) = p / 2 ^ s := by
  have e2 : wu64 (s : Int) = (s : Int) := by
    show IntKind.wrap .u64 _ = _
    simp only [IntKind.wrap, IntKind.bits, IntKind.signed]
    simp
    omega
  rw [e2]
  unfold shrI
  rw [show IntKind.bits .i64 = 64 from rfl, Int.toNat_natCast, Nat.min_eq_left (by omega), Int.fdiv_eq_ediv_of_nonneg]
  have : (0 : Int) < 2 ^ s := Int.pow_pos (by omega)
  omega

theorem cut_cut {q z : Int} (hz : -128 ≤ z ∧ z ≤ 127) : cut (cut q (-1099511627776) 1099511627776 + z) (-128) 127 = cut (q + z) (-128) 127 := by
  unfold cut
  repeat' split
  all_goals omega

/-- what an operation element by element makes of what looks so -/
def elK (op : Int) : Nat := if op = 4 ∨ op = 5 ∨ op = 6 ∨ op = 7 then 2 else 1

def elFair (op : Int) (args : List Int) (w : Bool) : Bool :=
  if op = 9 then fitsB w (args.getD 0 0) && fitsB w (args.getD 1 0) && decide (args.getD 0 0 ≤ args.getD 1 0)
  else if op = 10 then decide (0 ≤ args.getD 0 0) && decide (args.getD 0 0 ≤ 2147483647) && decide (0 ≤ args.getD 1 0) && decide (args.getD 1 0 ≤ 62) && narrowB (args.getD 2 0)
  else if op = 11 then narrowB (args.getD 0 0) else true

def elWide (op : Int) (w : Bool) : Bool := if op = 10 then false else if op = 11 then true else w

def elemRes (op : Int) (args : List Int) (ins : List D) : D × Er :=
  if ¬ (4 ≤ op ∧ op ≤ 11) then (noD, .s ErrKind)
  else if args.length ≠ elN op ∨ ins.length ≠ elK op then (noD, .s ErrShape)
  else if !(firstBad ins).isNil then (noD, firstBad ins)
  else if elK op = 2 ∧ ins.getD 0 noD ≠ ins.getD 1 noD ∨ op = 10 ∧ (ins.getD 0 noD).2 = false ∨ op = 11 ∧ (ins.getD 0 noD).2 = true then (noD, .s ErrShape)
  else if elFair op args (ins.getD 0 noD).2 = false then (noD, .s ErrRange)
  else (((ins.getD 0 noD).1, elWide op (ins.getD 0 noD).2), .nil)

theorem elemRes_bare (op : Int) (args : List Int) (ins : List D) : bareE (elemRes op args ins).2 := by
  unfold elemRes
  repeat' split
  all_goals first | exact True.intro | (dsimp only; exact firstBad_bare _)

theorem elemRes_OK (op : Int) (args : List Int) (ins : List D) : erOK (elemRes op args ins).2 := by
  unfold elemRes
  repeat' split
  all_goals first | exact True.intro | exact (show ErrShape < 21 by decide) | exact (show ErrKind < 21 by decide) | exact (show ErrRange < 21 by decide) | (dsimp only; exact firstBad_OK _)

theorem ref_ER_4 {N : Nat} (hN : 20000 ≤ N) (args : List Int) (ins : List D) (hi : ins.length ≤ 1000) : F_lodgeref3_ElemResult N 4 args ins = some (boxD (elemRes 4 args ins).1, (codeE (elemRes 4 args ins).2, ())) := by
  unfold F_lodgeref3_ElemResult elemRes
  rw [if_neg (by decide), show elN 4 = 0 from rfl, show elK 4 = 2 from rfl]
  refine bnd _ rfl (bnd _ rfl ?_)
  (repeat first | refine bT rfl ?_ | refine bF rfl ?_)
  refine bnd _ rfl (bnd _ rfl ?_)
  refine bnd (4, (args, (ins, (([], (false, ())), (true, (decide (args.length ≠ 0 ∨ ins.length ≠ 2), ())))))) ?_ ?_
  · by_cases h1 : args.length = 0
    case neg =>
      refine cT (by first | omega | (dsimp only; omega) | (simp; omega)) ?_
      (repeat first | refine cT rfl ?_ | refine cT True.intro ?_)
      rw [decide_eq_true (p := _ ∨ _) (.inl h1)]
      all_goals rfl
    refine cF (by first | omega | (dsimp only; omega) | (simp; omega)) ?_
    (repeat first | refine cT rfl ?_ | refine cT True.intro ?_)
    dsimp only
    by_cases h2 : ins.length = 2
    · rw [decide_eq_false (show ¬ ((ins.length : Int) ≠ 2) by omega), decide_eq_false (p := _ ∨ _) (by omega)]
      all_goals rfl
    · rw [decide_eq_true (show (ins.length : Int) ≠ 2 by omega), decide_eq_true (p := _ ∨ _) (.inr h2)]
      all_goals rfl
  by_cases hB : args.length ≠ 0 ∨ ins.length ≠ 2
  case pos => rw [if_pos hB]; exact cT hB rfl
  rw [if_neg hB]
  refine cF hB ?_
  refine bnd _ (lodgeref3_descs_spec hN _ (by first | omega | (dsimp only; omega) | (simp; omega))) ?_
  by_cases hb : firstBad ins = .nil
  case neg =>
    rw [ifNF (isNil_false hb)]
    exact cT (fun e => hb ((codeE_zero _).1 e)) rfl
  rw [ifNT (nilT hb)]
  refine cF (by simp [codeE, hb]) ?_
  simp only [not_or, ne_eq, Decidable.not_not] at hB
  match ins, hB.2, hb with
  | [a, b], _, hb =>
  obtain ⟨va, vb⟩ := firstBad_two hb
  have l4 := (shapeV_nil.1 va).1
  refine cT (by simp) ?_
  by_cases h3 : a = b
  case neg =>
    rw [if_pos (.inl ⟨by first | rfl | exact True.intro, h3⟩)]
    refine bnd (4, args, ([], false, ()), (a, ()), true, ()) ?_ rfl
    refine bT rfl (cT (by simp) (bnd _ (lodgeref_SameDesc_spec a b (by omega) (by omega)) ?_))
    refine bT (by simp [h3]) ?_
    (repeat first | refine cT rfl ?_ | refine cT True.intro ?_)
    rfl
  rw [if_neg (by rintro (⟨_, h⟩ | ⟨h, _⟩ | ⟨h, _⟩); exact h h3; exact absurd h (by decide); exact absurd h (by decide))]
  refine bnd (4, args, ([], false, ()), (a, ()), false, ()) ?_ ?_
  · refine bT rfl (cT (by simp) (bnd _ (lodgeref_SameDesc_spec a b (by omega) (by omega)) ?_))
    refine bF (by simp [h3]) ?_
    (repeat first | refine bT rfl ?_ | refine bF rfl ?_)
    rfl
  refine bF rfl (bnd _ (lodgeref_Desc_spec a (by omega) (by omega)) ?_)
  have eF : ∀ w, elFair 4 args w = true := fun _ => rfl
  rw [eF, if_neg (show ¬ (true = false) by decide)]
  (repeat first | refine bT rfl ?_ | refine bF rfl ?_)
  (repeat first | refine cT rfl ?_ | refine cT True.intro ?_)
  rfl

theorem ref_ER_5 {N : Nat} (hN : 20000 ≤ N) (args : List Int) (ins : List D) (hi : ins.length ≤ 1000) : F_lodgeref3_ElemResult N 5 args ins = some (boxD (elemRes 5 args ins).1, (codeE (elemRes 5 args ins).2, ())) := by
  unfold F_lodgeref3_ElemResult elemRes
  rw [if_neg (by decide), show elN 5 = 0 from rfl, show elK 5 = 2 from rfl]
  refine bnd _ rfl (bnd _ rfl ?_)
  (repeat first | refine bT rfl ?_ | refine bF rfl ?_)
  refine bnd _ rfl (bnd _ rfl ?_)
  refine bnd (5, (args, (ins, (([], (false, ())), (true, (decide (args.length ≠ 0 ∨ ins.length ≠ 2), ())))))) ?_ ?_
  · by_cases h1 : args.length = 0
    case neg =>
      refine cT (by first | omega | (dsimp only; omega) | (simp; omega)) ?_
      (repeat first | refine cT rfl ?_ | refine cT True.intro ?_)
      rw [decide_eq_true (p := _ ∨ _) (.inl h1)]
      all_goals rfl
    refine cF (by first | omega | (dsimp only; omega) | (simp; omega)) ?_
    (repeat first | refine cT rfl ?_ | refine cT True.intro ?_)
    dsimp only
    by_cases h2 : ins.length = 2
    · rw [decide_eq_false (show ¬ ((ins.length : Int) ≠ 2) by omega), decide_eq_false (p := _ ∨ _) (by omega)]
      all_goals rfl
    · rw [decide_eq_true (show (ins.length : Int) ≠ 2 by omega), decide_eq_true (p := _ ∨ _) (.inr h2)]
      all_goals rfl
  by_cases hB : args.length ≠ 0 ∨ ins.length ≠ 2
  case pos => rw [if_pos hB]; exact cT hB rfl
  rw [if_neg hB]
  refine cF hB ?_
  refine bnd _ (lodgeref3_descs_spec hN _ (by first | omega | (dsimp only; omega) | (simp; omega))) ?_
  by_cases hb : firstBad ins = .nil
  case neg =>
    rw [ifNF (isNil_false hb)]
    exact cT (fun e => hb ((codeE_zero _).1 e)) rfl
  rw [ifNT (nilT hb)]
  refine cF (by simp [codeE, hb]) ?_
  simp only [not_or, ne_eq, Decidable.not_not] at hB
  match ins, hB.2, hb with
  | [a, b], _, hb =>
  obtain ⟨va, vb⟩ := firstBad_two hb
  have l4 := (shapeV_nil.1 va).1
  refine cT (by simp) ?_
  by_cases h3 : a = b
  case neg =>
    rw [if_pos (.inl ⟨by first | rfl | exact True.intro, h3⟩)]
    refine bnd (5, args, ([], false, ()), (a, ()), true, ()) ?_ rfl
    refine bT rfl (cT (by simp) (bnd _ (lodgeref_SameDesc_spec a b (by omega) (by omega)) ?_))
    refine bT (by simp [h3]) ?_
    (repeat first | refine cT rfl ?_ | refine cT True.intro ?_)
    rfl
  rw [if_neg (by rintro (⟨_, h⟩ | ⟨h, _⟩ | ⟨h, _⟩); exact h h3; exact absurd h (by decide); exact absurd h (by decide))]
  refine bnd (5, args, ([], false, ()), (a, ()), false, ()) ?_ ?_
  · refine bT rfl (cT (by simp) (bnd _ (lodgeref_SameDesc_spec a b (by omega) (by omega)) ?_))
    refine bF (by simp [h3]) ?_
    (repeat first | refine bT rfl ?_ | refine bF rfl ?_)
    rfl
  refine bF rfl (bnd _ (lodgeref_Desc_spec a (by omega) (by omega)) ?_)
  have eF : ∀ w, elFair 5 args w = true := fun _ => rfl
  rw [eF, if_neg (show ¬ (true = false) by decide)]
  (repeat first | refine bT rfl ?_ | refine bF rfl ?_)
  (repeat first | refine cT rfl ?_ | refine cT True.intro ?_)
  rfl

theorem ref_ER_6 {N : Nat} (hN : 20000 ≤ N) (args : List Int) (ins : List D) (hi : ins.length ≤ 1000) : F_lodgeref3_ElemResult N 6 args ins = some (boxD (elemRes 6 args ins).1, (codeE (elemRes 6 args ins).2, ())) := by
  unfold F_lodgeref3_ElemResult elemRes
  rw [if_neg (by decide), show elN 6 = 0 from rfl, show elK 6 = 2 from rfl]
  refine bnd _ rfl (bnd _ rfl ?_)
  (repeat first | refine bT rfl ?_ | refine bF rfl ?_)
  refine bnd _ rfl (bnd _ rfl ?_)
  refine bnd (6, (args, (ins, (([], (false, ())), (true, (decide (args.length ≠ 0 ∨ ins.length ≠ 2), ())))))) ?_ ?_
  · by_cases h1 : args.length = 0
    case neg =>
      refine cT (by first | omega | (dsimp only; omega) | (simp; omega)) ?_
      (repeat first | refine cT rfl ?_ | refine cT True.intro ?_)
      rw [decide_eq_true (p := _ ∨ _) (.inl h1)]
      all_goals rfl
    refine cF (by first | omega | (dsimp only; omega) | (simp; omega)) ?_
    (repeat first | refine cT rfl ?_ | refine cT True.intro ?_)
    dsimp only
    by_cases h2 : ins.length = 2
    · rw [decide_eq_false (show ¬ ((ins.length : Int) ≠ 2) by omega), decide_eq_false (p := _ ∨ _) (by omega)]
      all_goals rfl
    · rw [decide_eq_true (show (ins.length : Int) ≠ 2 by omega), decide_eq_true (p := _ ∨ _) (.inr h2)]
      all_goals rfl
  by_cases hB : args.length ≠ 0 ∨ ins.length ≠ 2
  case pos => rw [if_pos hB]; exact cT hB rfl
  rw [if_neg hB]
  refine cF hB ?_
  refine bnd _ (lodgeref3_descs_spec hN _ (by first | omega | (dsimp only; omega) | (simp; omega))) ?_
  by_cases hb : firstBad ins = .nil
  case neg =>
    rw [ifNF (isNil_false hb)]
    exact cT (fun e => hb ((codeE_zero _).1 e)) rfl
  rw [ifNT (nilT hb)]
  refine cF (by simp [codeE, hb]) ?_
  simp only [not_or, ne_eq, Decidable.not_not] at hB
  match ins, hB.2, hb with
  | [a, b], _, hb =>
  obtain ⟨va, vb⟩ := firstBad_two hb
  have l4 := (shapeV_nil.1 va).1
  refine cT (by simp) ?_
  by_cases h3 : a = b
  case neg =>
    rw [if_pos (.inl ⟨by first | rfl | exact True.intro, h3⟩)]
    refine bnd (6, args, ([], false, ()), (a, ()), true, ()) ?_ rfl
    refine bT rfl (cT (by simp) (bnd _ (lodgeref_SameDesc_spec a b (by omega) (by omega)) ?_))
    refine bT (by simp [h3]) ?_
    (repeat first | refine cT rfl ?_ | refine cT True.intro ?_)
    rfl
  rw [if_neg (by rintro (⟨_, h⟩ | ⟨h, _⟩ | ⟨h, _⟩); exact h h3; exact absurd h (by decide); exact absurd h (by decide))]
  refine bnd (6, args, ([], false, ()), (a, ()), false, ()) ?_ ?_
  · refine bT rfl (cT (by simp) (bnd _ (lodgeref_SameDesc_spec a b (by omega) (by omega)) ?_))
    refine bF (by simp [h3]) ?_
    (repeat first | refine bT rfl ?_ | refine bF rfl ?_)
    rfl
  refine bF rfl (bnd _ (lodgeref_Desc_spec a (by omega) (by omega)) ?_)
  have eF : ∀ w, elFair 6 args w = true := fun _ => rfl
  rw [eF, if_neg (show ¬ (true = false) by decide)]
  (repeat first | refine bT rfl ?_ | refine bF rfl ?_)
  (repeat first | refine cT rfl ?_ | refine cT True.intro ?_)
  rfl

theorem ref_ER_7 {N : Nat} (hN : 20000 ≤ N) (args : List Int) (ins : List D) (hi : ins.length ≤ 1000) : F_lodgeref3_ElemResult N 7 args ins = some (boxD (elemRes 7 args ins).1, (codeE (elemRes 7 args ins).2, ())) := by
  unfold F_lodgeref3_ElemResult elemRes
  rw [if_neg (by decide), show elN 7 = 0 from rfl, show elK 7 = 2 from rfl]
  refine bnd _ rfl (bnd _ rfl ?_)
  (repeat first | refine bT rfl ?_ | refine bF rfl ?_)
  refine bnd _ rfl (bnd _ rfl ?_)
  refine bnd (7, (args, (ins, (([], (false, ())), (true, (decide (args.length ≠ 0 ∨ ins.length ≠ 2), ())))))) ?_ ?_
  · by_cases h1 : args.length = 0
    case neg =>
      refine cT (by first | omega | (dsimp only; omega) | (simp; omega)) ?_
      (repeat first | refine cT rfl ?_ | refine cT True.intro ?_)
      rw [decide_eq_true (p := _ ∨ _) (.inl h1)]
      all_goals rfl
    refine cF (by first | omega | (dsimp only; omega) | (simp; omega)) ?_
    (repeat first | refine cT rfl ?_ | refine cT True.intro ?_)
    dsimp only
    by_cases h2 : ins.length = 2
    · rw [decide_eq_false (show ¬ ((ins.length : Int) ≠ 2) by omega), decide_eq_false (p := _ ∨ _) (by omega)]
      all_goals rfl
    · rw [decide_eq_true (show (ins.length : Int) ≠ 2 by omega), decide_eq_true (p := _ ∨ _) (.inr h2)]
      all_goals rfl
  by_cases hB : args.length ≠ 0 ∨ ins.length ≠ 2
  case pos => rw [if_pos hB]; exact cT hB rfl
  rw [if_neg hB]
  refine cF hB ?_
  refine bnd _ (lodgeref3_descs_spec hN _ (by first | omega | (dsimp only; omega) | (simp; omega))) ?_
  by_cases hb : firstBad ins = .nil
  case neg =>
    rw [ifNF (isNil_false hb)]
    exact cT (fun e => hb ((codeE_zero _).1 e)) rfl
  rw [ifNT (nilT hb)]
  refine cF (by simp [codeE, hb]) ?_
  simp only [not_or, ne_eq, Decidable.not_not] at hB
  match ins, hB.2, hb with
  | [a, b], _, hb =>
  obtain ⟨va, vb⟩ := firstBad_two hb
  have l4 := (shapeV_nil.1 va).1
  refine cT (by simp) ?_
  by_cases h3 : a = b
  case neg =>
    rw [if_pos (.inl ⟨by first | rfl | exact True.intro, h3⟩)]
    refine bnd (7, args, ([], false, ()), (a, ()), true, ()) ?_ rfl
    refine bT rfl (cT (by simp) (bnd _ (lodgeref_SameDesc_spec a b (by omega) (by omega)) ?_))
    refine bT (by simp [h3]) ?_
    (repeat first | refine cT rfl ?_ | refine cT True.intro ?_)
    rfl
  rw [if_neg (by rintro (⟨_, h⟩ | ⟨h, _⟩ | ⟨h, _⟩); exact h h3; exact absurd h (by decide); exact absurd h (by decide))]
  refine bnd (7, args, ([], false, ()), (a, ()), false, ()) ?_ ?_
  · refine bT rfl (cT (by simp) (bnd _ (lodgeref_SameDesc_spec a b (by omega) (by omega)) ?_))
    refine bF (by simp [h3]) ?_
    (repeat first | refine bT rfl ?_ | refine bF rfl ?_)
    rfl
  refine bF rfl (bnd _ (lodgeref_Desc_spec a (by omega) (by omega)) ?_)
  have eF : ∀ w, elFair 7 args w = true := fun _ => rfl
  rw [eF, if_neg (show ¬ (true = false) by decide)]
  (repeat first | refine bT rfl ?_ | refine bF rfl ?_)
  (repeat first | refine cT rfl ?_ | refine cT True.intro ?_)
  rfl

theorem ref_ER_8 {N : Nat} (hN : 20000 ≤ N) (args : List Int) (ins : List D) (hi : ins.length ≤ 1000) : F_lodgeref3_ElemResult N 8 args ins = some (boxD (elemRes 8 args ins).1, (codeE (elemRes 8 args ins).2, ())) := by
  unfold F_lodgeref3_ElemResult elemRes
  rw [if_neg (by decide), show elN 8 = 0 from rfl, show elK 8 = 1 from rfl]
  refine bnd _ rfl (bnd _ rfl ?_)
  (repeat first | refine bT rfl ?_ | refine bF rfl ?_)
  refine bnd _ rfl (bnd _ rfl ?_)
  refine bnd (8, (args, (ins, (([], (false, ())), (false, (decide (args.length ≠ 0 ∨ ins.length ≠ 1), ())))))) ?_ ?_
  · by_cases h1 : args.length = 0
    case neg =>
      refine cT (by first | omega | (dsimp only; omega) | (simp; omega)) ?_
      (repeat first | refine cT rfl ?_ | refine cT True.intro ?_)
      rw [decide_eq_true (p := _ ∨ _) (.inl h1)]
      all_goals rfl
    refine cF (by first | omega | (dsimp only; omega) | (simp; omega)) ?_
    (repeat first | refine cT rfl ?_ | refine cT True.intro ?_)
    dsimp only
    by_cases h2 : ins.length = 1
    · rw [decide_eq_false (show ¬ ((ins.length : Int) ≠ 1) by omega), decide_eq_false (p := _ ∨ _) (by omega)]
      all_goals rfl
    · rw [decide_eq_true (show (ins.length : Int) ≠ 1 by omega), decide_eq_true (p := _ ∨ _) (.inr h2)]
      all_goals rfl
  by_cases hB : args.length ≠ 0 ∨ ins.length ≠ 1
  case pos => rw [if_pos hB]; exact cT hB rfl
  rw [if_neg hB]
  refine cF hB ?_
  refine bnd _ (lodgeref3_descs_spec hN _ (by first | omega | (dsimp only; omega) | (simp; omega))) ?_
  by_cases hb : firstBad ins = .nil
  case neg =>
    rw [ifNF (isNil_false hb)]
    exact cT (fun e => hb ((codeE_zero _).1 e)) rfl
  rw [ifNT (nilT hb)]
  refine cF (by simp [codeE, hb]) ?_
  simp only [not_or, ne_eq, Decidable.not_not] at hB
  match ins, hB.2, hb with
  | [a], _, hb =>
  have va := firstBad_one hb
  have l4 := (shapeV_nil.1 va).1
  refine cT (by simp) ?_
  rw [if_neg (by rintro (⟨h, _⟩ | ⟨h, _⟩ | ⟨h, _⟩) <;> exact absurd h (by decide))]
  refine bnd (8, args, ([], false, ()), (a, ()), false, ()) rfl ?_
  refine bF rfl (bnd _ (lodgeref_Desc_spec a (by omega) (by omega)) ?_)
  have eF : ∀ w, elFair 8 args w = true := fun _ => rfl
  rw [eF, if_neg (show ¬ (true = false) by decide)]
  (repeat first | refine bT rfl ?_ | refine bF rfl ?_)
  (repeat first | refine cT rfl ?_ | refine cT True.intro ?_)
  rfl

theorem ref_ER_9 {N : Nat} (hN : 20000 ≤ N) (args : List Int) (ins : List D) (hi : ins.length ≤ 1000) : F_lodgeref3_ElemResult N 9 args ins = some (boxD (elemRes 9 args ins).1, (codeE (elemRes 9 args ins).2, ())) := by
  unfold F_lodgeref3_ElemResult elemRes
  rw [if_neg (by decide), show elN 9 = 2 from rfl, show elK 9 = 1 from rfl]
  refine bnd _ rfl (bnd _ rfl ?_)
  (repeat first | refine bT rfl ?_ | refine bF rfl ?_)
  refine bnd _ rfl (bnd _ rfl ?_)
  refine bnd (9, (args, (ins, (([], (false, ())), (false, (decide (args.length ≠ 2 ∨ ins.length ≠ 1), ())))))) ?_ ?_
  · by_cases h1 : args.length = 2
    case neg =>
      refine cT (by first | omega | (dsimp only; omega) | (simp; omega)) ?_
      (repeat first | refine cT rfl ?_ | refine cT True.intro ?_)
      rw [decide_eq_true (p := _ ∨ _) (.inl h1)]
      all_goals rfl
    refine cF (by first | omega | (dsimp only; omega) | (simp; omega)) ?_
    (repeat first | refine cT rfl ?_ | refine cT True.intro ?_)
    dsimp only
    by_cases h2 : ins.length = 1
    · rw [decide_eq_false (show ¬ ((ins.length : Int) ≠ 1) by omega), decide_eq_false (p := _ ∨ _) (by omega)]
      all_goals rfl
    · rw [decide_eq_true (show (ins.length : Int) ≠ 1 by omega), decide_eq_true (p := _ ∨ _) (.inr h2)]
      all_goals rfl
  by_cases hB : args.length ≠ 2 ∨ ins.length ≠ 1
  case pos => rw [if_pos hB]; exact cT hB rfl
  rw [if_neg hB]
  refine cF hB ?_
  refine bnd _ (lodgeref3_descs_spec hN _ (by first | omega | (dsimp only; omega) | (simp; omega))) ?_
  by_cases hb : firstBad ins = .nil
  case neg =>
    rw [ifNF (isNil_false hb)]
    exact cT (fun e => hb ((codeE_zero _).1 e)) rfl
  rw [ifNT (nilT hb)]
  refine cF (by simp [codeE, hb]) ?_
  simp only [not_or, ne_eq, Decidable.not_not] at hB
  match ins, hB.2, hb with
  | [a], _, hb =>
  have va := firstBad_one hb
  have l4 := (shapeV_nil.1 va).1
  refine cT (by simp) ?_
  rw [if_neg (by rintro (⟨h, _⟩ | ⟨h, _⟩ | ⟨h, _⟩) <;> exact absurd h (by decide))]
  refine bnd (9, args, ([], false, ()), (a, ()), false, ()) rfl ?_
  refine bF rfl (bnd _ (lodgeref_Desc_spec a (by omega) (by omega)) ?_)
  (repeat first | refine bT rfl ?_ | refine bF rfl ?_)
  have hlen : args.length = 2 := hB.1
  simp only [List.getD_cons_zero]
  have eF : elFair 9 args a.2 = (fitsB a.2 (args.getD 0 0) && fitsB a.2 (args.getD 1 0) && decide (args.getD 0 0 ≤ args.getD 1 0)) := rfl
  refine bnd (([], false, ()), ((a.1, a.2, ()), (!elFair 9 args a.2, ()))) ?_ ?_
  · refine cT (by omega) (bnd _ (lodgeref3_in_spec N _ _) ?_)
    rw [eF]
    cases e1 : fitsB a.2 (args.getD 0 0)
    · refine bT rfl ?_
      (repeat first | refine cT rfl ?_ | refine cT True.intro ?_)
      rfl
    refine bF rfl (cT (by omega) (bnd _ (lodgeref3_in_spec N _ _) ?_))
    cases e2 : fitsB a.2 (args.getD 1 0)
    · refine bT rfl ?_
      (repeat first | refine cT rfl ?_ | refine cT True.intro ?_)
      rfl
    refine bF rfl (cT (by omega) (cT (by omega) ?_))
    (repeat first | refine cT rfl ?_ | refine cT True.intro ?_)
    by_cases e3 : args.getD 0 0 ≤ args.getD 1 0
    · rw [decide_eq_true e3, decide_eq_false (by omega)]
      rfl
    · rw [decide_eq_false e3, decide_eq_true (by omega)]
      rfl
  cases hF : elFair 9 args a.2
  · rfl
  · rfl

theorem ref_ER_10 {N : Nat} (hN : 20000 ≤ N) (args : List Int) (ins : List D) (hi : ins.length ≤ 1000) : F_lodgeref3_ElemResult N 10 args ins = some (boxD (elemRes 10 args ins).1, (codeE (elemRes 10 args ins).2, ())) := by
  unfold F_lodgeref3_ElemResult elemRes
  rw [if_neg (by decide), show elN 10 = 3 from rfl, show elK 10 = 1 from rfl]
  refine bnd _ rfl (bnd _ rfl ?_)
  (repeat first | refine bT rfl ?_ | refine bF rfl ?_)
  refine bnd _ rfl (bnd _ rfl ?_)
  refine bnd (10, (args, (ins, (([], (false, ())), (false, (decide (args.length ≠ 3 ∨ ins.length ≠ 1), ())))))) ?_ ?_
  · by_cases h1 : args.length = 3
    case neg =>
      refine cT (by first | omega | (dsimp only; omega) | (simp; omega)) ?_
      (repeat first | refine cT rfl ?_ | refine cT True.intro ?_)
      rw [decide_eq_true (p := _ ∨ _) (.inl h1)]
      all_goals rfl
    refine cF (by first | omega | (dsimp only; omega) | (simp; omega)) ?_
    (repeat first | refine cT rfl ?_ | refine cT True.intro ?_)
    dsimp only
    by_cases h2 : ins.length = 1
    · rw [decide_eq_false (show ¬ ((ins.length : Int) ≠ 1) by omega), decide_eq_false (p := _ ∨ _) (by omega)]
      all_goals rfl
    · rw [decide_eq_true (show (ins.length : Int) ≠ 1 by omega), decide_eq_true (p := _ ∨ _) (.inr h2)]
      all_goals rfl
  by_cases hB : args.length ≠ 3 ∨ ins.length ≠ 1
  case pos => rw [if_pos hB]; exact cT hB rfl
  rw [if_neg hB]
  refine cF hB ?_
  refine bnd _ (lodgeref3_descs_spec hN _ (by first | omega | (dsimp only; omega) | (simp; omega))) ?_
  by_cases hb : firstBad ins = .nil
  case neg =>
    rw [ifNF (isNil_false hb)]
    exact cT (fun e => hb ((codeE_zero _).1 e)) rfl
  rw [ifNT (nilT hb)]
  refine cF (by simp [codeE, hb]) ?_
  simp only [not_or, ne_eq, Decidable.not_not] at hB
  match ins, hB.2, hb with
  | [a], _, hb =>
  have va := firstBad_one hb
  have l4 := (shapeV_nil.1 va).1
  refine cT (by simp) ?_
  cases h3 : a.2
  case false =>
    rw [if_pos (.inr (.inl ⟨by first | rfl | exact True.intro, h3⟩))]
    refine bnd (10, args, ([], false, ()), (a, ()), true, ()) ?_ rfl
    (repeat first | refine bT rfl ?_ | refine bF rfl ?_)
    refine bT (by simp [h3]) ?_
    (repeat first | refine cT rfl ?_ | refine cT True.intro ?_)
    rfl
  rw [if_neg (by rintro (⟨h, _⟩ | ⟨_, h⟩ | ⟨h, _⟩); exact absurd h (by decide); rw [List.getD_cons_zero, h3] at h; cases h; exact absurd h (by decide))]
  refine bnd (10, args, ([], false, ()), (a, ()), false, ()) ?_ ?_
  · (repeat first | refine bT rfl ?_ | refine bF rfl ?_)
    refine bF (by simp [h3]) ?_
    (repeat first | refine bT rfl ?_ | refine bF rfl ?_)
    rfl
  refine bF rfl (bnd _ (lodgeref_Desc_spec a (by omega) (by omega)) ?_)
  (repeat first | refine bT rfl ?_ | refine bF rfl ?_)
  have hlen : args.length = 3 := hB.1
  simp only [List.getD_cons_zero]
  have eF : elFair 10 args a.2 = (decide (0 ≤ args.getD 0 0) && decide (args.getD 0 0 ≤ 2147483647) && decide (0 ≤ args.getD 1 0) && decide (args.getD 1 0 ≤ 62) && narrowB (args.getD 2 0)) := rfl
  refine bnd (([], false, ()), ((a.1, a.2, ()), (!elFair 10 args a.2, ()))) ?_ ?_
  · refine cT (by omega) ?_
    rw [eF]
    by_cases e1 : args.getD 0 0 < 0
    · rw [decide_eq_false (show ¬ 0 ≤ args.getD 0 0 by omega)]
      refine cT e1 ?_
      (repeat first | refine cT rfl ?_ | refine cT True.intro ?_)
      rfl
    rw [decide_eq_true (show 0 ≤ args.getD 0 0 by omega)]
    refine cF e1 (cT (by omega) ?_)
    by_cases e2 : 2147483647 < args.getD 0 0
    · rw [decide_eq_false (show ¬ args.getD 0 0 ≤ 2147483647 by omega)]
      refine cT e2 ?_
      (repeat first | refine cT rfl ?_ | refine cT True.intro ?_)
      rfl
    rw [decide_eq_true (show args.getD 0 0 ≤ 2147483647 by omega)]
    refine cF e2 (cT (by omega) ?_)
    by_cases e3 : args.getD 1 0 < 0
    · rw [decide_eq_false (show ¬ 0 ≤ args.getD 1 0 by omega)]
      refine cT e3 ?_
      (repeat first | refine cT rfl ?_ | refine cT True.intro ?_)
      rfl
    rw [decide_eq_true (show 0 ≤ args.getD 1 0 by omega)]
    refine cF e3 (cT (by omega) ?_)
    by_cases e4 : 62 < args.getD 1 0
    · rw [decide_eq_false (show ¬ args.getD 1 0 ≤ 62 by omega)]
      refine cT e4 ?_
      (repeat first | refine cT rfl ?_ | refine cT True.intro ?_)
      rfl
    rw [decide_eq_true (show args.getD 1 0 ≤ 62 by omega)]
    refine cF e4 (cT (by omega) (bnd _ (lodgeref3_narrow_spec N _) ?_))
    (repeat first | refine cT rfl ?_ | refine cT True.intro ?_)
    rfl
  cases hF : elFair 10 args a.2
  · rfl
  · rfl

theorem ref_ER_11 {N : Nat} (hN : 20000 ≤ N) (args : List Int) (ins : List D) (hi : ins.length ≤ 1000) : F_lodgeref3_ElemResult N 11 args ins = some (boxD (elemRes 11 args ins).1, (codeE (elemRes 11 args ins).2, ())) := by
  unfold F_lodgeref3_ElemResult elemRes
  rw [if_neg (by decide), show elN 11 = 1 from rfl, show elK 11 = 1 from rfl]
  refine bnd _ rfl (bnd _ rfl ?_)
  (repeat first | refine bT rfl ?_ | refine bF rfl ?_)
  refine bnd _ rfl (bnd _ rfl ?_)
  refine bnd (11, (args, (ins, (([], (false, ())), (false, (decide (args.length ≠ 1 ∨ ins.length ≠ 1), ())))))) ?_ ?_
  · by_cases h1 : args.length = 1
    case neg =>
      refine cT (by first | omega | (dsimp only; omega) | (simp; omega)) ?_
      (repeat first | refine cT rfl ?_ | refine cT True.intro ?_)
      rw [decide_eq_true (p := _ ∨ _) (.inl h1)]
      all_goals rfl
    refine cF (by first | omega | (dsimp only; omega) | (simp; omega)) ?_
    (repeat first | refine cT rfl ?_ | refine cT True.intro ?_)
    dsimp only
    by_cases h2 : ins.length = 1
    · rw [decide_eq_false (show ¬ ((ins.length : Int) ≠ 1) by omega), decide_eq_false (p := _ ∨ _) (by omega)]
      all_goals rfl
    · rw [decide_eq_true (show (ins.length : Int) ≠ 1 by omega), decide_eq_true (p := _ ∨ _) (.inr h2)]
      all_goals rfl
  by_cases hB : args.length ≠ 1 ∨ ins.length ≠ 1
  case pos => rw [if_pos hB]; exact cT hB rfl
  rw [if_neg hB]
  refine cF hB ?_
  refine bnd _ (lodgeref3_descs_spec hN _ (by first | omega | (dsimp only; omega) | (simp; omega))) ?_
  by_cases hb : firstBad ins = .nil
  case neg =>
    rw [ifNF (isNil_false hb)]
    exact cT (fun e => hb ((codeE_zero _).1 e)) rfl
  rw [ifNT (nilT hb)]
  refine cF (by simp [codeE, hb]) ?_
  simp only [not_or, ne_eq, Decidable.not_not] at hB
  match ins, hB.2, hb with
  | [a], _, hb =>
  have va := firstBad_one hb
  have l4 := (shapeV_nil.1 va).1
  refine cT (by simp) ?_
  cases h3 : a.2
  case true =>
    rw [if_pos (.inr (.inr ⟨by first | rfl | exact True.intro, h3⟩))]
    refine bnd (11, args, ([], false, ()), (a, ()), true, ()) ?_ rfl
    (repeat first | refine bT rfl ?_ | refine bF rfl ?_)
    simp only [List.getD_cons_zero, h3]
  rw [if_neg (by rintro (⟨h, _⟩ | ⟨h, _⟩ | ⟨_, h⟩); exact absurd h (by decide); exact absurd h (by decide); rw [List.getD_cons_zero, h3] at h; cases h)]
  refine bnd (11, args, ([], false, ()), (a, ()), false, ()) ?_ ?_
  · (repeat first | refine bT rfl ?_ | refine bF rfl ?_)
    simp only [List.getD_cons_zero, h3]
  refine bF rfl (bnd _ (lodgeref_Desc_spec a (by omega) (by omega)) ?_)
  (repeat first | refine bT rfl ?_ | refine bF rfl ?_)
  have hlen : args.length = 1 := hB.1
  refine cT (by first | omega | (dsimp only; omega) | (simp; omega)) (bnd _ (lodgeref3_narrow_spec N _) ?_)
  have eF : elFair 11 args a.2 = narrowB (args.getD 0 0) := rfl
  simp only [List.getD_cons_zero, h3] at eF ⊢
  rw [eF]
  cases hF : narrowB (args.getD 0 0)
  · rfl
  · rfl

theorem lodgeref3_ElemResult_spec {N : Nat} (hN : 20000 ≤ N) (op : Int) (args : List Int) (ins : List D) (hi : ins.length ≤ 1000) : F_lodgeref3_ElemResult N op args ins = some (boxD (elemRes op args ins).1, (codeE (elemRes op args ins).2, ())) := by
  by_cases hop : 4 ≤ op ∧ op ≤ 11
  · have h : op = 4 ∨ op = 5 ∨ op = 6 ∨ op = 7 ∨ op = 8 ∨ op = 9 ∨ op = 10 ∨ op = 11 := by omega
    rcases h with rfl | rfl | rfl | rfl | rfl | rfl | rfl | rfl
    · exact ref_ER_4 hN args ins hi
    · exact ref_ER_5 hN args ins hi
    · exact ref_ER_6 hN args ins hi
    · exact ref_ER_7 hN args ins hi
    · exact ref_ER_8 hN args ins hi
    · exact ref_ER_9 hN args ins hi
    · exact ref_ER_10 hN args ins hi
    · exact ref_ER_11 hN args ins hi
  · unfold elemRes
    rw [if_pos hop]
    unfold F_lodgeref3_ElemResult
    refine bnd (op, (args, (ins, (([], (false, ())), (false, ()))))) ?_ ?_
    · refine cF (by omega) (cF (by omega) (cF (by omega) ?_))
      rw [decide_eq_false (show ¬ op = 7 by omega)]
    refine bnd (op, (args, (ins, (([], (false, ())), (false, (true, ())))))) ?_ (bT rfl rfl)
    refine bT rfl (cT (by first | omega | (dsimp only; omega) | (simp; omega)) (cT (by first | omega | (dsimp only; omega) | (simp; omega)) (cT (by first | omega | (dsimp only; omega) | (simp; omega)) ?_)))
    (repeat first | refine cT rfl ?_ | refine cT True.intro ?_)
    dsimp only
    rw [decide_eq_true (show op ≠ 11 by omega)]

/-! element by element -/

theorem elem_in_spec (N : Nat) (n lo hi : Int) : F_elem_in N n lo hi = some (decide (lo ≤ n) && decide (n ≤ hi), ()) := by
  unfold F_elem_in
  by_cases h : lo ≤ n
  · exact cT h (by simp [h])
  · exact cF h (by simp [h])

theorem elem_of_spec (N : Nat) (n : Int) (w : Bool) : F_elem_of N n w = some (fitsB w n, ()) := by
  unfold F_elem_of
  cases w
  · exact bF rfl (bnd _ (elem_in_spec N _ _ _) rfl)
  · exact bT rfl (bnd _ (elem_in_spec N _ _ _) rfl)

theorem loop_elem_Result {N : Nat} (hN : 20000 ≤ N) (op : Int) (args : List Int) (ins : List D) (t : List Int × (Bool × Unit)) (k : Int) (l : List D) (hl : l.length < 1000000) : ∀ (n i : Nat), i ≤ l.length → l.length < n + i →
    g_elem_Result_0 N n op args ins t k l l.length i = if firstBad (l.drop i) = .nil then some (.inl (op, (args, (ins, (t, (k, ())))))) else some (.inr (([], (false, ())), (firstBad (l.drop i), ())))
  | 0, i, h, h' => by omega
  | n + 1, i, h, h' => by
    rw [g_elem_Result_0]
    by_cases hi : i < l.length
    · refine cT (by omega) (cT (by omega) (cT (by simpa using hi) (bnd _ (shape_Valid_spec hN _) ?_)))
      rw [drop_cons hi ([], false), Int.toNat_natCast, wi64_succ (by omega), firstBad]
      rcases shapeV_cases (l.getD i ([], false)).1 with h1 | ⟨h1, h2⟩
      · rw [h1]
        refine bF rfl (cT rfl ?_)
        rw [ifT (c := Er.nil.isNil) rfl]
        exact loop_elem_Result hN op args ins t k l hl n (i + 1) hi (by omega)
      · refine bT (by simp only [h1]; rfl) ?_
        have h3 : ¬ shapeV (l.getD i ([], false)).1 = .nil := fun e => by rw [e] at h1; cases h1
        rw [ifF h1, if_neg h3]
    · refine cF (by omega) (cT rfl ?_)
      rw [List.drop_eq_nil_of_le (by omega)]
      rfl

theorem ER_4 {N : Nat} (hN : 20000 ≤ N) (args : List Int) (ins : List D) (hi : ins.length ≤ 1000) : F_elem_Result N 4 args ins = some (boxD (elemRes 4 args ins).1, ((elemRes 4 args ins).2, ())) := by
  unfold F_elem_Result elemRes
  rw [if_neg (by decide), show elN 4 = 0 from rfl, show elK 4 = 2 from rfl]
  refine bnd _ rfl ?_
  (repeat first | refine bT rfl ?_ | refine bF rfl ?_)
  refine bnd (4, (args, (ins, (([], (false, ())), (2, (decide (args.length ≠ 0 ∨ ins.length ≠ 2), ())))))) ?_ ?_
  · by_cases h1 : args.length = 0
    case neg =>
      refine cT (by first | omega | (dsimp only; omega) | (simp; omega)) ?_
      (repeat first | refine cT rfl ?_ | refine cT True.intro ?_)
      rw [decide_eq_true (p := _ ∨ _) (.inl h1)]
      all_goals rfl
    refine cF (by first | omega | (dsimp only; omega) | (simp; omega)) ?_
    (repeat first | refine cT rfl ?_ | refine cT True.intro ?_)
    dsimp only
    by_cases h2 : ins.length = 2
    · rw [decide_eq_false (show ¬ ((ins.length : Int) ≠ 2) by omega), decide_eq_false (p := _ ∨ _) (by omega)]
      all_goals rfl
    · rw [decide_eq_true (show (ins.length : Int) ≠ 2 by omega), decide_eq_true (p := _ ∨ _) (.inr h2)]
      all_goals rfl
  by_cases hB : args.length ≠ 0 ∨ ins.length ≠ 2
  case pos => rw [if_pos hB]; exact cT hB rfl
  rw [if_neg hB]
  refine cF hB ?_
  (repeat first | refine cT rfl ?_ | refine cT True.intro ?_)
  have h0 := loop_elem_Result hN 4 args ins ([], (false, ())) 2 ins (by first | omega | (dsimp only; omega) | (simp; omega)) N 0 (by omega) (by omega)
  rw [show ((0 : Nat) : Int) = 0 from rfl, List.drop_zero] at h0
  dsimp only
  rw [h0]
  by_cases hb : firstBad ins = .nil
  case neg =>
    rw [if_neg hb, ifNF (isNil_false hb)]
    simp only [Option.bind_some, Sum.elim_inr]
    (repeat first | refine cT rfl ?_ | refine cT True.intro ?_)
    rfl
  rw [if_pos hb, ifNT (nilT hb)]
  simp only [Option.bind_some, Sum.elim_inl]
  simp only [not_or, ne_eq, Decidable.not_not] at hB
  match ins, hB.2, hb with
  | [a, b], _, hb =>
  obtain ⟨va, vb⟩ := firstBad_two hb
  have l4 := (shapeV_nil.1 va).1
  refine cT (by simp) ?_
  by_cases h3 : a = b
  case neg =>
    rw [if_pos (.inl ⟨by first | rfl | exact True.intro, h3⟩)]
    refine bnd (4, args, ([], false, ()), (a, ()), true, ()) ?_ rfl
    refine bT rfl (cT (by simp) (bnd _ (shape_Same_spec a b (by omega) (by omega)) ?_))
    refine bT (by simp [h3]) ?_
    (repeat first | refine cT rfl ?_ | refine cT True.intro ?_)
    rfl
  rw [if_neg (by rintro (⟨_, h⟩ | ⟨h, _⟩ | ⟨h, _⟩); exact h h3; exact absurd h (by decide); exact absurd h (by decide))]
  refine bnd (4, args, ([], false, ()), (a, ()), false, ()) ?_ ?_
  · refine bT rfl (cT (by simp) (bnd _ (shape_Same_spec a b (by omega) (by omega)) ?_))
    refine bF (by simp [h3]) ?_
    (repeat first | refine bT rfl ?_ | refine bF rfl ?_)
    rfl
  refine bF rfl ?_
  have eF : ∀ w, elFair 4 args w = true := fun _ => rfl
  rw [eF, if_neg (show ¬ (true = false) by decide)]
  refine bnd _ rfl ?_
  refine bF rfl ?_
  refine bnd _ (shape_Clone_spec N _ (by first | omega | (dsimp only; omega) | (simp; omega))) ?_
  (repeat first | refine cT rfl ?_ | refine cT True.intro ?_)
  rfl

theorem ER_5 {N : Nat} (hN : 20000 ≤ N) (args : List Int) (ins : List D) (hi : ins.length ≤ 1000) : F_elem_Result N 5 args ins = some (boxD (elemRes 5 args ins).1, ((elemRes 5 args ins).2, ())) := by
  unfold F_elem_Result elemRes
  rw [if_neg (by decide), show elN 5 = 0 from rfl, show elK 5 = 2 from rfl]
  refine bnd _ rfl ?_
  (repeat first | refine bT rfl ?_ | refine bF rfl ?_)
  refine bnd (5, (args, (ins, (([], (false, ())), (2, (decide (args.length ≠ 0 ∨ ins.length ≠ 2), ())))))) ?_ ?_
  · by_cases h1 : args.length = 0
    case neg =>
      refine cT (by first | omega | (dsimp only; omega) | (simp; omega)) ?_
      (repeat first | refine cT rfl ?_ | refine cT True.intro ?_)
      rw [decide_eq_true (p := _ ∨ _) (.inl h1)]
      all_goals rfl
    refine cF (by first | omega | (dsimp only; omega) | (simp; omega)) ?_
    (repeat first | refine cT rfl ?_ | refine cT True.intro ?_)
    dsimp only
    by_cases h2 : ins.length = 2
    · rw [decide_eq_false (show ¬ ((ins.length : Int) ≠ 2) by omega), decide_eq_false (p := _ ∨ _) (by omega)]
      all_goals rfl
    · rw [decide_eq_true (show (ins.length : Int) ≠ 2 by omega), decide_eq_true (p := _ ∨ _) (.inr h2)]
      all_goals rfl
  by_cases hB : args.length ≠ 0 ∨ ins.length ≠ 2
  case pos => rw [if_pos hB]; exact cT hB rfl
  rw [if_neg hB]
  refine cF hB ?_
  (repeat first | refine cT rfl ?_ | refine cT True.intro ?_)
  have h0 := loop_elem_Result hN 5 args ins ([], (false, ())) 2 ins (by first | omega | (dsimp only; omega) | (simp; omega)) N 0 (by omega) (by omega)
  rw [show ((0 : Nat) : Int) = 0 from rfl, List.drop_zero] at h0
  dsimp only
  rw [h0]
  by_cases hb : firstBad ins = .nil
  case neg =>
    rw [if_neg hb, ifNF (isNil_false hb)]
    simp only [Option.bind_some, Sum.elim_inr]
    (repeat first | refine cT rfl ?_ | refine cT True.intro ?_)
    rfl
  rw [if_pos hb, ifNT (nilT hb)]
  simp only [Option.bind_some, Sum.elim_inl]
  simp only [not_or, ne_eq, Decidable.not_not] at hB
  match ins, hB.2, hb with
  | [a, b], _, hb =>
  obtain ⟨va, vb⟩ := firstBad_two hb
  have l4 := (shapeV_nil.1 va).1
  refine cT (by simp) ?_
  by_cases h3 : a = b
  case neg =>
    rw [if_pos (.inl ⟨by first | rfl | exact True.intro, h3⟩)]
    refine bnd (5, args, ([], false, ()), (a, ()), true, ()) ?_ rfl
    refine bT rfl (cT (by simp) (bnd _ (shape_Same_spec a b (by omega) (by omega)) ?_))
    refine bT (by simp [h3]) ?_
    (repeat first | refine cT rfl ?_ | refine cT True.intro ?_)
    rfl
  rw [if_neg (by rintro (⟨_, h⟩ | ⟨h, _⟩ | ⟨h, _⟩); exact h h3; exact absurd h (by decide); exact absurd h (by decide))]
  refine bnd (5, args, ([], false, ()), (a, ()), false, ()) ?_ ?_
  · refine bT rfl (cT (by simp) (bnd _ (shape_Same_spec a b (by omega) (by omega)) ?_))
    refine bF (by simp [h3]) ?_
    (repeat first | refine bT rfl ?_ | refine bF rfl ?_)
    rfl
  refine bF rfl ?_
  have eF : ∀ w, elFair 5 args w = true := fun _ => rfl
  rw [eF, if_neg (show ¬ (true = false) by decide)]
  refine bnd _ rfl ?_
  refine bF rfl ?_
  refine bnd _ (shape_Clone_spec N _ (by first | omega | (dsimp only; omega) | (simp; omega))) ?_
  (repeat first | refine cT rfl ?_ | refine cT True.intro ?_)
  rfl

theorem ER_6 {N : Nat} (hN : 20000 ≤ N) (args : List Int) (ins : List D) (hi : ins.length ≤ 1000) : F_elem_Result N 6 args ins = some (boxD (elemRes 6 args ins).1, ((elemRes 6 args ins).2, ())) := by
  unfold F_elem_Result elemRes
  rw [if_neg (by decide), show elN 6 = 0 from rfl, show elK 6 = 2 from rfl]
  refine bnd _ rfl ?_
  (repeat first | refine bT rfl ?_ | refine bF rfl ?_)
  refine bnd (6, (args, (ins, (([], (false, ())), (2, (decide (args.length ≠ 0 ∨ ins.length ≠ 2), ())))))) ?_ ?_
  · by_cases h1 : args.length = 0
    case neg =>
      refine cT (by first | omega | (dsimp only; omega) | (simp; omega)) ?_
      (repeat first | refine cT rfl ?_ | refine cT True.intro ?_)
      rw [decide_eq_true (p := _ ∨ _) (.inl h1)]
      all_goals rfl
    refine cF (by first | omega | (dsimp only; omega) | (simp; omega)) ?_
    (repeat first | refine cT rfl ?_ | refine cT True.intro ?_)
    dsimp only
    by_cases h2 : ins.length = 2
    · rw [decide_eq_false (show ¬ ((ins.length : Int) ≠ 2) by omega), decide_eq_false (p := _ ∨ _) (by omega)]
      all_goals rfl
    · rw [decide_eq_true (show (ins.length : Int) ≠ 2 by omega), decide_eq_true (p := _ ∨ _) (.inr h2)]
      all_goals rfl
  by_cases hB : args.length ≠ 0 ∨ ins.length ≠ 2
  case pos => rw [if_pos hB]; exact cT hB rfl
  rw [if_neg hB]
  refine cF hB ?_
  (repeat first | refine cT rfl ?_ | refine cT True.intro ?_)
  have h0 := loop_elem_Result hN 6 args ins ([], (false, ())) 2 ins (by first | omega | (dsimp only; omega) | (simp; omega)) N 0 (by omega) (by omega)
  rw [show ((0 : Nat) : Int) = 0 from rfl, List.drop_zero] at h0
  dsimp only
  rw [h0]
  by_cases hb : firstBad ins = .nil
  case neg =>
    rw [if_neg hb, ifNF (isNil_false hb)]
    simp only [Option.bind_some, Sum.elim_inr]
    (repeat first | refine cT rfl ?_ | refine cT True.intro ?_)
    rfl
  rw [if_pos hb, ifNT (nilT hb)]
  simp only [Option.bind_some, Sum.elim_inl]
  simp only [not_or, ne_eq, Decidable.not_not] at hB
  match ins, hB.2, hb with
  | [a, b], _, hb =>
  obtain ⟨va, vb⟩ := firstBad_two hb
  have l4 := (shapeV_nil.1 va).1
  refine cT (by simp) ?_
  by_cases h3 : a = b
  case neg =>
    rw [if_pos (.inl ⟨by first | rfl | exact True.intro, h3⟩)]
    refine bnd (6, args, ([], false, ()), (a, ()), true, ()) ?_ rfl
    refine bT rfl (cT (by simp) (bnd _ (shape_Same_spec a b (by omega) (by omega)) ?_))
    refine bT (by simp [h3]) ?_
    (repeat first | refine cT rfl ?_ | refine cT True.intro ?_)
    rfl
  rw [if_neg (by rintro (⟨_, h⟩ | ⟨h, _⟩ | ⟨h, _⟩); exact h h3; exact absurd h (by decide); exact absurd h (by decide))]
  refine bnd (6, args, ([], false, ()), (a, ()), false, ()) ?_ ?_
  · refine bT rfl (cT (by simp) (bnd _ (shape_Same_spec a b (by omega) (by omega)) ?_))
    refine bF (by simp [h3]) ?_
    (repeat first | refine bT rfl ?_ | refine bF rfl ?_)
    rfl
  refine bF rfl ?_
  have eF : ∀ w, elFair 6 args w = true := fun _ => rfl
  rw [eF, if_neg (show ¬ (true = false) by decide)]
  refine bnd _ rfl ?_
  refine bF rfl ?_
  refine bnd _ (shape_Clone_spec N _ (by first | omega | (dsimp only; omega) | (simp; omega))) ?_
  (repeat first | refine cT rfl ?_ | refine cT True.intro ?_)
  rfl

theorem ER_7 {N : Nat} (hN : 20000 ≤ N) (args : List Int) (ins : List D) (hi : ins.length ≤ 1000) : F_elem_Result N 7 args ins = some (boxD (elemRes 7 args ins).1, ((elemRes 7 args ins).2, ())) := by
  unfold F_elem_Result elemRes
  rw [if_neg (by decide), show elN 7 = 0 from rfl, show elK 7 = 2 from rfl]
  refine bnd _ rfl ?_
  (repeat first | refine bT rfl ?_ | refine bF rfl ?_)
  refine bnd (7, (args, (ins, (([], (false, ())), (2, (decide (args.length ≠ 0 ∨ ins.length ≠ 2), ())))))) ?_ ?_
  · by_cases h1 : args.length = 0
    case neg =>
      refine cT (by first | omega | (dsimp only; omega) | (simp; omega)) ?_
      (repeat first | refine cT rfl ?_ | refine cT True.intro ?_)
      rw [decide_eq_true (p := _ ∨ _) (.inl h1)]
      all_goals rfl
    refine cF (by first | omega | (dsimp only; omega) | (simp; omega)) ?_
    (repeat first | refine cT rfl ?_ | refine cT True.intro ?_)
    dsimp only
    by_cases h2 : ins.length = 2
    · rw [decide_eq_false (show ¬ ((ins.length : Int) ≠ 2) by omega), decide_eq_false (p := _ ∨ _) (by omega)]
      all_goals rfl
    · rw [decide_eq_true (show (ins.length : Int) ≠ 2 by omega), decide_eq_true (p := _ ∨ _) (.inr h2)]
      all_goals rfl
  by_cases hB : args.length ≠ 0 ∨ ins.length ≠ 2
  case pos => rw [if_pos hB]; exact cT hB rfl
  rw [if_neg hB]
  refine cF hB ?_
  (repeat first | refine cT rfl ?_ | refine cT True.intro ?_)
  have h0 := loop_elem_Result hN 7 args ins ([], (false, ())) 2 ins (by first | omega | (dsimp only; omega) | (simp; omega)) N 0 (by omega) (by omega)
  rw [show ((0 : Nat) : Int) = 0 from rfl, List.drop_zero] at h0
  dsimp only
  rw [h0]
  by_cases hb : firstBad ins = .nil
  case neg =>
    rw [if_neg hb, ifNF (isNil_false hb)]
    simp only [Option.bind_some, Sum.elim_inr]
    (repeat first | refine cT rfl ?_ | refine cT True.intro ?_)
    rfl
  rw [if_pos hb, ifNT (nilT hb)]
  simp only [Option.bind_some, Sum.elim_inl]
  simp only [not_or, ne_eq, Decidable.not_not] at hB
  match ins, hB.2, hb with
  | [a, b], _, hb =>
  obtain ⟨va, vb⟩ := firstBad_two hb
  have l4 := (shapeV_nil.1 va).1
  refine cT (by simp) ?_
  by_cases h3 : a = b
  case neg =>
    rw [if_pos (.inl ⟨by first | rfl | exact True.intro, h3⟩)]
    refine bnd (7, args, ([], false, ()), (a, ()), true, ()) ?_ rfl
    refine bT rfl (cT (by simp) (bnd _ (shape_Same_spec a b (by omega) (by omega)) ?_))
    refine bT (by simp [h3]) ?_
    (repeat first | refine cT rfl ?_ | refine cT True.intro ?_)
    rfl
  rw [if_neg (by rintro (⟨_, h⟩ | ⟨h, _⟩ | ⟨h, _⟩); exact h h3; exact absurd h (by decide); exact absurd h (by decide))]
  refine bnd (7, args, ([], false, ()), (a, ()), false, ()) ?_ ?_
  · refine bT rfl (cT (by simp) (bnd _ (shape_Same_spec a b (by omega) (by omega)) ?_))
    refine bF (by simp [h3]) ?_
    (repeat first | refine bT rfl ?_ | refine bF rfl ?_)
    rfl
  refine bF rfl ?_
  have eF : ∀ w, elFair 7 args w = true := fun _ => rfl
  rw [eF, if_neg (show ¬ (true = false) by decide)]
  refine bnd _ rfl ?_
  refine bF rfl ?_
  refine bnd _ (shape_Clone_spec N _ (by first | omega | (dsimp only; omega) | (simp; omega))) ?_
  (repeat first | refine cT rfl ?_ | refine cT True.intro ?_)
  rfl

theorem ER_8 {N : Nat} (hN : 20000 ≤ N) (args : List Int) (ins : List D) (hi : ins.length ≤ 1000) : F_elem_Result N 8 args ins = some (boxD (elemRes 8 args ins).1, ((elemRes 8 args ins).2, ())) := by
  unfold F_elem_Result elemRes
  rw [if_neg (by decide), show elN 8 = 0 from rfl, show elK 8 = 1 from rfl]
  refine bnd _ rfl ?_
  (repeat first | refine bT rfl ?_ | refine bF rfl ?_)
  refine bnd (8, (args, (ins, (([], (false, ())), (1, (decide (args.length ≠ 0 ∨ ins.length ≠ 1), ())))))) ?_ ?_
  · by_cases h1 : args.length = 0
    case neg =>
      refine cT (by first | omega | (dsimp only; omega) | (simp; omega)) ?_
      (repeat first | refine cT rfl ?_ | refine cT True.intro ?_)
      rw [decide_eq_true (p := _ ∨ _) (.inl h1)]
      all_goals rfl
    refine cF (by first | omega | (dsimp only; omega) | (simp; omega)) ?_
    (repeat first | refine cT rfl ?_ | refine cT True.intro ?_)
    dsimp only
    by_cases h2 : ins.length = 1
    · rw [decide_eq_false (show ¬ ((ins.length : Int) ≠ 1) by omega), decide_eq_false (p := _ ∨ _) (by omega)]
      all_goals rfl
    · rw [decide_eq_true (show (ins.length : Int) ≠ 1 by omega), decide_eq_true (p := _ ∨ _) (.inr h2)]
      all_goals rfl
  by_cases hB : args.length ≠ 0 ∨ ins.length ≠ 1
  case pos => rw [if_pos hB]; exact cT hB rfl
  rw [if_neg hB]
  refine cF hB ?_
  (repeat first | refine cT rfl ?_ | refine cT True.intro ?_)
  have h0 := loop_elem_Result hN 8 args ins ([], (false, ())) 1 ins (by first | omega | (dsimp only; omega) | (simp; omega)) N 0 (by omega) (by omega)
  rw [show ((0 : Nat) : Int) = 0 from rfl, List.drop_zero] at h0
  dsimp only
  rw [h0]
  by_cases hb : firstBad ins = .nil
  case neg =>
    rw [if_neg hb, ifNF (isNil_false hb)]
    simp only [Option.bind_some, Sum.elim_inr]
    (repeat first | refine cT rfl ?_ | refine cT True.intro ?_)
    rfl
  rw [if_pos hb, ifNT (nilT hb)]
  simp only [Option.bind_some, Sum.elim_inl]
  simp only [not_or, ne_eq, Decidable.not_not] at hB
  match ins, hB.2, hb with
  | [a], _, hb =>
  have va := firstBad_one hb
  have l4 := (shapeV_nil.1 va).1
  refine cT (by simp) ?_
  rw [if_neg (by rintro (⟨h, _⟩ | ⟨h, _⟩ | ⟨h, _⟩) <;> exact absurd h (by decide))]
  refine bnd (8, args, ([], false, ()), (a, ()), false, ()) rfl ?_
  refine bF rfl ?_
  have eF : ∀ w, elFair 8 args w = true := fun _ => rfl
  rw [eF, if_neg (show ¬ (true = false) by decide)]
  refine bnd _ rfl ?_
  refine bF rfl ?_
  refine bnd _ (shape_Clone_spec N _ (by first | omega | (dsimp only; omega) | (simp; omega))) ?_
  (repeat first | refine cT rfl ?_ | refine cT True.intro ?_)
  rfl

theorem ER_9 {N : Nat} (hN : 20000 ≤ N) (args : List Int) (ins : List D) (hi : ins.length ≤ 1000) : F_elem_Result N 9 args ins = some (boxD (elemRes 9 args ins).1, ((elemRes 9 args ins).2, ())) := by
  unfold F_elem_Result elemRes
  rw [if_neg (by decide), show elN 9 = 2 from rfl, show elK 9 = 1 from rfl]
  refine bnd _ rfl ?_
  (repeat first | refine bT rfl ?_ | refine bF rfl ?_)
  refine bnd (9, (args, (ins, (([], (false, ())), (1, (decide (args.length ≠ 2 ∨ ins.length ≠ 1), ())))))) ?_ ?_
  · by_cases h1 : args.length = 2
    case neg =>
      refine cT (by first | omega | (dsimp only; omega) | (simp; omega)) ?_
      (repeat first | refine cT rfl ?_ | refine cT True.intro ?_)
      rw [decide_eq_true (p := _ ∨ _) (.inl h1)]
      all_goals rfl
    refine cF (by first | omega | (dsimp only; omega) | (simp; omega)) ?_
    (repeat first | refine cT rfl ?_ | refine cT True.intro ?_)
    dsimp only
    by_cases h2 : ins.length = 1
    · rw [decide_eq_false (show ¬ ((ins.length : Int) ≠ 1) by omega), decide_eq_false (p := _ ∨ _) (by omega)]
      all_goals rfl
    · rw [decide_eq_true (show (ins.length : Int) ≠ 1 by omega), decide_eq_true (p := _ ∨ _) (.inr h2)]
      all_goals rfl
  by_cases hB : args.length ≠ 2 ∨ ins.length ≠ 1
  case pos => rw [if_pos hB]; exact cT hB rfl
  rw [if_neg hB]
  refine cF hB ?_
  (repeat first | refine cT rfl ?_ | refine cT True.intro ?_)
  have h0 := loop_elem_Result hN 9 args ins ([], (false, ())) 1 ins (by first | omega | (dsimp only; omega) | (simp; omega)) N 0 (by omega) (by omega)
  rw [show ((0 : Nat) : Int) = 0 from rfl, List.drop_zero] at h0
  dsimp only
  rw [h0]
  by_cases hb : firstBad ins = .nil
  case neg =>
    rw [if_neg hb, ifNF (isNil_false hb)]
    simp only [Option.bind_some, Sum.elim_inr]
    (repeat first | refine cT rfl ?_ | refine cT True.intro ?_)
    rfl
  rw [if_pos hb, ifNT (nilT hb)]
  simp only [Option.bind_some, Sum.elim_inl]
  simp only [not_or, ne_eq, Decidable.not_not] at hB
  match ins, hB.2, hb with
  | [a], _, hb =>
  have va := firstBad_one hb
  have l4 := (shapeV_nil.1 va).1
  refine cT (by simp) ?_
  rw [if_neg (by rintro (⟨h, _⟩ | ⟨h, _⟩ | ⟨h, _⟩) <;> exact absurd h (by decide))]
  refine bnd (9, args, ([], false, ()), (a, ()), false, ()) rfl ?_
  refine bF rfl ?_
  have hlen : args.length = 2 := hB.1
  simp only [List.getD_cons_zero]
  have eF : elFair 9 args a.2 = (fitsB a.2 (args.getD 0 0) && fitsB a.2 (args.getD 1 0) && decide (args.getD 0 0 ≤ args.getD 1 0)) := rfl
  refine bnd (([], false, ()), ((a, ()), (elFair 9 args a.2, (a.2, ())))) ?_ ?_
  · (repeat first | refine bT rfl ?_ | refine bF rfl ?_)
    refine cT (by omega) (cT (by omega) ?_)
    rw [eF]
    by_cases e3 : args.getD 0 0 ≤ args.getD 1 0
    case neg =>
      refine cF e3 ?_
      (repeat first | refine cT rfl ?_ | refine cT True.intro ?_)
      rw [decide_eq_false e3, Bool.and_false]
    refine cT e3 (cT (by omega) (bnd _ (elem_of_spec N _ _) ?_))
    cases e1 : fitsB a.2 (args.getD 0 0)
    · refine bF rfl ?_
      (repeat first | refine cT rfl ?_ | refine cT True.intro ?_)
      rfl
    refine bT rfl (cT (by omega) (bnd _ (elem_of_spec N _ _) ?_))
    (repeat first | refine cT rfl ?_ | refine cT True.intro ?_)
    rw [decide_eq_true e3, Bool.and_true]
    rfl
  skip
  cases hF : elFair 9 args a.2
  · rfl
  refine bF rfl ?_
  refine bnd _ (shape_Clone_spec N _ (by first | omega | (dsimp only; omega) | (simp; omega))) ?_
  (repeat first | refine cT rfl ?_ | refine cT True.intro ?_)
  rfl

theorem ER_10 {N : Nat} (hN : 20000 ≤ N) (args : List Int) (ins : List D) (hi : ins.length ≤ 1000) : F_elem_Result N 10 args ins = some (boxD (elemRes 10 args ins).1, ((elemRes 10 args ins).2, ())) := by
  unfold F_elem_Result elemRes
  rw [if_neg (by decide), show elN 10 = 3 from rfl, show elK 10 = 1 from rfl]
  refine bnd _ rfl ?_
  (repeat first | refine bT rfl ?_ | refine bF rfl ?_)
  refine bnd (10, (args, (ins, (([], (false, ())), (1, (decide (args.length ≠ 3 ∨ ins.length ≠ 1), ())))))) ?_ ?_
  · by_cases h1 : args.length = 3
    case neg =>
      refine cT (by first | omega | (dsimp only; omega) | (simp; omega)) ?_
      (repeat first | refine cT rfl ?_ | refine cT True.intro ?_)
      rw [decide_eq_true (p := _ ∨ _) (.inl h1)]
      all_goals rfl
    refine cF (by first | omega | (dsimp only; omega) | (simp; omega)) ?_
    (repeat first | refine cT rfl ?_ | refine cT True.intro ?_)
    dsimp only
    by_cases h2 : ins.length = 1
    · rw [decide_eq_false (show ¬ ((ins.length : Int) ≠ 1) by omega), decide_eq_false (p := _ ∨ _) (by omega)]
      all_goals rfl
    · rw [decide_eq_true (show (ins.length : Int) ≠ 1 by omega), decide_eq_true (p := _ ∨ _) (.inr h2)]
      all_goals rfl
  by_cases hB : args.length ≠ 3 ∨ ins.length ≠ 1
  case pos => rw [if_pos hB]; exact cT hB rfl
  rw [if_neg hB]
  refine cF hB ?_
  (repeat first | refine cT rfl ?_ | refine cT True.intro ?_)
  have h0 := loop_elem_Result hN 10 args ins ([], (false, ())) 1 ins (by first | omega | (dsimp only; omega) | (simp; omega)) N 0 (by omega) (by omega)
  rw [show ((0 : Nat) : Int) = 0 from rfl, List.drop_zero] at h0
  dsimp only
  rw [h0]
  by_cases hb : firstBad ins = .nil
  case neg =>
    rw [if_neg hb, ifNF (isNil_false hb)]
    simp only [Option.bind_some, Sum.elim_inr]
    (repeat first | refine cT rfl ?_ | refine cT True.intro ?_)
    rfl
  rw [if_pos hb, ifNT (nilT hb)]
  simp only [Option.bind_some, Sum.elim_inl]
  simp only [not_or, ne_eq, Decidable.not_not] at hB
  match ins, hB.2, hb with
  | [a], _, hb =>
  have va := firstBad_one hb
  have l4 := (shapeV_nil.1 va).1
  refine cT (by simp) ?_
  cases h3 : a.2
  case false =>
    rw [if_pos (.inr (.inl ⟨by first | rfl | exact True.intro, h3⟩))]
    refine bnd (10, args, ([], false, ()), (a, ()), true, ()) ?_ rfl
    (repeat first | refine bT rfl ?_ | refine bF rfl ?_)
    refine bT (by simp [h3]) ?_
    (repeat first | refine cT rfl ?_ | refine cT True.intro ?_)
    rfl
  rw [if_neg (by rintro (⟨h, _⟩ | ⟨_, h⟩ | ⟨h, _⟩); exact absurd h (by decide); rw [List.getD_cons_zero, h3] at h; cases h; exact absurd h (by decide))]
  refine bnd (10, args, ([], false, ()), (a, ()), false, ()) ?_ ?_
  · (repeat first | refine bT rfl ?_ | refine bF rfl ?_)
    refine bF (by simp [h3]) ?_
    (repeat first | refine bT rfl ?_ | refine bF rfl ?_)
    rfl
  refine bF rfl ?_
  have hlen : args.length = 3 := hB.1
  simp only [List.getD_cons_zero]
  have eF : elFair 10 args a.2 = (decide (0 ≤ args.getD 0 0) && decide (args.getD 0 0 ≤ 2147483647) && decide (0 ≤ args.getD 1 0) && decide (args.getD 1 0 ≤ 62) && narrowB (args.getD 2 0)) := rfl
  refine bnd (([], false, ()), ((a, ()), (elFair 10 args a.2, (false, ())))) ?_ ?_
  · (repeat first | refine bT rfl ?_ | refine bF rfl ?_)
    refine cT (by omega) (bnd _ (elem_in_spec N _ _ _) ?_)
    rw [eF]
    cases e1 : (decide (0 ≤ args.getD 0 0) && decide (args.getD 0 0 ≤ 2147483647))
    · refine bF rfl ?_
      (repeat first | refine cT rfl ?_ | refine cT True.intro ?_)
      rfl
    refine bT rfl (cT (by omega) (bnd _ (elem_in_spec N _ _ _) ?_))
    rw [Bool.true_and]
    cases e2 : (decide (0 ≤ args.getD 1 0) && decide (args.getD 1 0 ≤ 62))
    · refine bF rfl ?_
      (repeat first | refine cT rfl ?_ | refine cT True.intro ?_)
      rfl
    refine bT rfl (cT (by omega) (bnd _ (elem_of_spec N _ _) ?_))
    (repeat first | refine cT rfl ?_ | refine cT True.intro ?_)
    rfl
  simp only [h3] at *
  cases hF : elFair 10 args true
  · rfl
  refine bF rfl ?_
  refine bnd _ (shape_Clone_spec N _ (by first | omega | (dsimp only; omega) | (simp; omega))) ?_
  (repeat first | refine cT rfl ?_ | refine cT True.intro ?_)
  rfl

theorem ER_11 {N : Nat} (hN : 20000 ≤ N) (args : List Int) (ins : List D) (hi : ins.length ≤ 1000) : F_elem_Result N 11 args ins = some (boxD (elemRes 11 args ins).1, ((elemRes 11 args ins).2, ())) := by
  unfold F_elem_Result elemRes
  rw [if_neg (by decide), show elN 11 = 1 from rfl, show elK 11 = 1 from rfl]
  refine bnd _ rfl ?_
  (repeat first | refine bT rfl ?_ | refine bF rfl ?_)
  refine bnd (11, (args, (ins, (([], (false, ())), (1, (decide (args.length ≠ 1 ∨ ins.length ≠ 1), ())))))) ?_ ?_
  · by_cases h1 : args.length = 1
    case neg =>
      refine cT (by first | omega | (dsimp only; omega) | (simp; omega)) ?_
      (repeat first | refine cT rfl ?_ | refine cT True.intro ?_)
      rw [decide_eq_true (p := _ ∨ _) (.inl h1)]
      all_goals rfl
    refine cF (by first | omega | (dsimp only; omega) | (simp; omega)) ?_
    (repeat first | refine cT rfl ?_ | refine cT True.intro ?_)
    dsimp only
    by_cases h2 : ins.length = 1
    · rw [decide_eq_false (show ¬ ((ins.length : Int) ≠ 1) by omega), decide_eq_false (p := _ ∨ _) (by omega)]
      all_goals rfl
    · rw [decide_eq_true (show (ins.length : Int) ≠ 1 by omega), decide_eq_true (p := _ ∨ _) (.inr h2)]
      all_goals rfl
  by_cases hB : args.length ≠ 1 ∨ ins.length ≠ 1
  case pos => rw [if_pos hB]; exact cT hB rfl
  rw [if_neg hB]
  refine cF hB ?_
  (repeat first | refine cT rfl ?_ | refine cT True.intro ?_)
  have h0 := loop_elem_Result hN 11 args ins ([], (false, ())) 1 ins (by first | omega | (dsimp only; omega) | (simp; omega)) N 0 (by omega) (by omega)
  rw [show ((0 : Nat) : Int) = 0 from rfl, List.drop_zero] at h0
  dsimp only
  rw [h0]
  by_cases hb : firstBad ins = .nil
  case neg =>
    rw [if_neg hb, ifNF (isNil_false hb)]
    simp only [Option.bind_some, Sum.elim_inr]
    (repeat first | refine cT rfl ?_ | refine cT True.intro ?_)
    rfl
  rw [if_pos hb, ifNT (nilT hb)]
  simp only [Option.bind_some, Sum.elim_inl]
  simp only [not_or, ne_eq, Decidable.not_not] at hB
  match ins, hB.2, hb with
  | [a], _, hb =>
  have va := firstBad_one hb
  have l4 := (shapeV_nil.1 va).1
  refine cT (by simp) ?_
  cases h3 : a.2
  case true =>
    rw [if_pos (.inr (.inr ⟨by first | rfl | exact True.intro, h3⟩))]
    refine bnd (11, args, ([], false, ()), (a, ()), true, ()) ?_ rfl
    (repeat first | refine bT rfl ?_ | refine bF rfl ?_)
    simp only [List.getD_cons_zero, h3]
  rw [if_neg (by rintro (⟨h, _⟩ | ⟨h, _⟩ | ⟨_, h⟩); exact absurd h (by decide); exact absurd h (by decide); rw [List.getD_cons_zero, h3] at h; cases h)]
  refine bnd (11, args, ([], false, ()), (a, ()), false, ()) ?_ ?_
  · (repeat first | refine bT rfl ?_ | refine bF rfl ?_)
    simp only [List.getD_cons_zero, h3]
  refine bF rfl ?_
  have hlen : args.length = 1 := hB.1
  simp only [List.getD_cons_zero]
  have eF : elFair 11 args a.2 = narrowB (args.getD 0 0) := rfl
  refine bnd (([], false, ()), ((a, ()), (elFair 11 args a.2, (true, ())))) ?_ ?_
  · (repeat first | refine bT rfl ?_ | refine bF rfl ?_)
    refine cT (by first | omega | (dsimp only; omega) | (simp; omega)) (bnd _ (elem_of_spec N _ _) ?_)
    (repeat first | refine cT rfl ?_ | refine cT True.intro ?_)
    rfl
  simp only [h3] at *
  cases hF : elFair 11 args false
  · rfl
  refine bF rfl ?_
  refine bnd _ (shape_Clone_spec N _ (by first | omega | (dsimp only; omega) | (simp; omega))) ?_
  (repeat first | refine cT rfl ?_ | refine cT True.intro ?_)
  rfl

theorem elem_Result_spec {N : Nat} (hN : 20000 ≤ N) (op : Int) (args : List Int) (ins : List D) (hi : ins.length ≤ 1000) : F_elem_Result N op args ins = some (boxD (elemRes op args ins).1, ((elemRes op args ins).2, ())) := by
  by_cases hop : 4 ≤ op ∧ op ≤ 11
  · have h : op = 4 ∨ op = 5 ∨ op = 6 ∨ op = 7 ∨ op = 8 ∨ op = 9 ∨ op = 10 ∨ op = 11 := by omega
    rcases h with rfl | rfl | rfl | rfl | rfl | rfl | rfl | rfl
    · exact ER_4 hN args ins hi
    · exact ER_5 hN args ins hi
    · exact ER_6 hN args ins hi
    · exact ER_7 hN args ins hi
    · exact ER_8 hN args ins hi
    · exact ER_9 hN args ins hi
    · exact ER_10 hN args ins hi
    · exact ER_11 hN args ins hi
  · unfold elemRes
    rw [if_pos hop]
    unfold F_elem_Result
    refine bnd (0, (0, (false, ()))) ?_ (bT rfl rfl)
    unfold F_elem_counts
    refine cF (by omega) (cF (by omega) (cF (by omega) (cF (by omega) (cF (by omega) (cF (by omega) (cF (by omega) (cF (by omega) rfl)))))))

theorem firstBad_len : ∀ {l : List D}, firstBad l = .nil → (l.getD 0 noD).1.length ≤ 4
  | [], _ => by simp [noD]
  | d :: r, h => by
    unfold firstBad at h
    rcases shapeV_cases d.1 with hd | ⟨hd, hd'⟩
    · exact (shapeV_nil.1 hd).1
    · rw [ifF hd] at h
      rw [h] at hd
      cases hd

theorem elemRes_len (op : Int) (args : List Int) (ins : List D) : (elemRes op args ins).1.1.length ≤ 4 := by
  unfold elemRes
  by_cases h1 : 4 ≤ op ∧ op ≤ 11
  case neg => rw [if_pos h1]; simp [noD]
  rw [if_neg (fun h => h h1)]
  split
  · simp [noD]
  by_cases h3 : firstBad ins = .nil
  case neg => rw [ifNF (isNil_false h3)]; simp [noD]
  rw [ifNT (nilT h3)]
  split
  · simp [noD]
  split
  · simp [noD]
  · exact firstBad_len h3

/-! all operations -/

def insN (op : Int) : Nat := if op = 4 ∨ op = 5 ∨ op = 6 ∨ op = 7 ∨ op = 12 ∨ op = 13 ∨ op = 16 ∨ op = 17 then 2 else if 4 ≤ op ∧ op ≤ 21 then 1 else 0

def argN (op : Int) : Nat := if op = 9 ∨ op = 12 ∨ op = 14 ∨ op = 15 then 2 else if op = 10 ∨ op = 13 then 3 else if op = 11 then 1 else 0

def reshRes (args : List Int) (a : D) : D × Er :=
  if !(shapeV a.1).isNil then (noD, shapeV a.1)
  else if !(shapeV args).isNil then (noD, shapeV args)
  else if elems args ≠ elems a.1 then (noD, .s ErrShape)
  else ((args, a.2), .nil)

def resV (op : Int) (args : List Int) (ins : List D) : D × Er :=
  if ¬ (4 ≤ op ∧ op ≤ 21) then (noD, .s ErrKind)
  else if op ≤ 11 then elemRes op args ins
  else if ins.length ≠ insN op ∨ (op ≠ 18 ∧ args.length ≠ argN op) then (noD, .s ErrShape)
  else if op = 12 then matRes (args.getD 0 0) (args.getD 1 0) (ins.getD 0 noD) (ins.getD 1 noD)
  else if op = 13 then convRes args (ins.getD 0 noD) (ins.getD 1 noD)
  else if op = 14 ∨ op = 15 then poolRes args (ins.getD 0 noD)
  else if op = 16 ∨ op = 17 ∨ op = 19 ∨ op = 20 then softRes op ins
  else if op = 21 then turnRes (ins.getD 0 noD)
  else reshRes args (ins.getD 0 noD)

theorem turnRes_bare (a : D) : bareE (turnRes a).2 := by
  unfold turnRes
  repeat' split
  all_goals first | exact True.intro | (dsimp only; exact shapeV_bare _)

theorem turnRes_OK (a : D) : erOK (turnRes a).2 := by
  unfold turnRes
  repeat' split
  all_goals first | exact True.intro | exact (show ErrShape < 21 by decide) | (dsimp only; exact shapeV_OK _)

theorem reshRes_bare (args : List Int) (a : D) : bareE (reshRes args a).2 := by
  unfold reshRes
  repeat' split
  all_goals first | exact True.intro | (dsimp only; exact shapeV_bare _)

theorem reshRes_OK (args : List Int) (a : D) : erOK (reshRes args a).2 := by
  unfold reshRes
  repeat' split
  all_goals first | exact True.intro | exact (show ErrShape < 21 by decide) | (dsimp only; exact shapeV_OK _)

theorem resV_bare (op : Int) (args : List Int) (ins : List D) : bareE (resV op args ins).2 := by
  unfold resV
  repeat' split
  all_goals first | exact True.intro | exact elemRes_bare _ _ _ | exact matRes_bare _ _ _ _ | exact convRes_bare _ _ _ | exact poolRes_bare _ _ | exact softRes_bare _ _ | exact turnRes_bare _ | exact reshRes_bare _ _

theorem resV_OK (op : Int) (args : List Int) (ins : List D) : erOK (resV op args ins).2 := by
  unfold resV
  repeat' split
  all_goals first | exact True.intro | exact (show ErrKind < 21 by decide) | exact (show ErrShape < 21 by decide) | exact elemRes_OK _ _ _ | exact matRes_OK _ _ _ _ | exact convRes_OK _ _ _ | exact poolRes_OK _ _ | exact softRes_OK _ _ | exact turnRes_OK _ | exact reshRes_OK _ _

theorem ref_Result_12 {N : Nat} (hN : 20000 ≤ N) (args : List Int) (ins : List D) : F_lodgeref3_Result N 12 args ins = some (boxD (resV 12 args ins).1, (codeE (resV 12 args ins).2, ())) := by
  unfold F_lodgeref3_Result resV
  rw [if_neg (by decide), if_neg (by decide), show insN 12 = 2 from rfl, show argN 12 = 2 from rfl]
  refine bnd _ rfl ?_
  (repeat first | refine bT rfl ?_ | refine bF rfl ?_)
  refine bnd (12, (args, (ins, (([], (false, ())), (decide (ins.length ≠ 2 ∨ ((12 : Int) ≠ 18 ∧ args.length ≠ 2)), ()))))) ?_ ?_
  · refine bnd _ rfl ?_
    by_cases h1 : ins.length = 2
    case neg =>
      refine cT (by first | omega | (dsimp only; omega) | (simp; omega)) ?_
      rw [decide_eq_true (p := _ ∨ _) (.inl h1)]
    refine cF (by first | omega | (dsimp only; omega) | (simp; omega)) ?_
    (repeat first | refine bT rfl ?_ | refine bF rfl ?_)
    refine bnd _ rfl ?_
    dsimp only
    by_cases h2 : args.length = 2
    · rw [decide_eq_false (show ¬ ((args.length : Int) ≠ 2) by omega), decide_eq_false (p := _ ∨ _) (by rintro (h | ⟨_, h⟩); exact h h1; exact h h2)]
    · rw [decide_eq_true (show (args.length : Int) ≠ 2 by omega), decide_eq_true (p := _ ∨ _) (.inr ⟨by decide, h2⟩)]
  by_cases hB : ins.length ≠ 2 ∨ ((12 : Int) ≠ 18 ∧ args.length ≠ 2)
  case pos => rw [if_pos hB]; exact cT hB rfl
  rw [if_neg hB]
  refine cF hB ?_
  have hk : ins.length = 2 := Decidable.byContradiction fun h => hB (.inl h)
  have hn : args.length = 2 := Decidable.byContradiction fun h => hB (.inr ⟨by decide, h⟩)
  match ins, hk with
  | [a, b], _ =>
  rw [if_pos rfl]
  (repeat first | refine bT rfl ?_ | refine bF rfl ?_)
  refine cT (by first | omega | (dsimp only; omega) | (simp; omega)) (cT (by first | omega | (dsimp only; omega) | (simp; omega)) ?_)
  (repeat first | refine bT rfl ?_ | refine bF rfl ?_)
  refine bnd _ (lodgeref3_MatResult_spec hN _ _ _ _) ?_
  (repeat first | refine cT rfl ?_ | refine cT True.intro ?_)
  rfl

theorem ref_Result_13 {N : Nat} (hN : 20000 ≤ N) (args : List Int) (ins : List D) : F_lodgeref3_Result N 13 args ins = some (boxD (resV 13 args ins).1, (codeE (resV 13 args ins).2, ())) := by
  unfold F_lodgeref3_Result resV
  rw [if_neg (by decide), if_neg (by decide), show insN 13 = 2 from rfl, show argN 13 = 3 from rfl]
  refine bnd _ rfl ?_
  (repeat first | refine bT rfl ?_ | refine bF rfl ?_)
  refine bnd (13, (args, (ins, (([], (false, ())), (decide (ins.length ≠ 2 ∨ ((13 : Int) ≠ 18 ∧ args.length ≠ 3)), ()))))) ?_ ?_
  · refine bnd _ rfl ?_
    by_cases h1 : ins.length = 2
    case neg =>
      refine cT (by first | omega | (dsimp only; omega) | (simp; omega)) ?_
      rw [decide_eq_true (p := _ ∨ _) (.inl h1)]
    refine cF (by first | omega | (dsimp only; omega) | (simp; omega)) ?_
    (repeat first | refine bT rfl ?_ | refine bF rfl ?_)
    refine bnd _ rfl ?_
    dsimp only
    by_cases h2 : args.length = 3
    · rw [decide_eq_false (show ¬ ((args.length : Int) ≠ 3) by omega), decide_eq_false (p := _ ∨ _) (by rintro (h | ⟨_, h⟩); exact h h1; exact h h2)]
    · rw [decide_eq_true (show (args.length : Int) ≠ 3 by omega), decide_eq_true (p := _ ∨ _) (.inr ⟨by decide, h2⟩)]
  by_cases hB : ins.length ≠ 2 ∨ ((13 : Int) ≠ 18 ∧ args.length ≠ 3)
  case pos => rw [if_pos hB]; exact cT hB rfl
  rw [if_neg hB]
  refine cF hB ?_
  have hk : ins.length = 2 := Decidable.byContradiction fun h => hB (.inl h)
  have hn : args.length = 3 := Decidable.byContradiction fun h => hB (.inr ⟨by decide, h⟩)
  match ins, hk with
  | [a, b], _ =>
  rw [if_neg (by decide), if_pos rfl]
  (repeat first | refine bT rfl ?_ | refine bF rfl ?_)
  refine bnd _ (lodgeref3_ConvResult_spec hN _ _ _) ?_
  (repeat first | refine cT rfl ?_ | refine cT True.intro ?_)
  rfl

theorem ref_Result_14 {N : Nat} (hN : 20000 ≤ N) (args : List Int) (ins : List D) : F_lodgeref3_Result N 14 args ins = some (boxD (resV 14 args ins).1, (codeE (resV 14 args ins).2, ())) := by
  unfold F_lodgeref3_Result resV
  rw [if_neg (by decide), if_neg (by decide), show insN 14 = 1 from rfl, show argN 14 = 2 from rfl]
  refine bnd _ rfl ?_
  (repeat first | refine bT rfl ?_ | refine bF rfl ?_)
  refine bnd (14, (args, (ins, (([], (false, ())), (decide (ins.length ≠ 1 ∨ ((14 : Int) ≠ 18 ∧ args.length ≠ 2)), ()))))) ?_ ?_
  · refine bnd _ rfl ?_
    by_cases h1 : ins.length = 1
    case neg =>
      refine cT (by first | omega | (dsimp only; omega) | (simp; omega)) ?_
      rw [decide_eq_true (p := _ ∨ _) (.inl h1)]
    refine cF (by first | omega | (dsimp only; omega) | (simp; omega)) ?_
    (repeat first | refine bT rfl ?_ | refine bF rfl ?_)
    refine bnd _ rfl ?_
    dsimp only
    by_cases h2 : args.length = 2
    · rw [decide_eq_false (show ¬ ((args.length : Int) ≠ 2) by omega), decide_eq_false (p := _ ∨ _) (by rintro (h | ⟨_, h⟩); exact h h1; exact h h2)]
    · rw [decide_eq_true (show (args.length : Int) ≠ 2 by omega), decide_eq_true (p := _ ∨ _) (.inr ⟨by decide, h2⟩)]
  by_cases hB : ins.length ≠ 1 ∨ ((14 : Int) ≠ 18 ∧ args.length ≠ 2)
  case pos => rw [if_pos hB]; exact cT hB rfl
  rw [if_neg hB]
  refine cF hB ?_
  have hk : ins.length = 1 := Decidable.byContradiction fun h => hB (.inl h)
  have hn : args.length = 2 := Decidable.byContradiction fun h => hB (.inr ⟨by decide, h⟩)
  match ins, hk with
  | [a], _ =>
  rw [if_neg (by decide), if_neg (by decide), if_pos (by decide)]
  (repeat first | refine bT rfl ?_ | refine bF rfl ?_)
  refine bnd _ rfl ?_
  (repeat first | refine bT rfl ?_ | refine bF rfl ?_)
  refine bnd _ (lodgeref3_PoolResult_spec hN _ _) ?_
  (repeat first | refine cT rfl ?_ | refine cT True.intro ?_)
  rfl

theorem ref_Result_15 {N : Nat} (hN : 20000 ≤ N) (args : List Int) (ins : List D) : F_lodgeref3_Result N 15 args ins = some (boxD (resV 15 args ins).1, (codeE (resV 15 args ins).2, ())) := by
  unfold F_lodgeref3_Result resV
  rw [if_neg (by decide), if_neg (by decide), show insN 15 = 1 from rfl, show argN 15 = 2 from rfl]
  refine bnd _ rfl ?_
  (repeat first | refine bT rfl ?_ | refine bF rfl ?_)
  refine bnd (15, (args, (ins, (([], (false, ())), (decide (ins.length ≠ 1 ∨ ((15 : Int) ≠ 18 ∧ args.length ≠ 2)), ()))))) ?_ ?_
  · refine bnd _ rfl ?_
    by_cases h1 : ins.length = 1
    case neg =>
      refine cT (by first | omega | (dsimp only; omega) | (simp; omega)) ?_
      rw [decide_eq_true (p := _ ∨ _) (.inl h1)]
    refine cF (by first | omega | (dsimp only; omega) | (simp; omega)) ?_
    (repeat first | refine bT rfl ?_ | refine bF rfl ?_)
    refine bnd _ rfl ?_
    dsimp only
    by_cases h2 : args.length = 2
    · rw [decide_eq_false (show ¬ ((args.length : Int) ≠ 2) by omega), decide_eq_false (p := _ ∨ _) (by rintro (h | ⟨_, h⟩); exact h h1; exact h h2)]
    · rw [decide_eq_true (show (args.length : Int) ≠ 2 by omega), decide_eq_true (p := _ ∨ _) (.inr ⟨by decide, h2⟩)]
  by_cases hB : ins.length ≠ 1 ∨ ((15 : Int) ≠ 18 ∧ args.length ≠ 2)
  case pos => rw [if_pos hB]; exact cT hB rfl
  rw [if_neg hB]
  refine cF hB ?_
  have hk : ins.length = 1 := Decidable.byContradiction fun h => hB (.inl h)
  have hn : args.length = 2 := Decidable.byContradiction fun h => hB (.inr ⟨by decide, h⟩)
  match ins, hk with
  | [a], _ =>
  rw [if_neg (by decide), if_neg (by decide), if_pos (by decide)]
  (repeat first | refine bT rfl ?_ | refine bF rfl ?_)
  refine bnd _ rfl ?_
  (repeat first | refine bT rfl ?_ | refine bF rfl ?_)
  refine bnd _ (lodgeref3_PoolResult_spec hN _ _) ?_
  (repeat first | refine cT rfl ?_ | refine cT True.intro ?_)
  rfl

theorem ref_Result_16 {N : Nat} (hN : 20000 ≤ N) (args : List Int) (ins : List D) : F_lodgeref3_Result N 16 args ins = some (boxD (resV 16 args ins).1, (codeE (resV 16 args ins).2, ())) := by
  unfold F_lodgeref3_Result resV
  rw [if_neg (by decide), if_neg (by decide), show insN 16 = 2 from rfl, show argN 16 = 0 from rfl]
  refine bnd _ rfl ?_
  (repeat first | refine bT rfl ?_ | refine bF rfl ?_)
  refine bnd (16, (args, (ins, (([], (false, ())), (decide (ins.length ≠ 2 ∨ ((16 : Int) ≠ 18 ∧ args.length ≠ 0)), ()))))) ?_ ?_
  · refine bnd _ rfl ?_
    by_cases h1 : ins.length = 2
    case neg =>
      refine cT (by first | omega | (dsimp only; omega) | (simp; omega)) ?_
      rw [decide_eq_true (p := _ ∨ _) (.inl h1)]
    refine cF (by first | omega | (dsimp only; omega) | (simp; omega)) ?_
    (repeat first | refine bT rfl ?_ | refine bF rfl ?_)
    refine bnd _ rfl ?_
    dsimp only
    by_cases h2 : args.length = 0
    · rw [decide_eq_false (show ¬ ((args.length : Int) ≠ 0) by omega), decide_eq_false (p := _ ∨ _) (by rintro (h | ⟨_, h⟩); exact h h1; exact h h2)]
    · rw [decide_eq_true (show (args.length : Int) ≠ 0 by omega), decide_eq_true (p := _ ∨ _) (.inr ⟨by decide, h2⟩)]
  by_cases hB : ins.length ≠ 2 ∨ ((16 : Int) ≠ 18 ∧ args.length ≠ 0)
  case pos => rw [if_pos hB]; exact cT hB rfl
  rw [if_neg hB]
  refine cF hB ?_
  have hk : ins.length = 2 := Decidable.byContradiction fun h => hB (.inl h)
  have hn : args.length = 0 := Decidable.byContradiction fun h => hB (.inr ⟨by decide, h⟩)
  rw [if_neg (by decide), if_neg (by decide), if_neg (by decide), if_pos (by decide)]
  (repeat first | refine bT rfl ?_ | refine bF rfl ?_)
  refine bnd _ rfl ?_
  (repeat first | refine bT rfl ?_ | refine bF rfl ?_)
  refine bnd _ rfl ?_
  (repeat first | refine bT rfl ?_ | refine bF rfl ?_)
  refine bnd _ (lodgeref3_SoftResult_spec hN _ _ (by first | omega | (dsimp only; omega) | (simp; omega))) ?_
  (repeat first | refine cT rfl ?_ | refine cT True.intro ?_)
  rfl

theorem ref_Result_17 {N : Nat} (hN : 20000 ≤ N) (args : List Int) (ins : List D) : F_lodgeref3_Result N 17 args ins = some (boxD (resV 17 args ins).1, (codeE (resV 17 args ins).2, ())) := by
  unfold F_lodgeref3_Result resV
  rw [if_neg (by decide), if_neg (by decide), show insN 17 = 2 from rfl, show argN 17 = 0 from rfl]
  refine bnd _ rfl ?_
  (repeat first | refine bT rfl ?_ | refine bF rfl ?_)
  refine bnd (17, (args, (ins, (([], (false, ())), (decide (ins.length ≠ 2 ∨ ((17 : Int) ≠ 18 ∧ args.length ≠ 0)), ()))))) ?_ ?_
  · refine bnd _ rfl ?_
    by_cases h1 : ins.length = 2
    case neg =>
      refine cT (by first | omega | (dsimp only; omega) | (simp; omega)) ?_
      rw [decide_eq_true (p := _ ∨ _) (.inl h1)]
    refine cF (by first | omega | (dsimp only; omega) | (simp; omega)) ?_
    (repeat first | refine bT rfl ?_ | refine bF rfl ?_)
    refine bnd _ rfl ?_
    dsimp only
    by_cases h2 : args.length = 0
    · rw [decide_eq_false (show ¬ ((args.length : Int) ≠ 0) by omega), decide_eq_false (p := _ ∨ _) (by rintro (h | ⟨_, h⟩); exact h h1; exact h h2)]
    · rw [decide_eq_true (show (args.length : Int) ≠ 0 by omega), decide_eq_true (p := _ ∨ _) (.inr ⟨by decide, h2⟩)]
  by_cases hB : ins.length ≠ 2 ∨ ((17 : Int) ≠ 18 ∧ args.length ≠ 0)
  case pos => rw [if_pos hB]; exact cT hB rfl
  rw [if_neg hB]
  refine cF hB ?_
  have hk : ins.length = 2 := Decidable.byContradiction fun h => hB (.inl h)
  have hn : args.length = 0 := Decidable.byContradiction fun h => hB (.inr ⟨by decide, h⟩)
  rw [if_neg (by decide), if_neg (by decide), if_neg (by decide), if_pos (by decide)]
  (repeat first | refine bT rfl ?_ | refine bF rfl ?_)
  refine bnd _ rfl ?_
  (repeat first | refine bT rfl ?_ | refine bF rfl ?_)
  refine bnd _ rfl ?_
  (repeat first | refine bT rfl ?_ | refine bF rfl ?_)
  refine bnd _ (lodgeref3_SoftResult_spec hN _ _ (by first | omega | (dsimp only; omega) | (simp; omega))) ?_
  (repeat first | refine cT rfl ?_ | refine cT True.intro ?_)
  rfl

theorem ref_Result_18 {N : Nat} (hN : 20000 ≤ N) (args : List Int) (hargs : args.length ≤ 10000) (ins : List D) : F_lodgeref3_Result N 18 args ins = some (boxD (resV 18 args ins).1, (codeE (resV 18 args ins).2, ())) := by
  unfold F_lodgeref3_Result resV
  rw [if_neg (by decide), if_neg (by decide), show insN 18 = 1 from rfl, show argN 18 = 0 from rfl]
  refine bnd _ rfl ?_
  (repeat first | refine bT rfl ?_ | refine bF rfl ?_)
  refine bnd (18, (args, (ins, (([], (false, ())), (decide (ins.length ≠ 1 ∨ ((18 : Int) ≠ 18 ∧ args.length ≠ 0)), ()))))) ?_ ?_
  · refine bnd _ rfl ?_
    by_cases h1 : ins.length = 1
    case neg =>
      refine cT (by first | omega | (dsimp only; omega) | (simp; omega)) ?_
      rw [decide_eq_true (p := _ ∨ _) (.inl h1)]
    refine cF (by first | omega | (dsimp only; omega) | (simp; omega)) ?_
    (repeat first | refine bT rfl ?_ | refine bF rfl ?_)
    rw [decide_eq_false (p := _ ∨ _) (by rintro (h | ⟨h, _⟩); exact h h1; exact h rfl)]
  by_cases hB : ins.length ≠ 1 ∨ ((18 : Int) ≠ 18 ∧ args.length ≠ 0)
  case pos => rw [if_pos hB]; exact cT hB rfl
  rw [if_neg hB]
  refine cF hB ?_
  have hk : ins.length = 1 := Decidable.byContradiction fun h => hB (.inl h)
  match ins, hk with
  | [a], _ =>
  rw [if_neg (by decide), if_neg (by decide), if_neg (by decide), if_neg (by decide), if_neg (by decide)]
  (repeat first | refine bT rfl ?_ | refine bF rfl ?_)
  refine bnd _ rfl ?_
  (repeat first | refine bT rfl ?_ | refine bF rfl ?_)
  refine bnd _ rfl ?_
  (repeat first | refine bT rfl ?_ | refine bF rfl ?_)
  refine bnd _ (VD_spec hN _) ?_
  show _ = some (boxD (reshRes args a).1, (codeE (reshRes args a).2, ()))
  unfold reshRes
  rcases shapeV_cases a.1 with ha | ⟨ha, ha'⟩
  case inr => rw [ifNF ha]; exact cT ha' rfl
  rw [ifNT (nilT ha)]
  refine cF (by simp [codeE, ha]) ?_
  (repeat first | refine bT rfl ?_ | refine bF rfl ?_)
  have hl : args.length < 1000000 ∧ args.length < N := by omega
  refine bnd _ (lodgeref_Ints_spec args hl.1 hl.2) (cT (by simp) ?_)
  (try simp only [List.take_length])
  refine bnd _ (VD_spec hN _) ?_
  rcases shapeV_cases args with hr | ⟨hr, hr'⟩
  case inr => rw [ifNF hr]; exact cT hr' rfl
  rw [ifNT (nilT hr)]
  refine cF (by simp [codeE, hr]) (cT (by simp) ?_)
  (try simp only [List.take_length])
  refine bnd _ (lodgeref3_Elems_spec hN _) (bnd _ (lodgeref3_Elems_spec hN _) ?_)
  by_cases he : elems args = elems a.1
  case neg => rw [if_pos he]; exact cT he rfl
  rw [if_neg (fun h => h he)]
  refine cF (fun h => h he) ?_
  (repeat first | refine cT rfl ?_ | refine cT True.intro ?_)
  rfl

theorem ref_Result_19 {N : Nat} (hN : 20000 ≤ N) (args : List Int) (ins : List D) : F_lodgeref3_Result N 19 args ins = some (boxD (resV 19 args ins).1, (codeE (resV 19 args ins).2, ())) := by
  unfold F_lodgeref3_Result resV
  rw [if_neg (by decide), if_neg (by decide), show insN 19 = 1 from rfl, show argN 19 = 0 from rfl]
  refine bnd _ rfl ?_
  (repeat first | refine bT rfl ?_ | refine bF rfl ?_)
  refine bnd (19, (args, (ins, (([], (false, ())), (decide (ins.length ≠ 1 ∨ ((19 : Int) ≠ 18 ∧ args.length ≠ 0)), ()))))) ?_ ?_
  · refine bnd _ rfl ?_
    by_cases h1 : ins.length = 1
    case neg =>
      refine cT (by first | omega | (dsimp only; omega) | (simp; omega)) ?_
      rw [decide_eq_true (p := _ ∨ _) (.inl h1)]
    refine cF (by first | omega | (dsimp only; omega) | (simp; omega)) ?_
    (repeat first | refine bT rfl ?_ | refine bF rfl ?_)
    refine bnd _ rfl ?_
    dsimp only
    by_cases h2 : args.length = 0
    · rw [decide_eq_false (show ¬ ((args.length : Int) ≠ 0) by omega), decide_eq_false (p := _ ∨ _) (by rintro (h | ⟨_, h⟩); exact h h1; exact h h2)]
    · rw [decide_eq_true (show (args.length : Int) ≠ 0 by omega), decide_eq_true (p := _ ∨ _) (.inr ⟨by decide, h2⟩)]
  by_cases hB : ins.length ≠ 1 ∨ ((19 : Int) ≠ 18 ∧ args.length ≠ 0)
  case pos => rw [if_pos hB]; exact cT hB rfl
  rw [if_neg hB]
  refine cF hB ?_
  have hk : ins.length = 1 := Decidable.byContradiction fun h => hB (.inl h)
  have hn : args.length = 0 := Decidable.byContradiction fun h => hB (.inr ⟨by decide, h⟩)
  rw [if_neg (by decide), if_neg (by decide), if_neg (by decide), if_pos (by decide)]
  (repeat first | refine bT rfl ?_ | refine bF rfl ?_)
  refine bnd _ rfl ?_
  (repeat first | refine bT rfl ?_ | refine bF rfl ?_)
  refine bnd _ rfl ?_
  (repeat first | refine bT rfl ?_ | refine bF rfl ?_)
  refine bnd _ (lodgeref3_SoftResult_spec hN _ _ (by first | omega | (dsimp only; omega) | (simp; omega))) ?_
  (repeat first | refine cT rfl ?_ | refine cT True.intro ?_)
  rfl

theorem ref_Result_20 {N : Nat} (hN : 20000 ≤ N) (args : List Int) (ins : List D) : F_lodgeref3_Result N 20 args ins = some (boxD (resV 20 args ins).1, (codeE (resV 20 args ins).2, ())) := by
  unfold F_lodgeref3_Result resV
  rw [if_neg (by decide), if_neg (by decide), show insN 20 = 1 from rfl, show argN 20 = 0 from rfl]
  refine bnd _ rfl ?_
  (repeat first | refine bT rfl ?_ | refine bF rfl ?_)
  refine bnd (20, (args, (ins, (([], (false, ())), (decide (ins.length ≠ 1 ∨ ((20 : Int) ≠ 18 ∧ args.length ≠ 0)), ()))))) ?_ ?_
  · refine bnd _ rfl ?_
    by_cases h1 : ins.length = 1
    case neg =>
      refine cT (by first | omega | (dsimp only; omega) | (simp; omega)) ?_
      rw [decide_eq_true (p := _ ∨ _) (.inl h1)]
    refine cF (by first | omega | (dsimp only; omega) | (simp; omega)) ?_
    (repeat first | refine bT rfl ?_ | refine bF rfl ?_)
    refine bnd _ rfl ?_
    dsimp only
    by_cases h2 : args.length = 0
    · rw [decide_eq_false (show ¬ ((args.length : Int) ≠ 0) by omega), decide_eq_false (p := _ ∨ _) (by rintro (h | ⟨_, h⟩); exact h h1; exact h h2)]
    · rw [decide_eq_true (show (args.length : Int) ≠ 0 by omega), decide_eq_true (p := _ ∨ _) (.inr ⟨by decide, h2⟩)]
  by_cases hB : ins.length ≠ 1 ∨ ((20 : Int) ≠ 18 ∧ args.length ≠ 0)
  case pos => rw [if_pos hB]; exact cT hB rfl
  rw [if_neg hB]
  refine cF hB ?_
  have hk : ins.length = 1 := Decidable.byContradiction fun h => hB (.inl h)
  have hn : args.length = 0 := Decidable.byContradiction fun h => hB (.inr ⟨by decide, h⟩)
  rw [if_neg (by decide), if_neg (by decide), if_neg (by decide), if_pos (by decide)]
  (repeat first | refine bT rfl ?_ | refine bF rfl ?_)
  refine bnd _ rfl ?_
  (repeat first | refine bT rfl ?_ | refine bF rfl ?_)
  refine bnd _ rfl ?_
  (repeat first | refine bT rfl ?_ | refine bF rfl ?_)
  refine bnd _ (lodgeref3_SoftResult_spec hN _ _ (by first | omega | (dsimp only; omega) | (simp; omega))) ?_
  (repeat first | refine cT rfl ?_ | refine cT True.intro ?_)
  rfl

theorem ref_Result_21 {N : Nat} (hN : 20000 ≤ N) (args : List Int) (ins : List D) : F_lodgeref3_Result N 21 args ins = some (boxD (resV 21 args ins).1, (codeE (resV 21 args ins).2, ())) := by
  unfold F_lodgeref3_Result resV
  rw [if_neg (by decide), if_neg (by decide), show insN 21 = 1 from rfl, show argN 21 = 0 from rfl]
  refine bnd _ rfl ?_
  (repeat first | refine bT rfl ?_ | refine bF rfl ?_)
  refine bnd (21, (args, (ins, (([], (false, ())), (decide (ins.length ≠ 1 ∨ ((21 : Int) ≠ 18 ∧ args.length ≠ 0)), ()))))) ?_ ?_
  · refine bnd _ rfl ?_
    by_cases h1 : ins.length = 1
    case neg =>
      refine cT (by first | omega | (dsimp only; omega) | (simp; omega)) ?_
      rw [decide_eq_true (p := _ ∨ _) (.inl h1)]
    refine cF (by first | omega | (dsimp only; omega) | (simp; omega)) ?_
    (repeat first | refine bT rfl ?_ | refine bF rfl ?_)
    refine bnd _ rfl ?_
    dsimp only
    by_cases h2 : args.length = 0
    · rw [decide_eq_false (show ¬ ((args.length : Int) ≠ 0) by omega), decide_eq_false (p := _ ∨ _) (by rintro (h | ⟨_, h⟩); exact h h1; exact h h2)]
    · rw [decide_eq_true (show (args.length : Int) ≠ 0 by omega), decide_eq_true (p := _ ∨ _) (.inr ⟨by decide, h2⟩)]
  by_cases hB : ins.length ≠ 1 ∨ ((21 : Int) ≠ 18 ∧ args.length ≠ 0)
  case pos => rw [if_pos hB]; exact cT hB rfl
  rw [if_neg hB]
  refine cF hB ?_
  have hk : ins.length = 1 := Decidable.byContradiction fun h => hB (.inl h)
  have hn : args.length = 0 := Decidable.byContradiction fun h => hB (.inr ⟨by decide, h⟩)
  match ins, hk with
  | [a], _ =>
  have hn' : args = [] := List.length_eq_zero_iff.1 hn
  subst hn'
  rw [if_neg (by decide), if_neg (by decide), if_neg (by decide), if_neg (by decide), if_pos rfl]
  have h0 := ref_Result_turn hN a
  unfold F_lodgeref3_Result at h0
  exact h0

theorem ref_Result_all {N : Nat} (hN : 20000 ≤ N) (op : Int) (args : List Int) (hargs : args.length ≤ 10000) (ins : List D) (hi : ins.length ≤ 1000) : F_lodgeref3_Result N op args ins = some (boxD (resV op args ins).1, (codeE (resV op args ins).2, ())) := by
  by_cases hk : 4 ≤ op ∧ op ≤ 21
  case neg =>
    unfold F_lodgeref3_Result resV
    rw [if_pos hk]
    refine bnd (false, ()) ?_ (bT rfl rfl)
    unfold F_lodgeref3_Known
    by_cases h4 : 4 ≤ op
    · refine cT h4 ?_
      rw [decide_eq_false (by omega)]
    · exact cF h4 rfl
  by_cases h11 : op ≤ 11
  · unfold F_lodgeref3_Result resV
    rw [if_neg (fun h => h hk), if_pos h11]
    refine bnd (true, ()) ?_ (bF rfl (cT h11 ?_))
    · unfold F_lodgeref3_Known
      refine cT hk.1 ?_
      rw [decide_eq_true hk.2]
    refine bnd _ (lodgeref3_ElemResult_spec hN op args ins hi) ?_
    (repeat first | refine cT rfl ?_ | refine cT True.intro ?_)
    rfl
  have h : op = 12 ∨ op = 13 ∨ op = 14 ∨ op = 15 ∨ op = 16 ∨ op = 17 ∨ op = 18 ∨ op = 19 ∨ op = 20 ∨ op = 21 := by omega
  rcases h with rfl | rfl | rfl | rfl | rfl | rfl | rfl | rfl | rfl | rfl
  · exact ref_Result_12 hN args ins
  · exact ref_Result_13 hN args ins
  · exact ref_Result_14 hN args ins
  · exact ref_Result_15 hN args ins
  · exact ref_Result_16 hN args ins
  · exact ref_Result_17 hN args ins
  · exact ref_Result_18 hN args hargs ins
  · exact ref_Result_19 hN args ins
  · exact ref_Result_20 hN args ins
  · exact ref_Result_21 hN args ins

/-! an operation of one element -/

theorem quant_cut_spec (N : Nat) (x : Int) {lo hi : Int} (h : lo ≤ hi) : F_quant_cut N x lo hi = some (cut x lo hi, ()) := by
  unfold F_quant_cut imax imin cut
  congr 2
  repeat' split
  all_goals omega

theorem shl_one' {s : Nat} (h1 : 1 ≤ s) (h2 : s ≤ 62) : shlI IntKind.i64 1 (wi64 ((s : Int) - 1)) = 2 ^ (s - 1) := by
  have e1 : wi64 ((s : Int) - 1) = ((s - 1 : Nat) : Int) := by rw [wi64_in (by omega) (by omega)]; omega
  have hb := pow_bound (s := s - 1) (by omega)
  rw [e1]
  unfold shlI
  rw [show IntKind.bits .i64 = 64 from rfl, Int.toNat_natCast, Nat.min_eq_left (by omega), Int.one_mul]
  exact wi64_in (by omega) (by omega)

theorem shr_at' {p : Int} {s : Nat} (h2 : s ≤ 62) : shrI IntKind.i64 p (s : Int) = p / 2 ^ s := by
  unfold shrI
  rw [show IntKind.bits .i64 = 64 from rfl, Int.toNat_natCast, Nat.min_eq_left (by omega), Int.fdiv_eq_ediv_of_nonneg]
  have : (0 : Int) < 2 ^ s := Int.pow_pos (by omega)
  omega

theorem div_pow_bound {p : Int} (h : -9223372036854775000 ≤ p ∧ p ≤ 9223372036854775000) {s : Nat} : -9223372036854775000 ≤ p / 2 ^ s ∧ p / 2 ^ s ≤ 9223372036854775000 := by
  have h1 : 1 ≤ (2 : Nat) ^ s := Nat.one_le_two_pow
  have e : ((2 : Int) ^ s) = ((2 ^ s : Nat) : Int) := by simp
  rw [e]
  generalize (2 : Nat) ^ s = q at *
  constructor
  · exact Int.le_ediv_of_mul_le (by omega) (by omega)
  · exact Int.ediv_le_of_le_mul (by omega) (by omega)

theorem quant_Requant_spec (N : Nat) (x m s z : Int) : F_quant_Requant N x m s z = some (requ x m s z, ()) := by
  unfold F_quant_Requant requ
  refine bnd _ (quant_cut_spec N _ (by omega)) (bnd _ (quant_cut_spec N _ (by omega)) (bnd _ (quant_cut_spec N _ (by omega)) ?_))
  have hs := cut_in (x := s) (lo := 0) (hi := 62) (by omega)
  have hz := cut_in (x := z) (lo := -128) (hi := 127) (by omega)
  have hp := requ_prod x m
  obtain ⟨S, hS⟩ : ∃ S : Nat, cut s 0 62 = (S : Int) := ⟨(cut s 0 62).toNat, by omega⟩
  rw [hS] at hs ⊢
  dsimp only
  generalize cut x (-2147483648) 2147483647 * cut m 0 2147483647 = p at *
  rw [wi64_in (n := p) (by omega) (by omega)]
  by_cases h0 : (0 : Int) < S
  · rw [if_pos h0]
    have hb := pow_bound (s := S - 1) (by omega)
    refine cT h0 (cT (by rw [wi64_in (by omega) (by omega)]; omega) (cT (by omega) ?_))
    rw [shl_one' (by omega) (by omega), wi64_in (n := p + 2 ^ (S - 1)) (by omega) (by omega), shr_at' (by omega)]
    have hd := div_pow_bound (p := p + 2 ^ (S - 1)) (by omega) (s := S)
    refine bnd _ (quant_cut_spec N _ (by omega)) ?_
    dsimp only
    rw [wi64_in (by omega) (by omega)]
    refine bnd _ (quant_cut_spec N _ (by omega)) ?_
    rw [Int.toNat_natCast]
  · rw [if_neg h0]
    refine cF h0 (bnd _ (quant_cut_spec N _ (by omega)) ?_)
    dsimp only
    rw [wi64_in (by omega) (by omega)]
    exact bnd _ (quant_cut_spec N _ (by omega)) rfl

theorem elem_kind_spec (N : Nat) (n : Int) (w : Bool) : F_elem_kind N n w = some (kept w n, ()) := by
  unfold F_elem_kind kept
  cases w
  · refine bF rfl (bnd _ (tens_Narrow_spec N _) ?_)
    rw [if_neg (by decide)]
    unfold cut
    congr 2
    repeat' split
    all_goals omega
  · exact bT rfl (bnd _ (tens_Wide_spec N _) rfl)

theorem elem_counts_spec (N : Nat) (op : Int) : ∃ k b, F_elem_counts N op = some (k, (((elN op : Nat) : Int), (b, ()))) := by
  unfold F_elem_counts
  by_cases h4 : op = 4
  · subst h4; exact ⟨_, _, rfl⟩
  by_cases h5 : op = 5
  · subst h5; exact ⟨_, _, rfl⟩
  by_cases h6 : op = 6
  · subst h6; exact ⟨_, _, rfl⟩
  by_cases h7 : op = 7
  · subst h7; exact ⟨_, _, rfl⟩
  by_cases h8 : op = 8
  · subst h8; exact ⟨_, _, rfl⟩
  by_cases h9 : op = 9
  · subst h9; exact ⟨_, _, rfl⟩
  by_cases h10 : op = 10
  · subst h10; exact ⟨_, _, rfl⟩
  by_cases h11 : op = 11
  · subst h11; exact ⟨_, _, rfl⟩
  refine ⟨0, false, cF h4 (cF h5 (cF h6 (cF h7 (cF h8 (cF h9 (cF h10 (cF h11 ?_)))))))⟩
  unfold elN
  rw [if_neg h9, if_neg h10, if_neg h11]
  rfl

theorem elem_Value_spec (N : Nat) (op : Int) (w : Bool) {x y : Int} {args : List Int} (hx : -2147483648 ≤ x ∧ x ≤ 2147483647) (hy : -2147483648 ≤ y ∧ y ≤ 2147483647) (h9 : op = 9 → args.getD 0 0 ≤ args.getD 1 0) (h11 : op = 11 → -2147483648 ≤ args.getD 0 0 ∧ args.getD 0 0 ≤ 2147483647) :
    F_elem_Value N op w x y args = some (if args.length < elN op then 0 else elV op w x y args, ()) := by
  unfold F_elem_Value
  obtain ⟨k, b, hc⟩ := elem_counts_spec N op
  refine bnd _ hc ?_
  by_cases hl : args.length < elN op
  · rw [if_pos hl]
    exact cT (by dsimp only; omega) rfl
  rw [if_neg hl]
  refine cF (by dsimp only; omega) ?_
  unfold elV
  have hargs : elN op ≤ args.length := by omega
  unfold elN at hargs
  by_cases h4 : op = 4
  · subst h4
    refine cT rfl ?_
    rw [if_pos rfl, wi64_in (by omega) (by omega)]
    exact bnd _ (elem_kind_spec N _ _) rfl
  refine cF h4 ?_
  rw [if_neg h4]
  by_cases h5 : op = 5
  · subst h5
    refine cT rfl ?_
    rw [if_pos rfl, wi64_in (by omega) (by omega)]
    exact bnd _ (elem_kind_spec N _ _) rfl
  refine cF h5 ?_
  rw [if_neg h5]
  by_cases h6 : op = 6
  · subst h6
    refine cT rfl ?_
    have hp := mul_abs (A := 2147483648) (B := 2147483648) (a := x) (b := y) (by omega) (by omega) (by omega) (by omega)
    rw [if_pos rfl, wi64_in (by omega) (by omega)]
    exact bnd _ (elem_kind_spec N _ _) rfl
  refine cF h6 ?_
  rw [if_neg h6]
  by_cases h7 : op = 7
  · subst h7
    refine cT rfl ?_
    rw [if_pos rfl, imax_eq']
  refine cF h7 ?_
  rw [if_neg h7]
  by_cases h8 : op = 8
  · subst h8
    refine cT rfl ?_
    rw [if_pos rfl, imax_eq']
  refine cF h8 ?_
  rw [if_neg h8]
  by_cases h9' : op = 9
  · have hr := h9 h9'
    subst h9'
    rw [if_pos rfl] at hargs
    refine cT rfl (cT (by omega) (cT (by omega) ?_))
    rw [if_pos rfl]
    congr 2
    unfold imax imin cut
    repeat' split
    all_goals omega
  refine cF h9' ?_
  rw [if_neg h9'] at hargs ⊢
  by_cases h10 : op = 10
  · subst h10
    rw [if_pos rfl] at hargs
    refine cT rfl (cT (by omega) (cT (by omega) (cT (by omega) ?_)))
    rw [if_pos rfl]
    exact bnd _ (quant_Requant_spec N _ _ _ _) rfl
  refine cF h10 ?_
  rw [if_neg h10] at hargs ⊢
  by_cases h11' : op = 11
  · have hr := h11 h11'
    subst h11'
    rw [if_pos rfl] at hargs
    refine cT rfl (cT (by omega) ?_)
    rw [if_pos rfl, wi64_in (by omega) (by omega)]
  refine cF h11' ?_
  rw [if_neg h11']

theorem elem_Value_out (N : Nat) (op : Int) (w : Bool) (x y : Int) (args : List Int) (h : ¬ (4 ≤ op ∧ op ≤ 11)) : F_elem_Value N op w x y args = some (0, ()) := by
  unfold F_elem_Value
  obtain ⟨k, b, hc⟩ := elem_counts_spec N op
  refine bnd _ hc ?_
  have e : elN op = 0 := by unfold elN; rw [if_neg (by omega), if_neg (by omega), if_neg (by omega)]
  rw [e]
  refine cF (by dsimp only; omega) (cF (by omega) (cF (by omega) (cF (by omega) (cF (by omega) (cF (by omega) (cF (by omega) (cF (by omega) (cF (by omega) rfl))))))))

/-! tensors -/

def elY (ins : List T) (i : Nat) : Int := if 1 < ins.length then (ins.getD 1 (([], false), [])).2.getD i 0 else 0

def elE (op : Int) (args : List Int) (ins : List T) (i : Nat) : Int := elV op (ins.getD 0 (([], false), [])).1.2 ((ins.getD 0 (([], false), [])).2.getD i 0) (elY ins i) args

theorem elemRes_ok {op : Int} {args : List Int} {ins : List D} (h : (elemRes op args ins).2 = .nil) : (4 ≤ op ∧ op ≤ 11) ∧ args.length = elN op ∧ ins.length = elK op ∧ firstBad ins = .nil ∧
    (elK op = 2 → ins.getD 0 noD = ins.getD 1 noD) ∧ (op = 10 → (ins.getD 0 noD).2 = true) ∧ (op = 11 → (ins.getD 0 noD).2 = false) ∧ elFair op args (ins.getD 0 noD).2 = true ∧ (elemRes op args ins).1 = ((ins.getD 0 noD).1, elWide op (ins.getD 0 noD).2) := by
  unfold elemRes at h ⊢
  by_cases h1 : 4 ≤ op ∧ op ≤ 11
  case neg => rw [if_pos h1] at h; cases h
  rw [if_neg (fun h => h h1)] at h ⊢
  by_cases h2 : args.length ≠ elN op ∨ ins.length ≠ elK op
  · rw [if_pos h2] at h; cases h
  rw [if_neg h2] at h ⊢
  by_cases h3 : firstBad ins = .nil
  case neg => rw [ifNF (isNil_false h3)] at h; exact absurd h h3
  rw [ifNT (nilT h3)] at h ⊢
  by_cases h4 : elK op = 2 ∧ ins.getD 0 noD ≠ ins.getD 1 noD ∨ op = 10 ∧ (ins.getD 0 noD).2 = false ∨ op = 11 ∧ (ins.getD 0 noD).2 = true
  · rw [if_pos h4] at h; cases h
  rw [if_neg h4] at h ⊢
  by_cases h5 : elFair op args (ins.getD 0 noD).2 = false
  · rw [if_pos h5] at h; cases h
  rw [if_neg h5] at h ⊢
  simp only [not_or, ne_eq, Decidable.not_not] at h2
  refine ⟨h1, h2.1, h2.2, h3, fun hk => Decidable.byContradiction fun hn => h4 (.inl ⟨hk, hn⟩), fun ho => ?_, fun ho => ?_, by simpa using h5, rfl⟩
  · cases hw : (ins.getD 0 noD).2
    · exact absurd (.inr (.inl ⟨ho, hw⟩)) h4
    · rfl
  · cases hw : (ins.getD 0 noD).2
    · rfl
    · exact absurd (.inr (.inr ⟨ho, hw⟩)) h4

theorem elFair_9 {args : List Int} {w : Bool} (h : elFair 9 args w = true) : args.getD 0 0 ≤ args.getD 1 0 := by
  have e : elFair 9 args w = (fitsB w (args.getD 0 0) && fitsB w (args.getD 1 0) && decide (args.getD 0 0 ≤ args.getD 1 0)) := rfl
  rw [e] at h
  simp only [Bool.and_eq_true, decide_eq_true_eq] at h
  exact h.2

theorem elFair_11 {args : List Int} {w : Bool} (h : elFair 11 args w = true) : -128 ≤ args.getD 0 0 ∧ args.getD 0 0 ≤ 127 := narrowB_iff.1 h

/-- the answer of tensors -/
def elemApp (op : Int) (args : List Int) (ins : List T) : T × Er :=
  if firstBadT ins ≠ .nil then ((noD, []), firstBadT ins)
  else if (elemRes op args (ins.map Prod.fst)).2 ≠ .nil then ((noD, []), (elemRes op args (ins.map Prod.fst)).2)
  else (((elemRes op args (ins.map Prod.fst)).1, (List.range (ins.getD 0 (([], false), [])).2.length).map (elE op args ins)), .nil)

theorem elemApp_OK (op : Int) (args : List Int) (ins : List T) : erOK (elemApp op args ins).2 := by
  unfold elemApp
  repeat' split
  all_goals first | exact True.intro | exact firstBadT_OK _ | exact elemRes_OK _ _ _

/-- of one or two, all of one length -/
theorem elem_lens {op : Int} {args : List Int} {ins : List T} (hr : (elemRes op args (ins.map Prod.fst)).2 = .nil) (hv : firstBadT ins = .nil) :
    0 < ins.length ∧ tensV (ins.getD 0 (([], false), [])) = .nil ∧ (ins.map Prod.fst).getD 0 noD = (ins.getD 0 (([], false), [])).1 ∧ (1 < ins.length → tensV (ins.getD 1 (([], false), [])) = .nil ∧ (ins.getD 1 (([], false), [])).2.length = (ins.getD 0 (([], false), [])).2.length) := by
  obtain ⟨h1, h2, h3, _, h5, _, _, h8, _⟩ := elemRes_ok hr
  have hk : elK op = 2 ∨ elK op = 1 := by unfold elK; split <;> simp
  rcases hk with hk | hk
  · rw [List.length_map, hk] at h3
    match ins, h3 with
    | [a, b], _ =>
    obtain ⟨va, vb⟩ := firstBadT_two hv
    have hab : a.1 = b.1 := h5 hk
    refine ⟨by simp, va, rfl, fun _ => ⟨vb, ?_⟩⟩
    have h6 := tensV_len va
    have h7 := tensV_len vb
    rw [hab] at h6
    simp only [List.getD_cons_zero, List.getD_cons_succ]
    omega
  · rw [List.length_map, hk] at h3
    match ins, h3 with
    | [a], _ => exact ⟨by simp, firstBadT_one hv, rfl, fun h => by simp at h⟩

/-! an element of any operation -/

def elAll (op : Int) (args : List Int) (ins : List T) (d : D) (i : Nat) : Int :=
  if op ≤ 11 then elE op args ins i
  else if op = 12 then mulC (ins.getD 0 (([], false), [])).2 (ins.getD 1 (([], false), [])).2 (args.getD 0 0) (args.getD 1 0) ((ins.getD 0 (([], false), [])).1.1.getD 1 0).toNat ((ins.getD 1 (([], false), [])).1.1.getD 1 0).toNat i
  else if op = 13 then cvC (ins.getD 0 (([], false), [])).2 (ins.getD 1 (([], false), [])).2 (args.getD 2 0) ((ins.getD 0 (([], false), [])).1.1.getD 0 0).toNat ((ins.getD 0 (([], false), [])).1.1.getD 1 0).toNat ((ins.getD 0 (([], false), [])).1.1.getD 2 0).toNat ((ins.getD 1 (([], false), [])).1.1.getD 0 0).toNat ((ins.getD 1 (([], false), [])).1.1.getD 1 0).toNat ((ins.getD 1 (([], false), [])).1.1.getD 3 0).toNat (args.getD 0 0).toNat (args.getD 1 0).toNat (d.1.getD 1 0).toNat i
  else if op = 14 ∨ op = 15 then plC (decide (op = 15)) (ins.getD 0 (([], false), [])).2 ((ins.getD 0 (([], false), [])).1.1.getD 1 0).toNat ((ins.getD 0 (([], false), [])).1.1.getD 2 0).toNat (args.getD 0 0).toNat (args.getD 1 0).toNat (d.1.getD 1 0).toNat i
  else if op = 16 then smC (ins.getD 0 (([], false), [])).2 (ins.getD 1 (([], false), [])).2 ((ins.getD 0 (([], false), [])).1.1.getD ((ins.getD 0 (([], false), [])).1.1.length - 1) 0).toNat i
  else if op = 17 then gaC (ins.getD 0 (([], false), [])).2 (ins.getD 1 (([], false), [])).2 ((ins.getD 0 (([], false), [])).1.1.getD 0 0).toNat ((ins.getD 0 (([], false), [])).1.1.getD 1 0).toNat i
  else if op = 19 then ((am (rowF (ins.getD 0 (([], false), [])).2 ((ins.getD 0 (([], false), [])).1.1.getD ((ins.getD 0 (([], false), [])).1.1.length - 1) 0).toNat i) ((ins.getD 0 (([], false), [])).1.1.getD ((ins.getD 0 (([], false), [])).1.1.length - 1) 0).toNat : Nat) : Int)
  else if op = 20 then round32 (sumN (rowF (ins.getD 0 (([], false), [])).2 ((ins.getD 0 (([], false), [])).1.1.getD ((ins.getD 0 (([], false), [])).1.1.length - 1) 0).toNat i) ((ins.getD 0 (([], false), [])).1.1.getD ((ins.getD 0 (([], false), [])).1.1.length - 1) 0).toNat)
  else if op = 21 then (ins.getD 0 (([], false), [])).2.getD (i % ((ins.getD 0 (([], false), [])).1.1.getD 0 0).toNat * ((ins.getD 0 (([], false), [])).1.1.getD 1 0).toNat + i / ((ins.getD 0 (([], false), [])).1.1.getD 0 0).toNat) 0
  else (ins.getD 0 (([], false), [])).2.getD i 0

/-- two tensors whose convolution may be -/
theorem convRes_ok {a k : T} {ar : List Int} (va : tensV a = .nil) (vk : tensV k = .nil) (h : (convRes ar a.1 k.1).2 = .nil) : ∃ (za : Int) (h w c kh kw n s p : Nat), ConvOK a k za h w c kh kw n s p ∧ ar = [(s : Int), (p : Int), za] ∧ a.1.2 = false ∧ k.1.2 = false ∧ kh ≤ h + 2 * p ∧ kw ≤ w + 2 * p ∧
    (1 ≤ (h + 2 * p - kh) / s + 1 ∧ (h + 2 * p - kh) / s + 1 ≤ 256) ∧ (1 ≤ (w + 2 * p - kw) / s + 1 ∧ (w + 2 * p - kw) / s + 1 ≤ 256) ∧ ((h + 2 * p - kh) / s + 1) * ((w + 2 * p - kw) / s + 1) * n ≤ 16384 ∧
    (convRes ar a.1 k.1).1 = ([(((h + 2 * p - kh) / s + 1 : Nat) : Int), (((w + 2 * p - kw) / s + 1 : Nat) : Int), (n : Int)], true) ∧ elems (convRes ar a.1 k.1).1.1 = ((((h + 2 * p - kh) / s + 1) * ((w + 2 * p - kw) / s + 1) * n : Nat) : Int) := by
  have sa := tensV_shape va
  have sk := tensV_shape vk
  unfold convRes at h ⊢
  by_cases hl : ar.length = 3
  case neg => rw [if_pos hl] at h; cases h
  rw [if_neg (fun h => h hl), ifNT (nilT sa), ifNT (nilT sk)] at h ⊢
  split at h
  · cases h
  rename_i hB1
  split at h
  · cases h
  rename_i hB2
  split at h
  · cases h
  rename_i hB3
  rw [if_neg hB1, if_neg hB2, if_neg hB3]
  simp only [not_or, ne_eq, Decidable.not_not, Bool.not_eq_true, Int.not_lt] at hB1 hB2 hB3
  obtain ⟨l1, l2, c1, w1, w2⟩ := hB1
  obtain ⟨r1, r2, r3, r4, r5⟩ := hB2
  obtain ⟨q1, q2⟩ := hB3
  obtain ⟨h0, w0, c0, e1, hh, hw, hc, hp, he⟩ := shape_nat_three sa l1
  obtain ⟨ns, e2, _, hn, _, hq, he2⟩ := shape_nat sk
  rw [e2] at l2
  match ns, l2, e2, hn, hq, he2 with
  | [kh, kw, kc, n], _, e2, hn, hq, he2 =>
  simp only [prodN, Nat.mul_one] at hq he2
  rw [e1, e2] at c1 q1 q2
  simp only [List.map_cons, List.map_nil, List.getD_cons_zero, List.getD_cons_succ] at c1 q1 q2 e2
  have hcc : kc = c0 := by omega
  subst hcc
  have hkh := hn kh (by simp)
  have hkw := hn kw (by simp)
  have hnn := hn n (by simp)
  match ar, hl with
  | [x, y, z], _ =>
  simp only [List.getD_cons_zero, List.getD_cons_succ] at r1 r2 r3 r4 r5 q1 q2 h ⊢
  obtain ⟨s, es⟩ : ∃ s : Nat, x = (s : Int) := ⟨x.toNat, by omega⟩
  obtain ⟨p, ep⟩ : ∃ p : Nat, y = (p : Int) := ⟨y.toNat, by omega⟩
  subst es
  subst ep
  have eS : convSh (s : Int) (p : Int) a.1.1 k.1.1 = [(((h0 + 2 * p - kh) / s + 1 : Nat) : Int), (((w0 + 2 * p - kw) / s + 1 : Nat) : Int), (n : Int)] := by
    unfold convSh
    rw [e1, e2]
    simp only [List.getD_cons_zero, List.getD_cons_succ]
    rw [show (h0 : Int) + 2 * p - kh = ((h0 + 2 * p - kh : Nat) : Int) by omega, show (w0 : Int) + 2 * p - kw = ((w0 + 2 * p - kw : Nat) : Int) by omega]
    simp
  rw [eS] at h ⊢
  by_cases hv : shapeV [(((h0 + 2 * p - kh) / s + 1 : Nat) : Int), (((w0 + 2 * p - kw) / s + 1 : Nat) : Int), (n : Int)] = .nil
  case neg => rw [ifF (isNil_false hv)] at h; exact absurd h hv
  rw [ifT (nilT hv)]
  obtain ⟨d1, d2, d3, ed, g1, g2, g3, g4, g5⟩ := shape_nat_three hv rfl
  simp only [List.cons.injEq, Int.ofNat_inj, and_true] at ed
  obtain ⟨ed1, ed2, ed3⟩ := ed
  rw [← ed1] at g1
  rw [← ed2] at g2
  rw [← ed1, ← ed2, ← ed3] at g4 g5
  have la := tensV_len va
  have lk := tensV_len vk
  rw [he] at la
  rw [he2] at lk
  refine ⟨z, h0, w0, kc, kh, kw, n, s, p, ⟨hh, hw, hc, hkh, hkw, hnn, by omega, by omega, e1, e2, by omega, by rw [Nat.mul_assoc, Nat.mul_assoc]; omega, hp, by rw [Nat.mul_assoc, Nat.mul_assoc]; exact hq, tensV_narrowD va w1, tensV_narrowD vk w2, narrowB_iff.1 (by simpa using r5)⟩, rfl, w1, w2, by omega, by omega, g1, g2, g4, rfl, g5⟩

/-- a tensor whose pool may be -/
theorem poolRes_ok {a : T} {ar : List Int} (va : tensV a = .nil) (h : (poolRes ar a.1).2 = .nil) : ∃ (h w c n s : Nat), PoolOK a h w c n s ∧ ar = [(n : Int), (s : Int)] ∧ ((h - n) / s + 1) * ((w - n) / s + 1) * c ≤ 16384 ∧
    (poolRes ar a.1).1 = ([(((h - n) / s + 1 : Nat) : Int), (((w - n) / s + 1 : Nat) : Int), (c : Int)], a.1.2) ∧ elems (poolRes ar a.1).1.1 = ((((h - n) / s + 1) * ((w - n) / s + 1) * c : Nat) : Int) := by
  have sa := tensV_shape va
  unfold poolRes at h ⊢
  by_cases hl : ar.length = 2
  case neg => rw [if_pos hl] at h; cases h
  rw [if_neg (fun h => h hl), ifNT (nilT sa)] at h ⊢
  by_cases h3 : a.1.1.length = 3
  case neg => rw [if_pos h3] at h; cases h
  rw [if_neg (fun h => h h3)] at h ⊢
  split at h
  · cases h
  rename_i hB1
  split at h
  · cases h
  rename_i hB2
  rw [if_neg hB1, if_neg hB2]
  simp only [not_or, Int.not_lt] at hB1 hB2
  obtain ⟨r1, r2, r3, r4⟩ := hB1
  obtain ⟨q1, q2⟩ := hB2
  obtain ⟨h0, w0, c0, e1, hh, hw, hc, hp, he⟩ := shape_nat_three sa h3
  rw [e1] at q1 q2
  simp only [List.getD_cons_zero, List.getD_cons_succ] at q1 q2
  match ar, hl with
  | [x, y], _ =>
  simp only [List.getD_cons_zero, List.getD_cons_succ] at r1 r2 r3 r4 q1 q2 ⊢
  obtain ⟨n, en⟩ : ∃ n : Nat, x = (n : Int) := ⟨x.toNat, by omega⟩
  obtain ⟨s, es⟩ : ∃ s : Nat, y = (s : Int) := ⟨y.toNat, by omega⟩
  subst en
  subst es
  have la := tensV_len va
  rw [he] at la
  have eS : poolSh (n : Int) (s : Int) a.1.1 = [(((h0 - n) / s + 1 : Nat) : Int), (((w0 - n) / s + 1 : Nat) : Int), (c0 : Int)] := by rw [e1, poolSh_nat (by omega) (by omega) (by omega) (by omega)]
  have p1 := pool_dim (h := h0) (n := n) (s := s) (by omega) (by omega) (by omega)
  have p2 := pool_dim (h := w0) (n := n) (s := s) (by omega) (by omega) (by omega)
  have p3 := pool_prod (h := h0) (w := w0) (c := c0) (n := n) (s := s) (by omega) (by omega) (by omega) (by omega) hp
  rw [eS]
  exact ⟨h0, w0, c0, n, s, ⟨hh, hw, hc, by omega, by omega, by omega, by omega, e1, by omega, hp, tensV_in va⟩, rfl, p3, rfl, elems_three (by omega) (by omega) hc p3⟩

/-! tensors -/

def appV (op : Int) (args : List Int) (ins : List T) : T × Er :=
  if firstBadT ins ≠ .nil then ((noD, []), firstBadT ins)
  else if (resV op args (ins.map Prod.fst)).2 ≠ .nil then ((noD, []), (resV op args (ins.map Prod.fst)).2)
  else (((resV op args (ins.map Prod.fst)).1, (List.range (elems (resV op args (ins.map Prod.fst)).1.1).toNat).map (elAll op args ins (resV op args (ins.map Prod.fst)).1)), .nil)

def elmV (op : Int) (args : List Int) (i : Int) (ins : List T) : Int :=
  if firstBadT ins ≠ .nil then 0
  else if (resV op args (ins.map Prod.fst)).2 ≠ .nil then 0
  else if 0 ≤ i ∧ i < elems (resV op args (ins.map Prod.fst)).1.1 then elAll op args ins (resV op args (ins.map Prod.fst)).1 i.toNat else 0

theorem appV_OK (op : Int) (args : List Int) (ins : List T) : erOK (appV op args ins).2 := by
  unfold appV
  repeat' split
  all_goals first | exact True.intro | exact firstBadT_OK _ | exact resV_OK _ _ _

theorem firstBad_getD1 : ∀ {l : List D}, firstBad l = .nil → ∀ k, (l.getD k noD).1.length ≤ 4
  | [], _, k => by simp [noD]
  | d :: r, h, k => by
    unfold firstBad at h
    rcases shapeV_cases d.1 with hd | ⟨hd, hd'⟩
    · rw [ifT (nilT hd)] at h
      cases k with
      | zero => exact (shapeV_nil.1 hd).1
      | succ k => exact firstBad_getD1 h k
    · rw [ifF hd] at h
      rw [h] at hd
      cases hd

theorem seenD_len (d : D) : (seenD d).1.1.length ≤ 4 := by
  unfold seenD
  rcases shapeV_cases d.1 with h | ⟨h, _⟩
  · rw [ifT (nilT h)]; exact (shapeV_nil.1 h).1
  · rw [ifF h]; simp [noD]

theorem softRes_len (op : Int) (ins : List D) : (softRes op ins).1.1.length ≤ 4 := by
  unfold softRes
  split
  · simp [noD]
  split
  · simp [noD]
  by_cases h3 : firstBad ins = .nil
  case neg => rw [ifNF (isNil_false h3)]; simp [noD]
  rw [ifNT (nilT h3)]
  have := firstBad_getD1 h3 0
  split
  · split
    · simp [noD]
    · exact this
  split
  · split
    · simp [noD]
    · exact seenD_len _
  split
  · simp [noD]
  · simp only [List.length_take]; omega

theorem resV_len (op : Int) (args : List Int) (ins : List D) : (resV op args ins).1.1.length ≤ 4 := by
  unfold resV
  split
  · simp [noD]
  split
  · exact elemRes_len _ _ _
  split
  · simp [noD]
  split
  · unfold matRes; repeat' split
    all_goals simp [noD]
  split
  · unfold convRes; repeat' split
    all_goals simp [noD, convSh]
  split
  · unfold poolRes; repeat' split
    all_goals simp [noD, poolSh]
  split
  · exact softRes_len _ _
  split
  · unfold turnRes; repeat' split
    all_goals simp [noD]
  · unfold reshRes
    split
    · simp [noD]
    by_cases h : shapeV args = .nil
    · rw [ifNT (nilT h)]
      split
      · simp [noD]
      · exact (shapeV_nil.1 h).1
    · rw [ifNF (isNil_false h)]; simp [noD]

theorem appV_len (op : Int) (args : List Int) (ins : List T) : (appV op args ins).1.1.1.length ≤ 4 ∧ (appV op args ins).1.2.length ≤ 16384 := by
  unfold appV
  split
  · simp [noD]
  split
  · simp [noD]
  · have h1 := resV_len op args (ins.map Prod.fst)
    have h2 := elems_bound (resV op args (ins.map Prod.fst)).1.1
    refine ⟨h1, ?_⟩
    simp
    omega

end Go.Proofs.YtnblnlanicpagaaDoor.Lg
