/-
  What the arena's functions come to, in plain words.
-/
import Derived.Test.YtnbpgehpjhifgaaDoorLxArenaAF
import Derived.Test.YtnbpgehpjhifgaaDoorLxLaw
namespace Go.Proofs.YtnbpgehpjhifgaaDoor.Lx
open Go Go.Eng Go.Proofs

abbrev B0 := List Int × (List (Option Nat) × Unit)
abbrev B1 := Int × (Int × (Int × (List (Int × Int) × Unit)))
abbrev TB0 := List B0
abbrev TB1 := List B1
def d0 : B0 := ([], ([], ()))
def d1 : B1 := (0, (0, (0, ([], ()))))

/-- a part: which object it is, and what it has -/
structure Pt where
  i : Nat
  id : Int
  off : Int
  size : Int
  l : List (Int × Int)

def Pt.row (p : Pt) : B1 := (p.id, (p.off, (p.size, (p.l, ()))))

/-- an arena: its bytes, its parts -/
structure Ar (T0 : TB0) (T1 : TB1) (a : Nat) (b : List Int) (ps : List Pt) : Prop where
  row : T0[a]? = some (b, (ps.map (fun p => some p.i), ()))
  part : ∀ p, p ∈ ps → T1[p.i]? = some p.row
  nodup : (ps.map (·.i)).Nodup

theorem getD_of {α : Type} {l : List α} {i : Nat} {x : α} (h : l[i]? = some x) (d : α) : l.getD i d = x := by
  rw [List.getD_eq_getElem?_getD, h]; rfl

section
variable {T0 : TB0} {T1 : TB1} {a : Nat} {b : List Int} {ps : List Pt}

theorem Ar.g0 (h : Ar T0 T1 a b ps) : List.getD T0 a (([] : List Int), (([] : List (Option Nat)), ())) = (b, (ps.map (fun p => some p.i), ())) := getD_of h.row _
theorem gi {k : Nat} (hk : k < ps.length) : List.getD (ps.map (fun p => some p.i)) k (@Option.none Nat) = some ps[k].i := by
  rw [List.getD_eq_getElem?_getD, List.getElem?_map, List.getElem?_eq_getElem hk]; rfl
theorem Ar.g1 (h : Ar T0 T1 a b ps) {p : Pt} (hp : p ∈ ps) : List.getD T1 p.i ((0 : Int), ((0 : Int), ((0 : Int), (([] : List (Int × Int)), ())))) = p.row := getD_of (h.part p hp) _
theorem Ar.len (h : Ar T0 T1 a b ps) : a < T0.length := (List.getElem?_eq_some_iff.1 h.row).1
theorem Ar.len1 (h : Ar T0 T1 a b ps) {p : Pt} (hp : p ∈ ps) : p.i < T1.length := (List.getElem?_eq_some_iff.1 (h.part p hp)).1

def findP (ps : List Pt) (id : Int) : Option Pt := ps.find? fun p => decide (p.id = id)

theorem loop_find {N : Nat} (h : Ar T0 T1 a b ps) (hl : ps.length < 1000000) (id : Int) : ∀ (n k : Nat), k ≤ ps.length → ps.length < n + k →
    g_arena_Arena_find_0 N n T0 T1 id (a, (0, ps.length)) (ps.length : Int) (k : Int) = match findP (ps.drop k) id with
      | some p => some (.inr ((T0, (T1, ())), (some p.i, ())))
      | none => some (.inl ((T0, (T1, ())), ()))
  | 0, k, _, h' => by omega
  | n + 1, k, hk, h' => by
    rw [g_arena_Arena_find_0]
    simp only [cond_dec, Int.ofNat_lt, Int.toNat_natCast, Int.natCast_nonneg, if_true, h.g0, List.length_map, Nat.zero_add]
    by_cases hi : k < ps.length
    · have hp : ps[k] ∈ ps := List.getElem_mem hi
      rw [if_pos hi, if_pos hi, if_pos hi, gi hi, Option.isSome_some, cond_true, Option.getD_some, h.g1 hp, wi64_succ (by omega), loop_find h hl id n (k + 1) hi (by omega)]
      unfold findP
      rw [List.drop_eq_getElem_cons hi, List.find?_cons]
      simp only [Pt.row]
      by_cases e : ps[k].id = id
      · simp only [e, decide_true, if_true]
      · simp only [e, decide_false, if_false]
    · rw [if_neg hi, List.drop_eq_nil_of_le (by omega)]
      rfl

theorem find_ok {N : Nat} (h : Ar T0 T1 a b ps) (hN : 1000 ≤ N) (hl : ps.length < 500) (id : Int) :
    F_arena_Arena_find N T0 T1 (some a) id = some ((T0, (T1, ())), ((findP ps id).map (·.i), ())) := by
  unfold F_arena_Arena_find
  rw [Option.isSome_some, cond_true]
  have := loop_find (N := N) h (by omega) id N 0 (by omega) (by omega)
  rw [show ((0 : Nat) : Int) = 0 from rfl, List.drop_zero] at this
  simp only [Option.getD_some, h.g0, List.length_map, this]
  cases findP ps id <;> rfl

/-- where there is room: ahead of which block; or where all end -/
def gapR : Int → Nat → List (Int × Int) → Int → Sum Int (Int × Nat)
  | e, _, [], _ => .inl e
  | e, i, x :: r, n => if n ≤ x.1 - e then .inr (e, i) else gapR (x.1 + x.2) (i + 1) r n

/-- no number is great -/
def Small (l : List (Int × Int)) : Prop := ∀ x, x ∈ l → 0 ≤ x.1 ∧ 0 ≤ x.2 ∧ x.1 + x.2 ≤ 1099511627776

theorem gapR_end : ∀ (l : List (Int × Int)), Small l → ∀ (e : Int) (i : Nat) (n : Int), 0 ≤ e → e ≤ 1099511627776 → ∀ e', gapR e i l n = .inl e' → 0 ≤ e' ∧ e' ≤ 1099511627776
  | [], _, e, i, n, h0, h1, e', h => by
    simp only [gapR, Sum.inl.injEq] at h
    subst h
    exact ⟨h0, h1⟩
  | x :: r, hs, e, i, n, h0, h1, e', h => by
    have hx := hs x (by simp)
    simp only [gapR] at h
    split at h
    · cases h
    · exact gapR_end r (fun y hy => hs y (by simp [hy])) _ _ _ (by omega) hx.2.2 _ h

theorem loop_gap {N : Nat} (l : List (Int × Int)) (hs : Small l) (hl : l.length < 1000000) (size n : Int) : ∀ (m k : Nat) (e : Int), 0 ≤ e → e ≤ 1099511627776 → k ≤ l.length → l.length < m + k →
    g_arena_gap_0 N m l size n e l (l.length : Int) (k : Int) = match gapR e k (l.drop k) n with
      | .inr (o, i) => some (.inr ((), (o, ((i : Int), (true, ())))))
      | .inl e' => some (.inl ((), (l, (size, (n, (e', ()))))))
  | 0, k, _, _, _, _, h' => by omega
  | m + 1, k, e, h0, h1, hk, h' => by
    rw [g_arena_gap_0]
    simp only [cond_dec, Int.ofNat_lt, Int.toNat_natCast, Int.natCast_nonneg, if_true]
    by_cases hi : k < l.length
    · have hx := hs l[k] (List.getElem_mem hi)
      rw [if_pos hi, if_pos hi, List.drop_eq_getElem_cons hi, gapR, getD_lt hi, wi64_in (n := l[k].1 - e) (by omega) (by omega), wi64_in (n := l[k].1 + l[k].2) (by omega) (by omega), wi64_succ (by omega)]
      by_cases hn : n ≤ l[k].1 - e
      · rw [if_pos hn, if_pos hn]
      · rw [if_neg hn, if_neg hn, loop_gap l hs hl size n m (k + 1) _ (by omega) hx.2.2 hi (by omega)]
    · rw [if_neg hi, List.drop_eq_nil_of_le (by omega)]
      rfl

/-- what gap answers -/
def gapA (l : List (Int × Int)) (size n : Int) : Int × Nat × Bool := match gapR 0 0 l n with
  | .inr (o, i) => (o, i, true)
  | .inl e => (e, l.length, decide (n ≤ size - e))

theorem gap_ok {N : Nat} (hN : 1000 ≤ N) (l : List (Int × Int)) (hs : Small l) (hl : l.length < 500) {size : Int} (h0 : 0 ≤ size) (h1 : size ≤ 1099511627776) (n : Int) :
    F_arena_gap N l size n = some ((), ((gapA l size n).1, (((gapA l size n).2.1 : Int), ((gapA l size n).2.2, ())))) := by
  unfold F_arena_gap gapA
  have := loop_gap (N := N) l hs (by omega) size n N 0 0 (by omega) (by omega) (by omega) (by omega)
  rw [show ((0 : Nat) : Int) = 0 from rfl, List.drop_zero] at this
  rw [this]
  cases hg : gapR 0 0 l n with
  | inr p => rfl
  | inl e =>
    have := gapR_end l hs 0 0 n (by omega) (by omega) e hg
    simp only [Option.bind_some, Sum.elim_inl]
    rw [wi64_in (by omega) (by omega)]

theorem gapR_le : ∀ (l : List (Int × Int)) (e : Int) (i : Nat) (n : Int) o j, gapR e i l n = .inr (o, j) → i ≤ j ∧ j < i + l.length
  | [], e, i, n, o, j, h => by cases h
  | x :: r, e, i, n, o, j, h => by
    simp only [gapR] at h
    split at h
    · injection h with h
      injection h with h1 h2
      subst h2
      simp
    · have := gapR_le r _ _ _ o j h
      simp only [List.length_cons]
      omega

theorem gapA_le (l : List (Int × Int)) (size n : Int) : (gapA l size n).2.1 ≤ l.length := by
  unfold gapA
  cases hg : gapR 0 0 l n with
  | inr p =>
    obtain ⟨o, j⟩ := p
    have := gapR_le l 0 0 n o j hg
    simp only
    omega
  | inl e => simp

/-- the parts' places -/
def areas (ps : List Pt) : List (Int × Int) := ps.map fun p => (p.off, p.size)

theorem loop_Add {N : Nat} (h : Ar T0 T1 a b ps) (hl : ps.length < 500) (id size : Int) (t : (Int × (Int × Int)) × Unit) : ∀ (n k : Nat), k ≤ ps.length → ps.length < n + k →
    g_arena_Arena_Add_0 N n T0 T1 (some a) id size t (areas (ps.take k)) (a, (0, ps.length)) (ps.length : Int) (k : Int) = some ((T0, (T1, ())), (some a, (id, (size, (t, (areas ps, ()))))))
  | 0, k, _, h' => by omega
  | n + 1, k, hk, h' => by
    rw [g_arena_Arena_Add_0]
    simp only [cond_dec, Int.ofNat_lt, Int.toNat_natCast, Int.natCast_nonneg, if_true, h.g0, List.length_map, Nat.zero_add]
    have hal : (areas (ps.take k)).length = k := by rw [areas, List.length_map, List.length_take]; omega
    by_cases hi : k < ps.length
    · have hp : ps[k] ∈ ps := List.getElem_mem hi
      have hmost : (k + 1) * (16 + 1) ≤ most := by unfold most; omega
      have ha : areas (ps.take k) ++ [(ps[k].off, ps[k].size)] = areas (ps.take (k + 1)) := by
        rw [List.take_succ_eq_append_getElem hi, areas, areas, List.map_append]; rfl
      rw [if_pos hi, if_pos hi, if_pos hi, gi hi, Option.isSome_some, cond_true, cond_true, Option.getD_some, h.g1 hp, wi64_succ (by omega)]
      simp only [Pt.row, List.take_length, hal, if_true, List.length_append, List.length_cons, List.length_nil, Nat.zero_add]
      rw [if_pos hmost, List.take_of_length_le (by omega), hal, if_pos rfl, ha]
      exact loop_Add h hl id size t n (k + 1) hi (by omega)
    · rw [if_neg hi, List.take_of_length_le (by omega)]

theorem loop_Parts {N : Nat} (h : Ar T0 T1 a b ps) (hl : ps.length < 500) : ∀ (n k : Nat), k ≤ ps.length → ps.length < n + k →
    g_arena_Arena_Parts_0 N n T0 T1 ((ps.take k).map fun p => (p.id, (p.off, p.size))) (a, (0, ps.length)) (ps.length : Int) (k : Int) = some ((T0, (T1, ())), ((ps.map fun p => (p.id, (p.off, p.size))), ()))
  | 0, k, _, h' => by omega
  | n + 1, k, hk, h' => by
    rw [g_arena_Arena_Parts_0]
    simp only [cond_dec, Int.ofNat_lt, Int.toNat_natCast, Int.natCast_nonneg, if_true, h.g0, List.length_map, Nat.zero_add]
    have hal : (ps.take k).length = k := by rw [List.length_take]; omega
    by_cases hi : k < ps.length
    · have hp : ps[k] ∈ ps := List.getElem_mem hi
      have hmost : (k + 1) * (24 + 1) ≤ most := by unfold most; omega
      have ha : ((ps.take k).map fun p => (p.id, (p.off, p.size))) ++ [(ps[k].id, (ps[k].off, ps[k].size))] = ((ps.take (k + 1)).map fun p => (p.id, (p.off, p.size))) := by
        rw [List.take_succ_eq_append_getElem hi, List.map_append]; rfl
      rw [if_pos hi, if_pos hi, if_pos hi, gi hi, Option.isSome_some, cond_true, Option.getD_some, h.g1 hp, wi64_succ (by omega)]
      simp only [Pt.row, List.length_map, hal, if_true, List.length_append, List.length_cons, List.length_nil, Nat.zero_add]
      rw [if_pos hmost, List.take_of_length_le (by rw [List.length_map]; omega), List.length_map, hal, if_pos rfl, ha]
      exact loop_Parts h hl n (k + 1) hi (by omega)
    · rw [if_neg hi, List.take_of_length_le (by omega)]

theorem Parts_ok {N : Nat} (h : Ar T0 T1 a b ps) (hN : 1000 ≤ N) (hl : ps.length < 500) :
    F_arena_Arena_Parts N T0 T1 (some a) = some ((T0, (T1, ())), ((ps.map fun p => (p.id, (p.off, p.size))), ())) := by
  unfold F_arena_Arena_Parts
  rw [Option.isSome_some, cond_true]
  have := loop_Parts (N := N) h hl N 0 (by omega) (by omega)
  rw [show ((0 : Nat) : Int) = 0 from rfl] at this
  simp only [Option.getD_some, h.g0, List.length_map]
  refine bnd _ this ?_
  exact cT True.intro rfl


/-- the table of arenas with another one at a place -/
def setA (T0 : TB0) (a : Nat) (b : List Int) (ps : List Pt) : TB0 := T0.set a (b, (ps.map (fun p => some p.i), ()))

theorem Add_range {N : Nat} (h : Ar T0 T1 a b ps) (hN : 1000 ≤ N) (hl : ps.length < 500) {id size : Int} (hx : size < 1 ∨ (findP ps id).isSome = true) :
    F_arena_Arena_Add N T0 T1 (some a) id size = some ((T0, (T1, ())), ((0, (0, 0)), (.s ErrRange, ()))) := by
  unfold F_arena_Arena_Add
  by_cases h1 : size < 1
  · exact cT h1 rfl
  · refine cF h1 ?_
    refine bnd _ (find_ok h hN hl id) ?_
    obtain ⟨p, hp⟩ := Option.isSome_iff_exists.1 (hx.resolve_left h1)
    simp only [hp, Option.map_some, Option.isNone_some, Bool.not_false, cond_true]

theorem Add_go {N : Nat} (h : Ar T0 T1 a b ps) (hN : 1000 ≤ N) (hl : ps.length < 500) (hs : Small (areas ps)) (hb : b.length ≤ 1099511627776) {id size : Int} (h1 : ¬ size < 1) (hx : findP ps id = none) :
    F_arena_Arena_Add N T0 T1 (some a) id size = if (gapA (areas ps) b.length size).2.2 then
        some ((T0.set a (b, ((ps.map (fun p => some p.i)).take (gapA (areas ps) b.length size).2.1 ++ [some T1.length] ++ (ps.map (fun p => some p.i)).drop (gapA (areas ps) b.length size).2.1, ())), (T1 ++ [(id, ((gapA (areas ps) b.length size).1, (size, ([], ()))))], ())), ((id, ((gapA (areas ps) b.length size).1, size)), (.nil, ())))
      else some ((T0, (T1, ())), ((0, (0, 0)), (.s ErrRoom, ()))) := by
  unfold F_arena_Arena_Add
  refine cF h1 ?_
  refine bnd _ (find_ok h hN hl id) ?_
  simp only [hx, Option.map_none, Option.isNone_none, Bool.not_true, cond_false, Option.isSome_some, cond_true, Option.getD_some, h.g0, List.length_map]
  have h2 := loop_Add (N := N) h hl id size ((0, (0, 0)), ()) N 0 (by omega) (by omega)
  rw [show ((0 : Nat) : Int) = 0 from rfl, List.take_zero] at h2
  refine bnd _ h2 ?_
  have hal : (areas ps).length = ps.length := by rw [areas, List.length_map]
  have hg := gap_ok (N := N) hN (areas ps) hs (by omega) (size := b.length) (by omega) (by omega) size
  have hle := gapA_le (areas ps) b.length size
  generalize gapA (areas ps) b.length size = G at hg hle ⊢
  obtain ⟨o, k, is⟩ := G
  simp only [Option.isSome_some, cond_true, Option.getD_some, h.g0, List.length_map, Nat.zero_add, List.take_length]
  refine cT (Nat.le_refl _) ?_
  refine bnd _ hg ?_
  rw [hal] at hle
  have hmost : (ps.length + 1) * (8 + 1) ≤ most := by unfold most; omega
  have hall : ((ps.map (fun p => some p.i)).take k ++ [some T1.length] ++ (ps.map (fun p => some p.i)).drop k).length = ps.length + 1 := by
    simp only [List.length_append, List.length_take, List.length_drop, List.length_map, List.length_cons, List.length_nil]
    omega
  have htl : List.take ps.length (ps.map (fun p => some p.i)) = ps.map (fun p => some p.i) := List.take_of_length_le (by rw [List.length_map]; omega)
  cases is with
  | false => rfl
  | true =>
    simp only [Bool.not_true, cond_false, Int.toNat_natCast, htl, List.length_map, hall, if_true]
    refine cT True.intro ?_
    refine cT (Int.natCast_nonneg _) ?_
    refine cT hle ?_
    refine cT hmost ?_
    refine cT (Nat.le_refl _) ?_
    refine cT True.intro ?_
    rw [List.take_of_length_le (Nat.le_of_eq hall)]


theorem getD_set_self {α : Type} {l : List α} {i : Nat} (h : i < l.length) (x d : α) : List.getD (l.set i x) i d = x := by
  rw [List.getD_eq_getElem?_getD, List.getElem?_set_self h]; rfl

/-- a part's bytes made nothings -/
def clearB (b : List Int) (off n : Nat) : List Int := b.take off ++ List.replicate n 0 ++ b.drop (off + n)

theorem Remove_none {N : Nat} (h : Ar T0 T1 a b ps) (hN : 1000 ≤ N) (hl : ps.length < 500) {id : Int} (hx : findP ps id = none) :
    F_arena_Arena_Remove N T0 T1 (some a) id = some ((T0, (T1, ())), (false, ())) := by
  unfold F_arena_Arena_Remove
  refine bnd _ (find_ok h hN hl id) ?_
  simp only [hx, Option.map_none, Option.isNone_none, cond_true]

theorem Remove_some {N : Nat} (h : Ar T0 T1 a b ps) (hN : 1000 ≤ N) (hl : ps.length < 500) {id : Int} {p : Pt} (hx : findP ps id = some p) {off size : Nat} (ho : p.off = off) (hs : p.size = size) (hb : off + size ≤ b.length) (hbb : b.length ≤ 1099511627776) :
    F_arena_Arena_Remove N T0 T1 (some a) id = some ((T0.set a (clearB b off size, ((ps.map (fun p => some p.i)).filter (fun y => !decide (y = some p.i)), ())), (T1, ())), (true, ())) := by
  unfold F_arena_Arena_Remove
  refine bnd _ (find_ok h hN hl id) ?_
  have hp : p ∈ ps := List.mem_of_find?_eq_some hx
  have hlen := h.len
  have hpos : 0 < ps.length := List.length_pos_of_mem hp
  simp only [hx, Option.map_some, Option.isNone_some, cond_false, Option.isSome_some, cond_true, Option.getD_some, h.g0, h.g1 hp, Pt.row, ho, hs, wi64_add (i := off) (k := size) (by omega), Int.toNat_natCast, Nat.zero_add, Nat.add_sub_cancel_left, getD_set_self hlen, List.take_length, List.set_set, List.length_map]
  refine cT (Int.natCast_nonneg _) ?_
  refine cT (Int.natCast_nonneg _) ?_
  refine cT (Nat.le_add_right _ _) ?_
  refine cT hb ?_
  refine cT hb ?_
  refine cT True.intro ?_
  have hm : List.take ps.length (ps.map (fun p => some p.i)) = ps.map (fun p => some p.i) := List.take_of_length_le (by rw [List.length_map]; omega)
  simp only [hm, List.length_map]
  refine cT hpos ?_
  refine cT (by unfold most; omega) ?_
  refine cT (Nat.le_refl _) ?_
  refine cT True.intro ?_
  rfl


theorem New_ok {N : Nat} (T0 : TB0) (T1 : TB1) {size : Nat} (h1 : 1 ≤ size) (h2 : size ≤ 1048576) :
    F_arena_New N T0 T1 size = some ((T0 ++ [(List.replicate size 0, ([], ()))], (T1, ())), (some T0.length, (.nil, ()))) := by
  unfold F_arena_New
  refine cF (by omega) ?_
  refine cF (by omega) ?_
  refine cT (by omega) ?_
  refine cT (Int.le_refl _) ?_
  simp only [Int.toNat_natCast, Nat.zero_add, List.length_replicate]
  refine cT (show (size : Int) * ((1 : Nat) + 1) ≤ ((1099511627776 : Nat) : Int) by omega) ?_
  refine cT (Nat.le_refl _) ?_
  rw [List.take_of_length_le (by rw [List.length_replicate]; exact Nat.le_refl _)]

theorem Ar.new (T0 : TB0) (T1 : TB1) (b : List Int) : Ar (T0 ++ [(b, ([], ()))]) T1 T0.length b [] :=
  ⟨by rw [List.getElem?_append_right (Nat.le_refl _), Nat.sub_self]; rfl, (fun p hp => by cases hp), List.nodup_nil⟩

/-- a part more -/
def insP (ps : List Pt) (k : Nat) (p : Pt) : List Pt := ps.take k ++ [p] ++ ps.drop k

theorem Ar.add (h : Ar T0 T1 a b ps) {k : Nat} {id off size : Int} :
    Ar (T0.set a (b, ((ps.map (fun p => some p.i)).take k ++ [some T1.length] ++ (ps.map (fun p => some p.i)).drop k, ()))) (T1 ++ [(id, (off, (size, ([], ()))))]) a b (insP ps k ⟨T1.length, id, off, size, []⟩) := by
  refine ⟨?_, fun p hp => ?_, ?_⟩
  · rw [List.getElem?_set_self h.len]
    simp [insP]
  · simp only [insP, List.mem_append, List.mem_cons, List.not_mem_nil, or_false] at hp
    rcases hp with (hp | rfl) | hp
    · have hp := List.mem_of_mem_take hp
      rw [List.getElem?_append_left (h.len1 hp)]
      exact h.part p hp
    · rw [List.getElem?_append_right (Nat.le_refl _), Nat.sub_self]
      rfl
    · have hp := List.mem_of_mem_drop hp
      rw [List.getElem?_append_left (h.len1 hp)]
      exact h.part p hp
  · have hperm : (insP ps k ⟨T1.length, id, off, size, []⟩).Perm (⟨T1.length, id, off, size, []⟩ :: ps) := by
      unfold insP
      rw [List.append_assoc]
      refine List.perm_middle.trans ?_
      show (_ :: (List.take k ps ++ List.drop k ps)).Perm _
      rw [List.take_append_drop]
    refine (hperm.map (·.i)).nodup_iff.2 ?_
    rw [List.map_cons, List.nodup_cons]
    refine ⟨fun hm => ?_, h.nodup⟩
    obtain ⟨p, hp, e⟩ := List.mem_map.1 hm
    have := h.len1 hp
    simp only at e
    omega

theorem Ar.remove (h : Ar T0 T1 a b ps) (b' : List Int) (j : Nat) :
    Ar (T0.set a (b', ((ps.map (fun p => some p.i)).filter (fun y => !decide (y = some j)), ()))) T1 a b' (ps.filter fun p => !decide (p.i = j)) := by
  refine ⟨?_, fun p hp => h.part p (List.mem_filter.1 hp).1, ?_⟩
  · rw [List.getElem?_set_self h.len, List.filter_map]
    congr 3
    congr 1
    apply List.filter_congr
    intro p _
    simp
  · exact h.nodup.sublist (List.filter_sublist.map _)

/-- places one behind the other -/
def row (e : Int) : List Int → List (Int × Int)
  | [] => []
  | n :: r => (e, n) :: row (e + n) r
def tot : List Int → Int
  | [] => 0
  | n :: r => n + tot r

theorem row_append : ∀ (ns ms : List Int) (e : Int), row e (ns ++ ms) = row e ns ++ row (e + tot ns) ms
  | [], ms, e => by simp [row, tot]
  | n :: r, ms, e => by
    rw [List.cons_append, row, row, row_append r ms, tot, List.cons_append, Int.add_assoc]
theorem tot_append : ∀ (ns ms : List Int), tot (ns ++ ms) = tot ns + tot ms
  | [], ms => by simp [tot]
  | n :: r, ms => by rw [List.cons_append, tot, tot, tot_append r ms, Int.add_assoc]
theorem row_length : ∀ (ns : List Int) (e : Int), (row e ns).length = ns.length
  | [], _ => rfl
  | n :: r, e => by rw [row, List.length_cons, row_length r, List.length_cons]

theorem tot_bound (B : Int) : ∀ (ns : List Int), (∀ n, n ∈ ns → 0 ≤ n ∧ n ≤ B) → 0 ≤ tot ns ∧ tot ns ≤ B * ns.length
  | [], _ => by simp [tot]
  | n :: r, h => by
    have := tot_bound B r fun m hm => h m (by simp [hm])
    have := h n (by simp)
    simp only [tot, List.length_cons]
    rw [show B * ((r.length + 1 : Nat) : Int) = B * r.length + B by rw [Int.natCast_add, Int.mul_add]; simp]
    omega

theorem row_small : ∀ (ns : List Int) (e : Int), (∀ n, n ∈ ns → 0 ≤ n) → 0 ≤ e → e + tot ns ≤ 1099511627776 → Small (row e ns)
  | [], _, _, _, _ => fun x hx => by cases hx
  | n :: r, e, h, h0, h1 => fun x hx => by
    have hn := h n (by simp)
    have hr : 0 ≤ tot r := by
      have : ∀ r : List Int, (∀ n, n ∈ r → 0 ≤ n) → 0 ≤ tot r := by
        intro r
        induction r with
        | nil => intro _; exact Int.le_refl _
        | cons m r ih =>
          intro h
          have := ih fun n hn => h n (by simp [hn])
          have := h m (by simp)
          simp only [tot]
          omega
      exact this r fun m hm => h m (by simp [hm])
    simp only [tot] at h1
    simp only [row, List.mem_cons] at hx
    rcases hx with rfl | hx
    · simp only
      omega
    · exact row_small r (e + n) (fun m hm => h m (by simp [hm])) (by omega) (by omega) x hx

theorem gapR_row {n : Int} (hn : 1 ≤ n) : ∀ (ns : List Int) (e : Int) (i : Nat) (rest : List (Int × Int)), gapR e i (row e ns ++ rest) n = gapR (e + tot ns) (i + ns.length) rest n
  | [], e, i, rest => by simp [row, tot]
  | m :: r, e, i, rest => by
    rw [row, List.cons_append, gapR, if_neg (by simp only; omega), gapR_row hn r, tot, List.length_cons, Int.add_assoc, Nat.add_assoc, Nat.add_comm 1]

end
end Go.Proofs.YtnbpgehpjhifgaaDoor.Lx
