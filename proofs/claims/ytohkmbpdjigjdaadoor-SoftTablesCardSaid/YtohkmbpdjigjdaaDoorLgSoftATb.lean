/-
  What the program's functions come to, in plain words.
-/
import Derived.Test.YtohkmbpdjigjdaaDoorLgSoftCP
import Derived.Test.YtohkmbpdjigjdaaDoorLgLaw
namespace Go.Proofs.YtohkmbpdjigjdaaDoor.Lg
open Go Go.Eng Go.Proofs

/-! shapes of counts -/

/-! how many elements, by the document -/

theorem overs_foldl : ∀ (l : List Int) (m : Int), 1 ≤ m → l.any badDim = false → (overs m l || decide (16384 < m)) = decide (16384 < l.foldl (· * ·) m)
  | [], m, _, _ => by
    rw [overs, Bool.false_or]
    exact decide_eq_decide.2 Iff.rfl
  | k :: r, m, hm, hb => by
    simp only [List.any_cons, Bool.or_eq_false_iff] at hb
    have hk := hb.1
    simp only [badDim, Bool.or_eq_false_iff, decide_eq_false_iff_not] at hk
    have h1 : m ≤ m * k := by
      have := Int.mul_le_mul (Int.le_refl m) (show 1 ≤ k by omega) (by omega) (by omega)
      omega
    have ih := overs_foldl r (m * k) (by omega) hb.2
    rw [List.foldl_cons, ← ih, overs]
    by_cases h2 : 16384 < m
    · have h3 : 16384 < m * k := by omega
      simp [h2, h3]
    · rw [decide_eq_false h2, Bool.or_false, Bool.or_comm]

theorem loop_VD (N : Nat) (d : D × Unit) (hl : d.1.1.length ≤ 4) : ∀ (n i : Nat) (m : Int), 1 ≤ m → m ≤ ((256 ^ i : Nat) : Int) → i ≤ d.1.1.length → d.1.1.length < n + i →
    g_lodgeref3_ValidDesc_0 N n d m i = if (d.1.1.drop i).any badDim then some (.inr (102, ())) else some (.inl ((d.1.1.drop i).foldl (· * ·) m, ()))
  | 0, i, m, _, _, h, h' => by omega
  | n + 1, i, m, h1, h2, h, h' => by
    rw [g_lodgeref3_ValidDesc_0]
    by_cases hi : i < d.1.1.length
    · refine cT (by omega) ?_
      refine cT (by omega) ?_
      refine cT (by simpa using hi) ?_
      rw [drop_cons hi 0, List.any_cons, Int.toNat_natCast]
      generalize hx : d.1.1.getD i 0 = x
      by_cases hx1 : x < 1
      · refine cT hx1 ?_
        simp [badDim, hx1]
      refine cF hx1 ?_
      refine cT (by omega) ?_
      refine cT hi ?_
      by_cases hx2 : 256 < x
      · refine cT hx2 ?_
        simp [badDim, hx2]
      refine cF hx2 ?_
      refine cT (by omega) ?_
      refine cT hi ?_
      have hp : (256 : Nat) ^ i ≤ 256 ^ 4 := Nat.pow_le_pow_right (by omega) (by omega)
      have hm : m * x ≤ ((256 ^ i : Nat) : Int) * 256 := Int.mul_le_mul h2 (by omega) (by omega) (by omega)
      have hm1 : 1 ≤ m * x := by
        have := Int.mul_le_mul h1 (show 1 ≤ x by omega) (by omega) (by omega)
        omega
      rw [wi64_in (n := m * x) (by omega) (by omega), wi64_succ (by omega)]
      have hbd : badDim x = false := by simp [badDim]; omega
      rw [hbd, Bool.false_or, List.foldl_cons]
      exact loop_VD N d hl n (i + 1) (m * x) hm1 (by rw [Nat.pow_succ]; omega) hi (by omega)
    · refine cF (by omega) ?_
      rw [List.drop_eq_nil_of_le (by omega)]
      rfl

/-- why a tensor may not look so, by the document's numbers -/
def vdCode (sh : List Int) : Int := if 4 < sh.length then 104 else if sh.any badDim then 102 else if overs 1 sh then 104 else 0

theorem lodgeref3_ValidDesc_spec {N : Nat} (hN : 20000 ≤ N) (d : D) : F_lodgeref3_ValidDesc N d = some (vdCode d.1, ()) := by
  unfold F_lodgeref3_ValidDesc vdCode
  by_cases h4 : 4 < d.1.length
  · rw [if_pos h4]
    exact cT (by omega) rfl
  rw [if_neg h4]
  refine cF (by omega) ?_
  have h0 := loop_VD N (d, ()) (by simpa using h4) N 0 1 (by omega) (by simp) (by omega) (by simp only; omega)
  rw [show ((0 : Nat) : Int) = 0 from rfl, List.drop_zero] at h0
  cases hb : d.1.any badDim with
  | true =>
    rw [if_pos hb] at h0
    exact bnd _ h0 rfl
  | false =>
    rw [if_neg (by simp [hb])] at h0
    refine bnd _ h0 ?_
    have e := overs_foldl d.1 1 (by omega) hb
    rw [show decide ((16384 : Int) < 1) = false from rfl, Bool.or_false] at e
    simp only [Sum.elim_inl, Bool.false_eq_true, if_false]
    rw [e]
    by_cases h1 : 16384 < d.1.foldl (· * ·) 1
    · refine cT h1 ?_
      simp [h1]
    · refine cF h1 ?_
      simp [h1]

theorem vdCode_zero (sh : List Int) : vdCode sh = 0 ↔ shapeV sh = .nil := by
  rw [shapeV_nil]
  unfold vdCode
  by_cases h4 : 4 < sh.length
  · rw [if_pos h4]; omega
  · rw [if_neg h4]
    cases hb : sh.any badDim <;> cases ho : overs 1 sh <;> simp <;> omega

theorem loop_Elems3 (N : Nat) (l : List Int) (hl : l.length ≤ 4) (hb : l.any badDim = false) : ∀ (n i : Nat) (m : Int), 1 ≤ m → m ≤ ((256 ^ i : Nat) : Int) → i ≤ l.length → l.length < n + i →
    g_lodgeref3_Elems_0 N n l m i = some ((l.drop i).foldl (· * ·) m, ())
  | 0, i, m, _, _, h, h' => by omega
  | n + 1, i, m, h1, h2, h, h' => by
    rw [g_lodgeref3_Elems_0]
    by_cases hi : i < l.length
    · refine cT (by omega) ?_
      refine cT (by omega) ?_
      refine cT (by simpa using hi) ?_
      rw [drop_cons hi 0, Int.toNat_natCast]
      have hx : badDim (l.getD i 0) = false := by
        rw [List.any_eq_false] at hb
        rw [getD_lt hi]
        simpa using hb _ (List.getElem_mem hi)
      generalize l.getD i 0 = x at *
      simp only [badDim, Bool.or_eq_false_iff, decide_eq_false_iff_not] at hx
      have hp : (256 : Nat) ^ i ≤ 256 ^ 4 := Nat.pow_le_pow_right (by omega) (by omega)
      have hm : m * x ≤ ((256 ^ i : Nat) : Int) * 256 := Int.mul_le_mul h2 (by omega) (by omega) (by omega)
      have hm1 : 1 ≤ m * x := by
        have := Int.mul_le_mul h1 (show 1 ≤ x by omega) (by omega) (by omega)
        omega
      rw [wi64_in (n := m * x) (by omega) (by omega), wi64_succ (by omega), List.foldl_cons]
      exact loop_Elems3 N l hl hb n (i + 1) (m * x) hm1 (by rw [Nat.pow_succ]; omega) hi (by omega)
    · refine cF (by omega) ?_
      rw [List.drop_eq_nil_of_le (by omega)]
      rfl

theorem lodgeref3_Elems_spec {N : Nat} (hN : 20000 ≤ N) (sh : List Int) : F_lodgeref3_Elems N sh = some (elems sh, ()) := by
  unfold F_lodgeref3_Elems elems
  refine bnd _ (lodgeref3_ValidDesc_spec hN _) ?_
  by_cases h : vdCode sh = 0
  · refine cF (by simpa using h) ?_
    have h2 := (vdCode_zero sh).1 h
    obtain ⟨h3, h4, h5⟩ := shapeV_nil.1 h2
    have h0 := loop_Elems3 N sh h3 h4 N 0 1 (by omega) (by simp) (by omega) (by omega)
    rw [show ((0 : Nat) : Int) = 0 from rfl, List.drop_zero] at h0
    refine bnd _ h0 ?_
    rw [h2]
    rfl
  · refine cT (by simpa using h) ?_
    have h2 : ¬ (shapeV sh).isNil = true := fun e => h ((vdCode_zero sh).2 ((isNil_iff _).1 e))
    rw [if_neg h2]

theorem ifT {α : Type} {c : Bool} {a b : α} (h : c = true) : (if c = true then a else b) = a := by rw [h]; rfl

theorem ifF {α : Type} {c : Bool} {a b : α} (h : c = false) : (if c = true then a else b) = b := by rw [h]; rfl

theorem ifNT {α : Type} {c : Bool} {a b : α} (h : c = true) : (if (!c) = true then a else b) = b := by rw [h]; rfl

theorem ifNF {α : Type} {c : Bool} {a b : α} (h : c = false) : (if (!c) = true then a else b) = a := by rw [h]; rfl

theorem nilT {e : Er} (h : e = .nil) : e.isNil = true := by rw [h]; rfl

/-! the document's numbers for errors -/

def codeS (k : Nat) : Int := 101 + (([ErrShape, ErrRange, ErrKind, ErrMany, ErrEnd, ErrRoom, ErrNone, ErrAlias, ErrCost, ErrJump, ErrCycle, ErrFuel, ErrFull, ErrQuota, ErrCap, ErrStale, ErrTag, ErrOld, ErrTenant, ErrWord, ErrNumber].idxOf k : Nat) : Int)

def codeE : Er → Int
  | .nil => 0
  | .s k => codeS k
  | .at _ k => codeS k

def faultE : Er → Int × (Bool × Int)
  | .nil => (0, (false, 0))
  | .s k => (codeS k, (false, 0))
  | .at p k => (codeS k, (true, p))

def erOK : Er → Prop
  | .nil => True
  | .s k => (k < 22 ∧ k ≠ 4)
  | .at _ k => (k < 22 ∧ k ≠ 4)

def bareE : Er → Prop
  | .at _ _ => False
  | _ => True

theorem codeS_pos (k : Nat) : 101 ≤ codeS k := by unfold codeS; omega

theorem codeE_zero (e : Er) : codeE e = 0 ↔ e = .nil := by
  cases e with
  | nil => simp [codeE]
  | s k => have := codeS_pos k; simp only [codeE, reduceCtorEq, iff_false]; omega
  | «at» p k => have := codeS_pos k; simp only [codeE, reduceCtorEq, iff_false]; omega

theorem faultE_bare {e : Er} (h : bareE e) : faultE e = (codeE e, (false, 0)) := by
  cases e with
  | «at» p k => exact False.elim h
  | _ => rfl

theorem faultE_one (e : Er) : (faultE e).1 = codeE e := by cases e <;> rfl

theorem lodgesee_sentinel_spec {N : Nat} (hN : 20000 ≤ N) {k : Nat} (hk : (k < 22 ∧ k ≠ 4)) : F_lodgesee_sentinel N (.s k) = some (codeS k, ()) := by
  obtain ⟨M, rfl⟩ : ∃ M, N = M + 22 := ⟨N - 22, by omega⟩
  have h : k = 0 ∨ k = 1 ∨ k = 2 ∨ k = 3 ∨ k = 5 ∨ k = 6 ∨ k = 7 ∨ k = 8 ∨ k = 9 ∨ k = 10 ∨ k = 11 ∨ k = 12 ∨ k = 13 ∨ k = 14 ∨ k = 15 ∨ k = 16 ∨ k = 17 ∨ k = 18 ∨ k = 19 ∨ k = 20 ∨ k = 21 := by omega
  rcases h with rfl | rfl | rfl | rfl | rfl | rfl | rfl | rfl | rfl | rfl | rfl | rfl | rfl | rfl | rfl | rfl | rfl | rfl | rfl | rfl | rfl <;> rfl

theorem lodgesee_Fault_spec {N : Nat} (hN : 20000 ≤ N) {e : Er} (h : erOK e) : F_lodgesee_Fault N e = some (faultE e, ()) := by
  cases e with
  | nil => rfl
  | s k => exact bF rfl (bF rfl (bnd _ (lodgesee_sentinel_spec hN h) (bnd _ rfl rfl)))
  | «at» p k =>
    have h0 : codeS k ≠ 0 := by have := codeS_pos k; omega
    refine bF rfl (bT rfl (bnd _ (lodgesee_sentinel_spec hN h) (bnd ((codeS k, (true, p)), ()) ?_ rfl)))
    exact cF h0 rfl

theorem lodgeref_SameFault_spec (N : Nat) (a b : Int × (Bool × Int)) : F_lodgeref_SameFault N a b = some (decide (a = b), ()) := by
  obtain ⟨a1, a2, a3⟩ := a
  obtain ⟨b1, b2, b3⟩ := b
  unfold F_lodgeref_SameFault
  by_cases h1 : a1 = b1
  case neg => exact cF h1 (by simp [h1])
  refine cT h1 ?_
  by_cases h2 : a2 = b2
  case neg => exact bF (by simpa using h2) (by simp [h2])
  refine bT (by simpa using h2) ?_
  simp [h1, h2]

theorem lodgesee_Same_spec {N : Nat} (hN : 20000 ≤ N) {e : Er} (h : erOK e) (f : Int × (Bool × Int)) : F_lodgesee_Same N e f = some (decide (faultE e = f), ()) := by
  unfold F_lodgesee_Same
  exact bnd _ (lodgesee_Fault_spec hN h) (bnd _ (lodgeref_SameFault_spec N _ _) rfl)

theorem lodgesee_Is_spec {N : Nat} (hN : 20000 ≤ N) {e : Er} (h : erOK e) (c : Int) : F_lodgesee_Is N e c = some (decide (faultE e = (c, (false, 0))), ()) := by
  unfold F_lodgesee_Is
  exact bnd _ rfl (bnd _ (lodgesee_Same_spec hN h _) rfl)

theorem lodgesee_Same_self {N : Nat} (hN : 20000 ≤ N) {e : Er} (h : erOK e) {f : Int × (Bool × Int)} (hf : f = faultE e) : F_lodgesee_Same N e f = some (true, ()) := by
  rw [lodgesee_Same_spec hN h, hf]; simp

theorem lodgesee_Is_self {N : Nat} (hN : 20000 ≤ N) {e : Er} (h : erOK e) (hb : bareE e) {c : Int} (hc : c = codeE e) : F_lodgesee_Is N e c = some (true, ()) := by
  rw [lodgesee_Is_spec hN h, hc, faultE_bare hb]; simp

theorem lodgeref_SameDesc_spec {N : Nat} (a b : D) (hl : a.1.length < 1000000) (hN : a.1.length < N) : F_lodgeref_SameDesc N a b = some (decide (a = b), ()) := by
  obtain ⟨a1, a2⟩ := a
  obtain ⟨b1, b2⟩ := b
  unfold F_lodgeref_SameDesc
  refine bnd _ (lodgeref_SameInts_spec _ _ hl hN) ?_
  by_cases h1 : a1 = b1
  case neg => exact cF h1 (by simp [h1])
  refine cT h1 ?_
  subst h1
  cases a2 <;> cases b2 <;> simp

theorem lodgeref_SameTensor_spec {N : Nat} (a b : T) (hl : a.1.1.length < 1000000) (hN : a.1.1.length < N) (hl' : a.2.length < 1000000) (hN' : a.2.length < N) : F_lodgeref_SameTensor N a b = some (decide (a = b), ()) := by
  obtain ⟨a1, a2⟩ := a
  obtain ⟨b1, b2⟩ := b
  unfold F_lodgeref_SameTensor
  refine bnd _ (lodgeref_SameDesc_spec _ _ hl hN) (bnd _ (lodgeref_SameInts_spec _ _ hl' hN') ?_)
  by_cases h1 : a1 = b1
  case neg => exact cF h1 (by simp [h1])
  refine cT h1 ?_
  simp [h1]

theorem lodgeref_SameDesc_self {N : Nat} {a b : D} (h : a = b) (hl : a.1.length < 1000000) (hN : a.1.length < N) : F_lodgeref_SameDesc N a b = some (true, ()) := by
  rw [lodgeref_SameDesc_spec a b hl hN, h]; simp

theorem lodgeref_SameTensor_self {N : Nat} {a b : T} (h : a = b) (hl : a.1.1.length < 1000000) (hN : a.1.1.length < N) (hl' : a.2.length < 1000000) (hN' : a.2.length < N) : F_lodgeref_SameTensor N a b = some (true, ()) := by
  rw [lodgeref_SameTensor_spec a b hl hN hl' hN', h]; simp

theorem shapeV_bare (sh : List Int) : bareE (shapeV sh) := by
  unfold shapeV
  split
  · exact True.intro
  · split
    · exact True.intro
    · split <;> exact True.intro

theorem shapeV_OK (sh : List Int) : erOK (shapeV sh) := by
  unfold shapeV
  split
  · exact (by decide : (ErrMany < 22 ∧ ErrMany ≠ 4))
  · split
    · exact (by decide : (ErrRange < 22 ∧ ErrRange ≠ 4))
    · split
      · exact (by decide : (ErrMany < 22 ∧ ErrMany ≠ 4))
      · exact True.intro

theorem vdCode_code (sh : List Int) : vdCode sh = codeE (shapeV sh) := by
  unfold vdCode shapeV
  split
  · rfl
  · split
    · rfl
    · split <;> rfl

theorem VD_spec {N : Nat} (hN : 20000 ≤ N) (d : D) : F_lodgeref3_ValidDesc N d = some (codeE (shapeV d.1), ()) := by
  rw [lodgeref3_ValidDesc_spec hN, vdCode_code]

theorem shapeV_cases (sh : List Int) : shapeV sh = .nil ∨ ((shapeV sh).isNil = false ∧ codeE (shapeV sh) ≠ 0) := by
  cases h : shapeV sh with
  | nil => exact .inl rfl
  | s k => refine .inr ⟨rfl, ?_⟩; have := codeS_pos k; simp only [codeE]; omega
  | «at» p k => refine .inr ⟨rfl, ?_⟩; have := codeS_pos k; simp only [codeE]; omega

theorem isNil_false {e : Er} (h : e ≠ .nil) : e.isNil = false := by cases e <;> simp_all [Er.isNil]

theorem tensV_OK (t : T) : erOK (tensV t) := by
  unfold tensV
  split
  · split
    · split
      · exact (by decide : (ErrRange < 22 ∧ ErrRange ≠ 4))
      · exact True.intro
    · exact (by decide : (ErrShape < 22 ∧ ErrShape ≠ 4))
  · exact shapeV_OK _

/-! what tensors look like -/

/-- the first of these that may not be -/
def firstBad : List D → Er
  | [] => .nil
  | d :: r => if (shapeV d.1).isNil then firstBad r else shapeV d.1

theorem firstBad_bare : ∀ l, bareE (firstBad l)
  | [] => True.intro
  | d :: r => by
    unfold firstBad
    split
    · exact firstBad_bare r
    · exact shapeV_bare _

theorem firstBad_OK : ∀ l, erOK (firstBad l)
  | [] => True.intro
  | d :: r => by
    unfold firstBad
    split
    · exact firstBad_OK r
    · exact shapeV_OK _

abbrev boxD (d : D) : List Int × (Bool × Unit) := (d.1, (d.2, ()))

theorem lodgeref_Desc_spec {N : Nat} (d : D) (hl : d.1.length < 1000000) (hN : d.1.length < N) : F_lodgeref_Desc N d = some (boxD d, ()) := by
  unfold F_lodgeref_Desc
  exact bnd _ (lodgeref_Ints_spec _ hl hN) (cT rfl rfl)

/-- … if that may be -/
def seenD (d : D) : D × Er := if (shapeV d.1).isNil then (d, .nil) else (noD, shapeV d.1)

theorem seenD_bare (d : D) : bareE (seenD d).2 := by
  unfold seenD
  split
  · exact True.intro
  · exact shapeV_bare _

theorem seenD_OK (d : D) : erOK (seenD d).2 := by
  unfold seenD
  split
  · exact True.intro
  · exact shapeV_OK _

theorem lodgeref3_Zero_spec {N : Nat} (hN : 20000 ≤ N) (d : D) (hl : d.1.length ≤ 10000) : F_lodgeref3_Zero N d = some (boxT d.1 d.2 (List.replicate (elems d.1).toNat 0), ()) := by
  unfold F_lodgeref3_Zero
  have hb := elems_bound d.1
  refine bnd _ (lodgeref_Desc_spec d (by omega) (by omega)) (bnd _ (lodgeref3_Elems_spec hN _) ?_)
  refine cT (by omega) (cT (Int.le_refl _) (cT (by simp only [most]; omega) (cT rfl (cT (by simp) rfl))))

/-- the first of tensors that may not be -/
def firstBadT : List T → Er
  | [] => .nil
  | t :: r => if (tensV t).isNil then firstBadT r else tensV t

theorem firstBadT_OK : ∀ l, erOK (firstBadT l)
  | [] => True.intro
  | d :: r => by
    unfold firstBadT
    split
    · exact firstBadT_OK r
    · exact tensV_OK _

theorem soft_first {N : Nat} (hN : N = 100000) : F_lodgelaw11_first N = some (true, ()) := by
  subst hN
  kernel_rfl

theorem and_any {a k : Nat} (hk : k < 64) : bitsI .and .u64 (a : Int) ((2 ^ k - 1 : Nat) : Int) = ((a % 2 ^ k : Nat) : Int) := by
  have hp : 2 ^ k - 1 < 2 ^ 64 := by have := Nat.pow_lt_pow_right (a := 2) (by omega) hk; omega
  have e : (BitVec.ofInt 64 (a : Int) &&& BitVec.ofInt 64 ((2 ^ k - 1 : Nat) : Int)).toNat = a % 2 ^ k := by
    rw [BitVec.ofInt_natCast, BitVec.ofInt_natCast, BitVec.toNat_and, BitVec.toNat_ofNat, BitVec.toNat_ofNat, Nat.mod_eq_of_lt hp, Nat.and_two_pow_sub_one_eq_mod]
    exact Nat.mod_mod_of_dvd _ (Nat.pow_dvd_pow 2 (by omega))
  change IntKind.wrap .u64 ((BitVec.ofInt 64 (a : Int) &&& BitVec.ofInt 64 ((2 ^ k - 1 : Nat) : Int)).toNat : Int) = _
  rw [e]
  have : a % 2 ^ k < 2 ^ k := Nat.mod_lt _ (Nat.two_pow_pos k)
  exact u64_in (by omega)

theorem exp_any (x : Nat) : bitsI .and .u64 (shrI .u64 (x : Int) 52) 2047 = ((x / 4503599627370496 % 2048 : Nat) : Int) := by
  have h1 := shr_nat (a := x) (k := 52) (by omega)
  rw [show ((52 : Nat) : Int) = 52 from rfl] at h1
  rw [h1]
  exact and_any (a := x / 2 ^ 52) (k := 11) (by omega)

theorem dec_any (b : Nat) : FloatKind.f64.decode b = if b % 9223372036854775808 < 4503599627370496 then .number (b / 9223372036854775808 % 2 == 1) (b % 9223372036854775808) (-1074)
    else if b % 9223372036854775808 < 2047 * 4503599627370496 then .number (b / 9223372036854775808 % 2 == 1) (4503599627370496 + b % 9223372036854775808 % 4503599627370496) (-1074 + (b % 9223372036854775808 / 4503599627370496 - 1 : Nat))
    else if b % 9223372036854775808 = 2047 * 4503599627370496 then .infinity (b / 9223372036854775808 % 2 == 1) else .nan (b / 9223372036854775808 % 2 == 1) (b % 9223372036854775808 - 2047 * 4503599627370496) := by
  change Ieee.double.read b = _
  have hl : Ieee.double.leastPlace = -1074 := by decide
  have hb : Ieee.double.binade = 4503599627370496 := by decide
  have hi : Ieee.double.infRung = 2047 * 4503599627370496 := by decide
  have hs : Ieee.double.signWeight = 9223372036854775808 := by decide
  unfold Ieee.Format.read
  simp only [hs, hb, hi, hl]

theorem dec_zero : FloatKind.f64.decode 0 = .number false 0 (-1074) := by rfl

theorem dec_one : FloatKind.f64.decode 4607182418800017408 = .number false 4503599627370496 (-52) := by rfl

theorem dec_max : FloatKind.f64.decode 9218868437227405311 = .number false 9007199254740991 971 := by rfl

theorem flt_Kind_some (N b : Nat) : ∃ k s, F_flt_Kind N b = some (k, (s, ())) := by
  unfold F_flt_Kind F_math_Signbit F_math_IsNaN F_math_IsInf F_math_Abs
  simp only [Option.bind_some]
  cases (Ieee.Format.order (FloatKind.format .f64) b b != some Ordering.eq)
  case true => exact ⟨_, _, rfl⟩
  simp only [cond_false, decide_true, cond_true, Option.bind_some]
  repeat' split
  all_goals (
    first
    | exact ⟨_, _, rfl⟩
    | (simp only [cond] ; repeat' split) )
  all_goals exact ⟨_, _, rfl⟩

theorem ord_cases {b : Nat} {s : Bool} {m : Nat} {p : Int} (e : FloatKind.f64.decode b = .number s m p) {c M : Nat} {P : Int} (hc : FloatKind.f64.decode c = .number false M P) :
    (Ieee.signed s m (p - min p P).toNat < Ieee.signed false M (P - min p P).toNat ∧ Ieee.Format.order (FloatKind.format .f64) b c = some .lt) ∨ (Ieee.signed s m (p - min p P).toNat = Ieee.signed false M (P - min p P).toNat ∧ Ieee.Format.order (FloatKind.format .f64) b c = some .eq) ∨ (Ieee.signed false M (P - min p P).toNat < Ieee.signed s m (p - min p P).toNat ∧ Ieee.Format.order (FloatKind.format .f64) b c = some .gt) := by
  have h : Ieee.Format.order (FloatKind.format .f64) b c = some (compare (Ieee.signed s m (p - min p P).toNat) (Ieee.signed false M (P - min p P).toNat)) := by
    change (FloatKind.f64.decode b).order (FloatKind.f64.decode c) = _
    rw [e, hc]
    rfl
  rw [h]
  rcases compare_cases (Ieee.signed s m (p - min p P).toNat) (Ieee.signed false M (P - min p P).toNat) with h | h | h
  · exact .inl ⟨h.1, by rw [h.2]⟩
  · exact .inr (.inl ⟨h.1, by rw [h.2]⟩)
  · exact .inr (.inr ⟨h.1, by rw [h.2]⟩)

theorem by_accept {b : Nat} {s : Bool} {m : Nat} {p : Int} (e : FloatKind.f64.decode b = .number s m p) (h0 : Ieee.Format.order (FloatKind.format .f64) b 0 = some .gt) (h1 : Ieee.Format.order (FloatKind.format .f64) b 4607182418800017408 = some .lt) : s = false ∧ ByOK b m p := by
  have a0 : Ieee.signed false 0 (-1074 - min p (-1074)).toNat < Ieee.signed s m (p - min p (-1074)).toNat := by
    rcases ord_cases e dec_zero with h | h | h
    · rw [h.2] at h0; cases h0
    · rw [h.2] at h0; cases h0
    · exact h.1
  have a1 : Ieee.signed s m (p - min p (-52)).toNat < Ieee.signed false 4503599627370496 (-52 - min p (-52)).toNat := by
    rcases ord_cases e dec_one with h | h | h
    · exact h.1
    · rw [h.2] at h1; cases h1
    · rw [h.2] at h1; cases h1
  cases s with
  | true =>
    have n1 : Ieee.signed true m (p - min p (-1074)).toNat ≤ 0 := by
      unfold Ieee.signed
      rw [if_pos rfl]
      exact Int.neg_nonpos_of_nonneg (Int.natCast_nonneg _)
    have n2 : Ieee.signed false 0 (-1074 - min p (-1074)).toNat = 0 := by
      unfold Ieee.signed
      rw [if_neg (by decide), Nat.zero_shiftLeft]
      rfl
    omega
  | false =>
    unfold Ieee.signed at a0 a1
    simp only [Bool.false_eq_true, if_false, Nat.zero_shiftLeft, Nat.shiftLeft_eq] at a0 a1
    have hm : 0 < m := by
      rcases Nat.eq_zero_or_pos m with h | h
      · subst h; rw [Nat.zero_mul] at a0; omega
      · exact h
    have a2 : m * 2 ^ (p - min p (-52)).toNat < 4503599627370496 * 2 ^ (-52 - min p (-52)).toNat := by omega
    have hB : 4503599627370496 = 2 ^ 52 := by decide
    have key : p < 0 ∧ m < 2 ^ (-p).toNat := by
      by_cases c : p ≤ -52
      · have e1 : (p - min p (-52)).toNat = 0 := by omega
        rw [e1, Nat.pow_zero, Nat.mul_one, hB, ← Nat.pow_add, show 52 + (-52 - min p (-52)).toNat = (-p).toNat by omega] at a2
        exact ⟨by omega, a2⟩
      · have e1 : (-52 - min p (-52)).toNat = 0 := by omega
        rw [e1, Nat.pow_zero, Nat.mul_one] at a2
        by_cases c2 : p < 0
        · refine ⟨c2, ?_⟩
          have e2 : (p - min p (-52)).toNat = 52 - (-p).toNat := by omega
          rw [e2, hB] at a2
          have e3 : 2 ^ 52 = 2 ^ (-p).toNat * 2 ^ (52 - (-p).toNat) := by rw [← Nat.pow_add, show (-p).toNat + (52 - (-p).toNat) = 52 by omega]
          rw [e3] at a2
          exact Nat.lt_of_mul_lt_mul_right a2
        · have e2 : 2 ^ 52 ≤ 2 ^ (p - min p (-52)).toNat := Nat.pow_le_pow_right (by omega) (by omega)
          have e3 : 2 ^ (p - min p (-52)).toNat ≤ m * 2 ^ (p - min p (-52)).toNat := Nat.le_mul_of_pos_left _ hm
          omega
    exact ⟨rfl, e, hm, key.1, key.2⟩

theorem kind_accept (N : Nat) {b m : Nat} {p : Int} (hb : ByOK b m p) (h0 : Ieee.Format.order (FloatKind.format .f64) b 0 = some .gt) : ∃ k s, F_flt_Kind N b = some (k, (s, ())) ∧ k ≠ 1 ∧ k ≠ 2 := by
  have hr : b % 9223372036854775808 < 2047 * 4503599627370496 ∧ b / 9223372036854775808 % 2 = 0 := by
    have e := hb.dec
    rw [dec_any] at e
    split at e
    · injection e with e1
      refine ⟨by omega, ?_⟩
      have : b / 9223372036854775808 % 2 ≠ 1 := by simpa using e1
      omega
    · split at e
      · injection e with e1
        refine ⟨by omega, ?_⟩
        have : b / 9223372036854775808 % 2 ≠ 1 := by simpa using e1
        omega
      · split at e
        · cases e
        · cases e
  have habs : F_math_Abs N b = some (b % 9223372036854775808, ()) := by
    unfold F_math_Abs
    have e : bitsI .andNot .u64 (b : Int) 9223372036854775808 = ((b % 9223372036854775808 : Nat) : Int) := by
      have e1 : (BitVec.ofInt 64 (b : Int) &&& ~~~ BitVec.ofInt 64 9223372036854775808).toNat = b % 9223372036854775808 := by
        have e2 : ~~~ BitVec.ofInt 64 9223372036854775808 = BitVec.ofNat 64 (2 ^ 63 - 1) := by decide
        rw [e2, BitVec.ofInt_natCast, BitVec.toNat_and, BitVec.toNat_ofNat, BitVec.toNat_ofNat, Nat.mod_eq_of_lt (show 2 ^ 63 - 1 < 2 ^ 64 by decide), Nat.and_two_pow_sub_one_eq_mod]
        exact Nat.mod_mod_of_dvd _ (by decide)
      change IntKind.wrap .u64 ((BitVec.ofInt 64 (b : Int) &&& ~~~ BitVec.ofInt 64 9223372036854775808).toNat : Int) = _
      rw [e1]
      exact u64_in (by omega)
    rw [e]
    rfl
  have hdc : FloatKind.f64.decode (b % 9223372036854775808) = .number false m p := by
    rw [← hb.dec, dec_any, dec_any b]
    have e1 : b % 9223372036854775808 % 9223372036854775808 = b % 9223372036854775808 := Nat.mod_mod _ _
    have e2 : b % 9223372036854775808 / 9223372036854775808 % 2 = b / 9223372036854775808 % 2 := by rw [Nat.div_eq_of_lt (Nat.mod_lt _ (by omega)), hr.2]
    rw [e1, e2]
  have hself : Ieee.Format.order (FloatKind.format .f64) b b = some .eq := by
    rcases ord_cases hb.dec hb.dec with h | h | h
    · omega
    · exact h.2
    · omega
  have hmax : Ieee.Format.order (FloatKind.format .f64) (b % 9223372036854775808) 9218868437227405311 = some .lt := by
    have hlt := hb.lt
    have hneg := hb.neg
    have : Ieee.signed false m (p - min p 971).toNat < Ieee.signed false 9007199254740991 (971 - min p 971).toNat := by
      unfold Ieee.signed
      simp only [Bool.false_eq_true, if_false, Nat.shiftLeft_eq]
      rw [show (p - min p 971).toNat = 0 by omega, Nat.pow_zero, Nat.mul_one]
      have e1 : 2 ^ (-p).toNat ≤ 2 ^ (971 - min p 971).toNat := Nat.pow_le_pow_right (by omega) (by omega)
      have e2 : 2 ^ (971 - min p 971).toNat ≤ 9007199254740991 * 2 ^ (971 - min p 971).toNat := Nat.le_mul_of_pos_left _ (by omega)
      omega
    rcases ord_cases hdc dec_max with h | h | h
    · exact h.2
    · omega
    · omega
  unfold F_flt_Kind F_math_Signbit F_math_IsNaN F_math_IsInf
  simp only [Option.bind_some, habs, hself, hmax, h0]
  cases hc : (Ieee.Format.order (FloatKind.format .f64) (b % 9223372036854775808) 4503599627370496 == some Ordering.lt)
  · exact ⟨5, _, rfl, by omega, by omega⟩
  · exact ⟨4, _, rfl, by omega, by omega⟩

theorem kind_nan (N : Nat) {b : Nat} {s : Bool} {m : Nat} (e : FloatKind.f64.decode b = .nan s m) : ∃ s, F_flt_Kind N b = some (1, (s, ())) := by
  have h : Ieee.Format.order (FloatKind.format .f64) b b = none := by
    change (FloatKind.f64.decode b).order (FloatKind.f64.decode b) = _
    rw [e]
    rfl
  unfold F_flt_Kind F_math_Signbit F_math_IsNaN
  simp only [Option.bind_some, h]
  exact ⟨_, rfl⟩

theorem acc_of {b : Nat} (h0 : Ieee.Format.order (FloatKind.format .f64) b 0 = some .gt) (h1 : Ieee.Format.order (FloatKind.format .f64) b 4607182418800017408 = some .lt) : ∃ m p, ByOK b m p := by
  cases e : FloatKind.f64.decode b with
  | number s m p =>
    obtain ⟨h2, h3⟩ := by_accept e h0 h1
    exact ⟨m, p, h3⟩
  | infinity s =>
    have a0 : Ieee.Format.order (FloatKind.format .f64) b 0 = (Ieee.Datum.infinity s).order (.number false 0 (-1074)) := by
      change (FloatKind.f64.decode b).order (FloatKind.f64.decode 0) = _
      rw [e, dec_zero]
    have a1 : Ieee.Format.order (FloatKind.format .f64) b 4607182418800017408 = (Ieee.Datum.infinity s).order (.number false 4503599627370496 (-52)) := by
      change (FloatKind.f64.decode b).order (FloatKind.f64.decode 4607182418800017408) = _
      rw [e, dec_one]
    rw [a0] at h0
    rw [a1] at h1
    cases s
    · cases h1
    · cases h0
  | nan s m =>
    have a0 : Ieee.Format.order (FloatKind.format .f64) b 0 = (Ieee.Datum.nan s m).order (.number false 0 (-1074)) := by
      change (FloatKind.f64.decode b).order (FloatKind.f64.decode 0) = _
      rw [e, dec_zero]
    rw [a0] at h0
    cases h0

abbrev NoT : List Int × (Bool × (List Int × Unit)) := ([], (false, ([], ())))

theorem tabS_reject (N : Nat) {b : Nat} (h : ¬ ∃ m p, ByOK b m p) : F_soft_Table N b = some (NoT, (.s ErrRange, ())) := by
  unfold F_soft_Table
  obtain ⟨k, s, hk⟩ := flt_Kind_some N b
  refine bnd _ hk ?_
  by_cases k1 : k = 1
  · exact cT k1 rfl
  refine cF k1 ?_
  by_cases k2 : k = 2
  · exact cT k2 rfl
  refine cF k2 ?_
  cases e : FloatKind.f64.decode b with
  | number s m p =>
    rcases ord_cases e dec_zero with g | g | g
    · exact bT (by rw [g.2]; rfl) rfl
    · exact bT (by rw [g.2]; rfl) rfl
    refine bF (by rw [g.2]; rfl) ?_
    rcases ord_cases e dec_one with g1 | g1 | g1
    · exact absurd (acc_of g.2 g1.2) h
    · exact bT (by rw [g1.2]; rfl) rfl
    · exact bT (by rw [g1.2]; rfl) rfl
  | infinity s =>
    have a0 : Ieee.Format.order (FloatKind.format .f64) b 0 = (Ieee.Datum.infinity s).order (.number false 0 (-1074)) := by
      change (FloatKind.f64.decode b).order (FloatKind.f64.decode 0) = _
      rw [e, dec_zero]
    have a1 : Ieee.Format.order (FloatKind.format .f64) b 4607182418800017408 = (Ieee.Datum.infinity s).order (.number false 4503599627370496 (-52)) := by
      change (FloatKind.f64.decode b).order (FloatKind.f64.decode 4607182418800017408) = _
      rw [e, dec_one]
    rw [a0, a1]
    cases s <;> rfl
  | nan s m =>
    obtain ⟨s', hs⟩ := kind_nan N e
    rw [hk] at hs
    injection hs with hs
    injection hs with hs
    exact absurd hs k1

theorem ref_Kind_some (N b : Nat) : ∃ k s, F_lodgeref3_Kind N b = some (k, (s, ())) := by
  by_cases hE : b / 4503599627370496 % 2048 = 2047
  · obtain ⟨k, s, h, _⟩ := ref_Kind_inf N (x := b) (by rw [exp_any, hE]; rfl)
    exact ⟨k, s, h⟩
  · obtain ⟨k, s, h, _⟩ := ref_Kind_fin N (x := b) (exp_any b) hE
    exact ⟨k, s, h⟩

theorem tabR_reject (N : Nat) {b : Nat} (h : ¬ ∃ m p, ByOK b m p) : F_lodgeref3_Table N b = some (NoT, (false, ())) := by
  unfold F_lodgeref3_Table F_lodgeref3_finite
  obtain ⟨k, s, hk⟩ := ref_Kind_some N b
  rw [hk]
  by_cases h3 : 3 ≤ k
  · refine bnd _ rfl ?_
    refine bF (by rw [decide_eq_true h3]; rfl) ?_
    by_cases g0 : Ieee.Format.order (FloatKind.format .f64) b 0 = some .gt
    · refine bF (by rw [g0]; rfl) ?_
      by_cases g1 : Ieee.Format.order (FloatKind.format .f64) b 4607182418800017408 = some .lt
      · exact absurd (acc_of g0 g1) h
      · refine bT ?_ rfl
        rw [beq_eq_false_iff_ne.2 g1]
        rfl
    · refine bT ?_ rfl
      rw [beq_eq_false_iff_ne.2 g0]
      rfl
  · refine bnd _ rfl ?_
    exact bT (by rw [decide_eq_false h3]; rfl) rfl

theorem ord_accept {b m : Nat} {p : Int} (hb : ByOK b m p) : Ieee.Format.order (FloatKind.format .f64) b 0 = some .gt ∧ Ieee.Format.order (FloatKind.format .f64) b 4607182418800017408 = some .lt := by
  have hp := hb.pos
  have hn := hb.neg
  have hl := hb.lt
  constructor
  · have : 0 < Ieee.signed false m (p - min p (-1074)).toNat := by
      unfold Ieee.signed
      rw [if_neg (by decide), Nat.shiftLeft_eq]
      exact Int.natCast_pos.2 (Nat.mul_pos hp (Nat.two_pow_pos _))
    have z : Ieee.signed false 0 (-1074 - min p (-1074)).toNat = 0 := by unfold Ieee.signed; rw [if_neg (by decide), Nat.zero_shiftLeft]; rfl
    rcases ord_cases hb.dec dec_zero with h | h | h
    · omega
    · omega
    · exact h.2
  · have : Ieee.signed false m (p - min p (-52)).toNat < Ieee.signed false 4503599627370496 (-52 - min p (-52)).toNat := by
      unfold Ieee.signed
      simp only [Bool.false_eq_true, if_false, Nat.shiftLeft_eq]
      have hB : 4503599627370496 = 2 ^ 52 := by decide
      rw [hB, ← Nat.pow_add]
      by_cases c : p ≤ -52
      · rw [show (p - min p (-52)).toNat = 0 by omega, Nat.pow_zero, Nat.mul_one, show 52 + (-52 - min p (-52)).toNat = (-p).toNat by omega]
        omega
      · rw [show (-52 - min p (-52)).toNat = 0 by omega, show 52 + 0 = (-p).toNat + (p - min p (-52)).toNat by omega, Nat.pow_add]
        have := Nat.mul_lt_mul_of_pos_right hl (Nat.two_pow_pos (p - min p (-52)).toNat)
        omega
    rcases ord_cases hb.dec dec_one with h | h | h
    · exact h.2
    · omega
    · omega

theorem tabS_accept (N : Nat) (hN : N = 100000) {b m : Nat} {p : Int} (hb : ByOK b m p) : F_soft_Table N b = some (boxT [256] true ((List.range 256).map fun k => (seqF b k : Int)), (.nil, ())) := by
  obtain ⟨h0, h1⟩ := ord_accept hb
  obtain ⟨k, s, hk, k1, k2⟩ := kind_accept N hb h0
  unfold F_soft_Table
  refine bnd _ hk (cF k1 (cF k2 (bF (by rw [h0]; rfl) (bF (by rw [h1]; rfl) ?_))))
  have := loop_TableS N hb ([], (false, ([], ()))) N 0 (by omega) (by omega)
  refine bnd _ this ?_
  exact cT rfl (cT rfl rfl)

theorem tabR_accept (hZ : F_lodgeref3_Zero 100000 ([256], true) = some (boxT [256] true (List.replicate 256 0), ())) {b m : Nat} {p : Int} (hb : ByOK b m p) : F_lodgeref3_Table 100000 b = some (boxT [256] true ((List.range 256).map fun k => (seqF b k : Int)), (true, ())) := by
  obtain ⟨h0, h1⟩ := ord_accept hb
  have hE : b / 4503599627370496 % 2048 ≠ 2047 := by
    intro c
    have e := hb.dec
    rw [dec_any, if_neg (by omega), if_neg (by omega)] at e
    split at e
    · cases e
    · cases e
  obtain ⟨k, s, hk, k3⟩ := ref_Kind_fin 100000 (x := b) (exp_any b) hE
  unfold F_lodgeref3_Table F_lodgeref3_finite
  rw [hk]
  refine bnd _ rfl (bF (by rw [decide_eq_true k3]; rfl) (bF (by rw [h0]; rfl) (bF (by rw [h1]; rfl) (bnd _ hZ ?_))))
  have hl := loop_TableR 100000 hb ([], (false, ([], ()))) 100000 0 (by omega) (by omega)
  have e0 : (List.replicate 256 (0 : Int)).set 0 1048576 = (List.range 256).map fun k => if k < 0 + 1 then (seqF b k : Int) else 0 := by
    apply List.ext_getElem (by rw [List.length_set, List.length_replicate, List.length_map, List.length_range])
    intro i h1 h2
    simp only [List.getElem_set, List.getElem_replicate, List.getElem_map, List.getElem_range]
    by_cases hi : 0 = i
    · subst hi; rfl
    · rw [if_neg hi, if_neg (by omega)]
  have e1 : ((List.range 256).map fun k => if k < 256 then (seqF b k : Int) else 0) = (List.range 256).map fun k => (seqF b k : Int) := by
    apply List.map_congr_left
    intro i hi
    rw [if_pos (List.mem_range.1 hi)]
  rw [e1] at hl
  rw [← e0] at hl
  have hrl : (List.replicate 256 (0 : Int)).length = 256 := List.length_replicate
  generalize (List.replicate 256 (0 : Int)) = R at *
  refine cT (by first | omega | (dsimp only; omega)) (cT (by first | omega | (dsimp only; omega)) (cT rfl (cT (List.length_set).symm (bnd _ hl ?_))))
  exact cT rfl (cT rfl rfl)

theorem SoftTables_law (hZ : F_lodgeref3_Zero 100000 ([256], true) = some (boxT [256] true (List.replicate 256 0), ())) (h1 : F_lodgelaw11_first 100000 = some (true, ())) (b : Nat) : F_lodgelaw11_SoftTables 100000 b = some (true, ()) := by
  unfold F_lodgelaw11_SoftTables
  refine bnd _ h1 (bF rfl ?_)
  by_cases h : ∃ m p, ByOK b m p
  · obtain ⟨m, p, hb⟩ := h
    refine bnd _ (tabS_accept 100000 rfl hb) (bnd _ (tabR_accept hZ hb) ?_)
    have hlen : ((List.range 256).map fun k => (seqF b k : Int)).length = 256 := by rw [List.length_map, List.length_range]
    have eg : ((List.range 256).map fun k => (seqF b k : Int)).getD (0 + 0) 0 = 1048576 := by
      rw [getD_lt (by rw [hlen]; omega), List.getElem_map, List.getElem_range]
      rfl
    have hs := loop_SoftTables 100000 hb true [256] true 100000 1 (by omega) (by omega) (by omega)
    generalize ((List.range 256).map fun k => (seqF b k : Int)) = L at *
    refine bF rfl (bF rfl ?_)
    refine cT (by simp) (cT (by simp) (cT (by simp) (cT (by simp) ?_)))
    dsimp only
    simp only [List.take_length]
    refine bnd _ (lodgeref_SameTensor_self (N := 100000) rfl (by simp) (by simp) (by dsimp only; omega) (by dsimp only; omega)) (bF rfl ?_)
    refine cT (by omega) (cT (by omega) (cF (by rw [eg]; exact fun c => c rfl) (cT True.intro (cT True.intro ?_))))
    refine bnd _ hs ?_
    rfl
  · refine bnd _ (tabS_reject 100000 h) (bnd _ (tabR_reject 100000 h) ?_)
    refine bT rfl (bT rfl (cT rfl ?_))
    exact bnd _ (lodgesee_Is_self (N := 100000) (by omega) (e := .s ErrRange) (by first | decide | exact ⟨_, rfl⟩ | trivial | simp [erOK]) (by first | decide | trivial | simp [bareE]) (by first | rfl | decide)) rfl

theorem SoftTables_row {N : Nat} (hN : N = 100000) (x : Val (rowTy ps_lodgelaw11_SoftTables)) (_ : FitsL ps_lodgelaw11_SoftTables x) : (c_lodgelaw11_SoftTables N).g x = some (true, ()) := by
  have h1 := soft_first hN
  have hZ : F_lodgeref3_Zero 100000 ([256], true) = some (boxT [256] true (List.replicate 256 0), ()) := by kernel_rfl
  have := SoftTables_law hZ (by rw [← hN]; exact h1) x.1
  rw [← hN] at this
  exact this

end Go.Proofs.YtohkmbpdjigjdaaDoor.Lg
