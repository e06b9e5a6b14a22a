/-
  The abstract machine, part 26: the tables of a program.
-/
import Derived.Test.YtnbpgehpjhifgaaDoorLxEngZ
namespace Go.Eng

/-- is it a type's zero? what is left -/
def isZero (N : Names) : Ty → List AV → Option (List AV)
  | .int k, l => match l with
    | .v (.int k' n) :: r => match sameK k k', decide (n = 0) with
      | true, true => some r
      | _, _ => none
    | _ => none
  | .bool, l => match l with
    | .v (.bool false) :: r => some r
    | _ => none
  | .str, l => match l with
    | .v (.string s) :: r => match decide (s = ByteArray.empty) with
      | true => some r
      | false => none
    | _ => none
  | .flt, l => match l with
    | .v (.float .f64 n) :: r => match decide (n = 0) with
      | true => some r
      | false => none
    | _ => none
  | .err, l => match l with
    | .v .nilIface :: r => some r
    | _ => none
  | .unit, l => some l
  | .pair a b, l => match isZero N a l with
    | some r => isZero N b r
    | none => none
  | .st a, l => isZero N a l
  | .sl _, l => match l with
    | .v (.slice none 0 0) :: r => some r
    | _ => none
  | .hd _, l => match l with
    | .v (.pointer none) :: r => some r
    | _ => none
  | _, _ => none

theorem isZero_sound (N : Names) : ∀ (u : Ty) {l r : List AV}, isZero N u l = some r → decT N u l = some (dfl u, r)
  | .int k, l, r, h => by
    simp only [isZero] at h
    split at h
    · split at h
      · rename_i k' n r' hk hn
        injection h with h
        subst h
        simp only [decT, decI, hk]
        rw [of_decide_eq_true hn]
        rfl
      · cases h
    · cases h
  | .bool, l, r, h => by
    simp only [isZero] at h
    split at h
    · injection h with h
      subst h
      rfl
    · cases h
  | .str, l, r, h => by
    simp only [isZero] at h
    split at h
    · split at h
      · rename_i s r' hs
        injection h with h
        subst h
        rw [of_decide_eq_true hs]
        rfl
      · cases h
    · cases h
  | .flt, l, r, h => by
    simp only [isZero] at h
    split at h
    · split at h
      · rename_i n r' hs
        injection h with h
        subst h
        rw [of_decide_eq_true hs]
        rfl
      · cases h
    · cases h
  | .err, l, r, h => by
    simp only [isZero] at h
    split at h
    · injection h with h
      subst h
      rfl
    · cases h
  | .unit, l, r, h => by
    simp only [isZero, Option.some.injEq] at h
    subst h
    rfl
  | .pair a b, l, r, h => by
    simp only [isZero] at h
    split at h
    · rename_i r' ha
      simp only [decT, isZero_sound N a ha, isZero_sound N b h]
      rfl
    · cases h
  | .st a, l, r, h => by
    simp only [isZero] at h
    simp only [decT]
    exact isZero_sound N a h
  | .sl a, l, r, h => by
    simp only [isZero] at h
    split at h
    · injection h with h
      subst h
      rfl
    · cases h
  | .hd a, l, r, h => by
    simp only [isZero] at h
    split at h
    · injection h with h
      subst h
      rfl
    · cases h
  | .nat, l, r, h => by simp [isZero] at h
  | .ref a, l, r, h => by simp [isZero] at h
  | .clo f a, l, r, h => by simp [isZero] at h

def tyFits (P : Program) (N : Names) (u : Option Ty) (d : TypeDesc) (i : TypeInfo) (z : Value) : Bool :=
  (match d with
    | .struct fs => fs.toList.all fun f => (P.info? f.type).isSome
    | _ => true) &&
  (match (descOf P d).isAgg, z with
    | true, .agg _ => true
    | true, _ => false
    | false, z => z.oneCell') &&
  decide (z.cells.size = i.size) && (z.cells.toList.map AV.v).all AV.isCell &&
  (match u with
    | some u => decide (u.size = i.size) && (match isZero N u (z.cells.toList.map AV.v) with
      | some [] => true
      | _ => false)
    | none => true)

/-- a type's row, off the program -/
def mkTy (P : Program) (N : Names) (t : TypeId) (u c : Option Ty) : Option TyI :=
  match P.underlying t, P.info? t with
  | some d, some i => match i.zero with
    | some z => match tyFits P N u d i z && (match c with | some v => decide (v.size = i.size) | none => true) with
      | true => some { desc := descOf P d, size := i.size, bytes := i.bytes, zero := z.cells.toList.map .v, ty := u, cty := c }
      | false => none
    | none => none
  | _, _ => none

theorem mkTy_ok {P : Program} {N : Names} {t : TypeId} {u cc : Option Ty} {ti : TyI} (h : mkTy P N t u cc = some ti) : ∃ d i z, TyOK P N t ti d i z := by
  unfold mkTy at h
  split at h
  · rename_i d i hd hi
    split at h
    · rename_i z hz
      split at h
      · rename_i hf
        injection h with h
        subst h
        simp only [tyFits, Bool.and_eq_true, decide_eq_true_eq] at hf
        obtain ⟨⟨⟨⟨⟨h1, h2⟩, h3⟩, h4⟩, h5⟩, h7⟩ := hf
        refine ⟨d, i, z, hd, rfl, ?_, hi, rfl, rfl, hz, rfl, ?_, ?_, ?_, h4, ?_, ?_⟩
        · intro fs hfs f hfm
          subst hfs
          simp only [List.all_eq_true] at h1
          exact h1 f hfm
        · intro ha
          simp only at ha
          rw [ha] at h2
          split at h2
          all_goals first | contradiction | exact ⟨_, rfl⟩ | (exact absurd h2 (by simp))
        · intro ha
          simp only at ha
          rw [ha] at h2
          split at h2
          all_goals first | contradiction | exact h2
        · simp [h3]
        · intro v hv
          simp only at hv
          subst hv
          simp only [Bool.and_eq_true, decide_eq_true_eq] at h5
          refine ⟨h5.1, ?_⟩
          have h6 := h5.2
          split at h6
          · rename_i hz
            exact isZero_sound N v hz
          · cases h6
        · intro v hv
          simp only at hv
          subst hv
          simpa using h7
      · cases h
    · cases h
  · cases h

def lookT (l : List (TypeId × TyI)) (t : TypeId) : Option TyI :=
  match l with
  | [] => none
  | x :: r => match Nat.beq x.1 t with
    | true => some x.2
    | false => lookT r t

theorem lookT_mem : ∀ {l : List (TypeId × TyI)} {t : TypeId} {ti : TyI}, lookT l t = some ti → (t, ti) ∈ l
  | [], _, _, h => by cases h
  | x :: r, t, ti, h => by
    simp only [lookT] at h
    split at h
    · rename_i hb
      injection h with h
      subst h
      rw [← Nat.eq_of_beq_eq_true hb]
      simp
    · exact List.mem_cons_of_mem _ (lookT_mem h)

/-- a function's row, off the program -/
def mkFn (P : Program) (fs : List FuncId) (f : FuncId) : Option FnI :=
  match fs.any (Nat.beq f) with
  | true => match P.funcs[f]? with
    | some fn => match fn.body with
      | some b => some { body := b, ntmps := fn.ntmps, results := fn.results.toList }
      | none => none
    | none => none
  | false => none

def lookG (l : List Nat) (g : Nat) : Option (List AV) := match l.any (Nat.beq g) with
  | true => some [.er (.s g)]
  | false => none

/-- the tables of a program -/
def mkEnv (P : Program) (N : Names) (tys : List (TypeId × TyI)) (fs : List FuncId) (gs : List Nat) : Env :=
  { toNames := N, ty := lookT tys, fn := mkFn P fs, glob := lookG gs }

theorem mkEnv_ok {P : Program} {N : Names} {tys : List (TypeId × TyI)} {fs : List FuncId} {gs : List Nat} (ht : ∀ x, x ∈ tys → mkTy P N x.1 x.2.ty x.2.cty = some x.2)
    (hf : ∀ f, f ∈ fs → ∀ fn, P.funcs[f]? = some fn → (fn.name == "runtime.NumGoroutine") = false) : EnvOK P (mkEnv P N tys fs gs) := by
  refine ⟨fun t ti h => ?_, fun f fi h => ?_, (fun f k h => by cases h), (fun f k h => by cases h), fun f => ⟨List.nodup_nil, fun k hk => (by cases hk)⟩⟩
  · exact mkTy_ok (ht _ (lookT_mem h))
  · simp only [mkEnv, mkFn] at h
    split at h
    · rename_i hm
      split at h
      · rename_i fn hfn
        split at h
        · rename_i b hb
          injection h with h
          subst h
          simp only [List.any_eq_true] at hm
          obtain ⟨g, hg, hb2⟩ := hm
          have := Nat.eq_of_beq_eq_true hb2
          subst this
          exact ⟨fn, hfn, hb, rfl, rfl, hf _ hg fn hfn⟩
        · cases h
      · cases h
    · cases h

/-- … with functions of the library without a body -/
def lookX : List (FuncId × ExtK) → FuncId → Option ExtK
  | [], _ => none
  | x :: r, f => match Nat.beq x.1 f with
    | true => some x.2
    | false => lookX r f
def mkEnvX (P : Program) (N : Names) (tys : List (TypeId × TyI)) (fs : List FuncId) (gs : List Nat) (xs : List (FuncId × ExtK)) : Env :=
  { mkEnv P N tys fs gs with ext := lookX xs }
inductive ExtsOK (P : Program) : List (FuncId × ExtK) → Prop
  | nil : ExtsOK P []
  | cons {x : FuncId × ExtK} {r : List (FuncId × ExtK)} : ExtOK P x.1 x.2 → ExtsOK P r → ExtsOK P (x :: r)
theorem lookX_ok {P : Program} : ∀ {xs : List (FuncId × ExtK)}, ExtsOK P xs → ∀ {f k}, lookX xs f = some k → ExtOK P f k
  | _, .nil, _, _, h => by cases h
  | _, .cons (x := x) hx hr, f, k, h => by
    simp only [lookX] at h
    split at h
    · rename_i hb
      have := Nat.eq_of_beq_eq_true hb
      subst this
      injection h with h
      subst h
      exact hx
    · exact lookX_ok hr h
theorem mkEnvX_ok {P : Program} {N : Names} {tys : List (TypeId × TyI)} {fs : List FuncId} {gs : List Nat} {xs : List (FuncId × ExtK)} (h : EnvOK P (mkEnv P N tys fs gs)) (hx : ExtsOK P xs) : EnvOK P (mkEnvX P N tys fs gs xs) :=
  ⟨h.ty, h.fn, fun _ _ e => lookX_ok hx e, h.lst, h.ks⟩

/-- … with objects: the kinds' rows; which types' variables are objects; whose objects functions see -/
def lookK : List (TypeId × Nat) → TypeId → Option Nat
  | [], _ => none
  | x :: r, t => match Nat.beq x.1 t with
    | true => some x.2
    | false => lookK r t
def lookS : List (FuncId × List Nat) → FuncId → List Nat
  | [], _ => []
  | x :: r, f => match Nat.beq x.1 f with
    | true => x.2
    | false => lookS r f
def kindOf (ks : List (List Cell)) (kts : List (TypeId × Nat)) (t : TypeId) : Option (Nat × List Cell) := match lookK kts t with
  | some k => some (k, ks.getD k [])
  | none => none
def lookL : List (FuncId × LstK) → FuncId → Option LstK
  | [], _ => none
  | x :: r, f => match Nat.beq x.1 f with
    | true => some x.2
    | false => lookL r f
inductive LstsOK (P : Program) : List (FuncId × LstK) → Prop
  | nil : LstsOK P []
  | cons {x : FuncId × LstK} {r : List (FuncId × LstK)} : (∃ fn, P.funcs[x.1]? = some fn ∧ fn.body.isNone = false ∧ (fn.name == "runtime.NumGoroutine") = false) → LstOK P x.1 x.2 → LstsOK P r → LstsOK P (x :: r)
theorem lookL_ok {P : Program} : ∀ {xs : List (FuncId × LstK)}, LstsOK P xs → ∀ {f k}, lookL xs f = some k → (∃ fn, P.funcs[f]? = some fn ∧ fn.body.isNone = false ∧ (fn.name == "runtime.NumGoroutine") = false) ∧ LstOK P f k
  | _, .nil, _, _, h => by cases h
  | _, .cons (x := x) hf hx hr, f, k, h => by
    simp only [lookL] at h
    split at h
    · rename_i hb
      have := Nat.eq_of_beq_eq_true hb
      subst this
      injection h with h
      subst h
      exact ⟨hf, hx⟩
    · exact lookL_ok hr h
def mkEnvK (P : Program) (N : Names) (tys : List (TypeId × TyI)) (fs : List FuncId) (gs : List Nat) (xs : List (FuncId × ExtK)) (kinds : List (List Cell)) (kts : List (TypeId × Nat)) (kss : List (FuncId × List Nat)) (ls : List (FuncId × LstK)) : Env :=
  { mkEnvX P N tys fs gs xs with kind := kindOf kinds kts, kinds := kinds, ks := lookS kss, lst := lookL ls }
def kssOK (n : Nat) : List (FuncId × List Nat) → Bool
  | [] => true
  | x :: r => nodupN x.2 && x.2.all (fun k => Nat.blt k n) && kssOK n r
theorem nodupN_iff : ∀ {l : List Nat}, nodupN l = true → l.Nodup
  | [], _ => List.nodup_nil
  | x :: r, h => by
    simp only [nodupN, Bool.and_eq_true, Bool.not_eq_true'] at h
    rw [List.nodup_cons]
    refine ⟨fun hm => ?_, nodupN_iff h.2⟩
    rw [any_beq.2 hm] at h
    cases h.1
theorem lookS_ok {n : Nat} : ∀ {kss : List (FuncId × List Nat)}, kssOK n kss = true → ∀ f, (lookS kss f).Nodup ∧ ∀ k, k ∈ lookS kss f → k < n
  | [], _, f => ⟨List.nodup_nil, fun k hk => by cases hk⟩
  | x :: r, h, f => by
    simp only [kssOK, Bool.and_eq_true, List.all_eq_true] at h
    obtain ⟨⟨h1, h2⟩, h3⟩ := h
    simp only [lookS]
    split
    · exact ⟨nodupN_iff h1, fun k hk => Nat.le_of_ble_eq_true (h2 k hk)⟩
    · exact lookS_ok h3 f
theorem mkEnvK_ok {P : Program} {N : Names} {tys : List (TypeId × TyI)} {fs : List FuncId} {gs : List Nat} {xs : List (FuncId × ExtK)} {kinds : List (List Cell)} {kts : List (TypeId × Nat)} {kss : List (FuncId × List Nat)} {ls : List (FuncId × LstK)}
    (h : EnvOK P (mkEnvX P N tys fs gs xs)) (hk : kssOK kinds.length kss = true) (hl : LstsOK P ls) : EnvOK P (mkEnvK P N tys fs gs xs kinds kts kss ls) :=
  ⟨h.ty, h.fn, h.ext, fun _ _ e => lookL_ok hl e, lookS_ok hk⟩

theorem mkEnv_glob {P : Program} {N : Names} {tys : List (TypeId × TyI)} {fs : List FuncId} {gs : List Nat} {g : Nat} {row : List AV} (h : (mkEnv P N tys fs gs).glob g = some row) : row = [.er (.s g)] ∧ g ∈ gs := by
  simp only [mkEnv, lookG] at h
  split at h
  · rename_i hm
    injection h with h
    simp only [List.any_eq_true] at hm
    obtain ⟨g', hg, hb⟩ := hm
    rw [Nat.eq_of_beq_eq_true hb]
    exact ⟨by rw [← h, Nat.eq_of_beq_eq_true hb], hg⟩
  · cases h

theorem mkEnvK_glob {P : Program} {N : Names} {tys : List (TypeId × TyI)} {fs : List FuncId} {gs : List Nat} {xs : List (FuncId × ExtK)} {kinds : List (List Cell)} {kts : List (TypeId × Nat)} {kss : List (FuncId × List Nat)} {ls : List (FuncId × LstK)} {g : Nat} {row : List AV} (h : (mkEnvK P N tys fs gs xs kinds kts kss ls).glob g = some row) : row = [.er (.s g)] ∧ g ∈ gs := mkEnv_glob (P := P) (N := N) (tys := tys) (fs := fs) h

theorem mkEnvX_glob {P : Program} {N : Names} {tys : List (TypeId × TyI)} {fs : List FuncId} {gs : List Nat} {xs : List (FuncId × ExtK)} {g : Nat} {row : List AV} (h : (mkEnvX P N tys fs gs xs).glob g = some row) : row = [.er (.s g)] ∧ g ∈ gs := mkEnv_glob (P := P) (N := N) (tys := tys) (fs := fs) h

end Go.Eng
