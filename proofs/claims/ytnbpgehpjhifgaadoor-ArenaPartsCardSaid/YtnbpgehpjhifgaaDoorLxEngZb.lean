/-
  The abstract machine, part 27: tables of what is known, put together.
-/
import Derived.Test.YtnbpgehpjhifgaaDoorLxEngZa
namespace Go.Eng

/-! numbers cut to their kinds -/
abbrev wi8 (n : Int) : Int := IntKind.wrap .i8 n
abbrev wi16 (n : Int) : Int := IntKind.wrap .i16 n
abbrev wi32 (n : Int) : Int := IntKind.wrap .i32 n
abbrev wi64 (n : Int) : Int := IntKind.wrap .i64 n
abbrev wu8 (n : Int) : Int := IntKind.wrap .u8 n
abbrev wu16 (n : Int) : Int := IntKind.wrap .u16 n
abbrev wu32 (n : Int) : Int := IntKind.wrap .u32 n
abbrev wu64 (n : Int) : Int := IntKind.wrap .u64 n

section
variable {P : Program} {E : Env} {S : Ini}

theorem CallsOK.nil : CallsOK P E S [] := fun c h => by cases h
theorem CallsOK.cons {c : CallSpec E} {cs : List (CallSpec E)} (h : ∀ x y, c.g x = some y → FCon P E S c.f c.ps c.rs x y) (hs : CallsOK P E S cs) : CallsOK P E S (c :: cs) := by
  intro d hd
  rcases List.mem_cons.1 hd with rfl | hd
  · exact h
  · exact hs d hd

theorem LoopsOK.nil {tk : List Nat} {all : List Code} : LoopsOK P E S tk all [] := fun c h => by cases h
theorem LoopsOK.cons {tk : List Nat} {all : List Code} {l : LoopSpec E tk} {ls : List (LoopSpec E tk)} {body : Code} (hb : all[l.i]? = some body) (h : ∀ x y, l.g x = some y → LoopCon P E S body (encSlots E tk l.head x) (encEx E tk l.ex y).1 (encEx E tk l.ex y).2) (hs : LoopsOK P E S tk all ls) : LoopsOK P E S tk all (l :: ls) := by
  intro d hd
  rcases List.mem_cons.1 hd with rfl | hd
  · intro c hc
    rw [hb] at hc
    injection hc with hc
    subst hc
    exact h
  · exact hs d hd

/-- A FUNCTION OF ONE SLICE that asks whether that is nil -/
theorem nil_spec (hE : EnvOK P E) (hm : P.follows .mixedOrders = true) {f : FuncId} {fi : FnI} (hf : E.fn f = some fi) (hok : codeOK fi.body = true) {t : Ty} {l : List (Val t)} {T : Val (tabsTy E.kinds (E.ks f))} {rs : List Slot} {y : StV E (E.ks f) rs}
    (h1 : funJKA E (E.ks f) [] [] [] fi [.nsl t l] (encTabs E.kinds (E.ks f) T) rs = some y) (h2 : l = [] → funJKA E (E.ks f) [] [] [] fi [.v (.slice none 0 0)] (encTabs E.kinds (E.ks f) T) rs = some y) : FCon P E S f [.sl t] rs (T, (l, ())) y := by
  have hcs : CallsOK P E S [] := CallsOK.nil
  have hls : LoopsOK P E S (E.ks f) (loopsOf fi.body) [] := LoopsOK.nil
  intro b0 w I L Rt B vs hW hb0 hs
  have hargs := hs.env
  simp only [encL, RepL] at hargs
  obtain ⟨v, tl, hvs, hv, rfl⟩ := hargs
  have hv' : RepT (rcW (statOf E S) I L w) (.sl t) l [v] := hv
  obtain ⟨ad, cap, hsl, hcap, hrow, hz⟩ := hv'
  simp only [List.cons.injEq, and_true] at hsl
  cases ad with
  | none =>
    have hc := hz rfl
    have hl : l = [] := by
      refine List.length_eq_zero_iff.1 ?_
      omega
    refine fun_specA hE hm hcs hf hls hok (h2 hl) b0 w I L Rt B vs hW hb0 (hs.args ?_)
    simp only [Ctx.rc]
    rw [hvs]
    simp only [RepL, Rep]
    exact ⟨v, [], rfl, by rw [hsl, hc, hl]; rfl, rfl⟩
  | some a =>
    refine fun_specA hE hm hcs hf hls hok h1 b0 w I L Rt B vs hW hb0 (hs.args ?_)
    simp only [Ctx.rc]
    rw [hvs]
    simp only [RepL, Rep]
    exact ⟨v, [], rfl, ⟨hv, a, _, cap, hsl⟩, rfl⟩

def TysOK (P : Program) (N : Names) : List (TypeId × TyI) → Prop
  | [] => True
  | x :: r => mkTy P N x.1 x.2.ty x.2.cty = some x.2 ∧ TysOK P N r

theorem TysOK.mem {P : Program} {N : Names} : ∀ {l : List (TypeId × TyI)}, TysOK P N l → ∀ x, x ∈ l → mkTy P N x.1 x.2.ty x.2.cty = some x.2
  | [], _, _, h => by cases h
  | y :: r, h, x, hx => by
    rcases List.mem_cons.1 hx with rfl | hx
    · exact h.1
    · exact TysOK.mem h.2 x hx

def fnsOK (P : Program) (l : List Nat) : Bool := l.all fun f => match P.funcs[f]? with
  | some fn => !(fn.name == "runtime.NumGoroutine")
  | none => true

theorem fnsOK.mem {P : Program} {l : List Nat} (h : fnsOK P l = true) : ∀ f, f ∈ l → ∀ fn, P.funcs[f]? = some fn → (fn.name == "runtime.NumGoroutine") = false := by
  intro f hf fn hfn
  simp only [fnsOK, List.all_eq_true] at h
  have := h f hf
  rw [hfn] at this
  simpa using this

theorem inner_of {all : List Code} {body : Code} {i : Nat} (h : (all.drop (i + 1)).take (loopsOf body).length = loopsOf body) : ∀ j d, (loopsOf body)[j]? = some d → all[i + 1 + j]? = some d := by
  intro j d hd
  have hlt : j < (loopsOf body).length := (List.getElem?_eq_some_iff.1 hd).1
  rw [← h, List.getElem?_take_of_lt hlt, List.getElem?_drop] at hd
  exact hd

end
end Go.Eng
