/-
  The abstract machine, part 27: tables of what is known, put together.
-/
import Derived.Test.YtohkmbpdjigjdaaDoorLgEngZa
namespace Go.Eng

/-! numbers cut to their kinds -/
abbrev wi8 (n : Int) : Int := IntKind.wrap .i8 n
abbrev wi16 (n : Int) : Int := IntKind.wrap .i16 n
abbrev wi32 (n : Int) : Int := IntKind.wrap .i32 n
abbrev wi64 (n : Int) : Int := IntKind.wrap .i64 n
abbrev wu8 (n : Int) : Int := IntKind.wrap .u8 n
abbrev wu16 (n : Int) : Int := IntKind.wrap .u16 n
abbrev wu32 (n : Int) : Int := IntKind.wrap .u32 n
abbrev wu64 (n : Int) : Int := IntKind.wrap .u64 n

section
variable {P : Program} {E : Env} {S : Nat → Addr}

theorem CallsOK.nil : CallsOK P E S [] := fun c h => by cases h
theorem CallsOK.cons {c : CallSpec} {cs : List CallSpec} (h : ∀ x y, c.g x = some y → FCon P E S c.f c.ps c.rs x y) (hs : CallsOK P E S cs) : CallsOK P E S (c :: cs) := by
  intro d hd
  rcases List.mem_cons.1 hd with rfl | hd
  · exact h
  · exact hs d hd

theorem LoopsOK.nil {all : List Code} : LoopsOK P E S all [] := fun c h => by cases h
theorem LoopsOK.cons {all : List Code} {l : LoopSpec} {ls : List LoopSpec} {body : Code} (hb : all[l.i]? = some body) (h : ∀ x y, l.g x = some y → LoopCon P E S body (encSlots l.head x) (encEx l.ex y).1 (encEx l.ex y).2) (hs : LoopsOK P E S all ls) : LoopsOK P E S all (l :: ls) := by
  intro d hd
  rcases List.mem_cons.1 hd with rfl | hd
  · intro c hc
    rw [hb] at hc
    injection hc with hc
    subst hc
    exact h
  · exact hs d hd

def TysOK (P : Program) (N : Names) : List (TypeId × TyI) → Prop
  | [] => True
  | x :: r => mkTy P N x.1 x.2.ty x.2.cty = some x.2 ∧ TysOK P N r

theorem TysOK.mem {P : Program} {N : Names} : ∀ {l : List (TypeId × TyI)}, TysOK P N l → ∀ x, x ∈ l → mkTy P N x.1 x.2.ty x.2.cty = some x.2
  | [], _, _, h => by cases h
  | y :: r, h, x, hx => by
    rcases List.mem_cons.1 hx with rfl | hx
    · exact h.1
    · exact TysOK.mem h.2 x hx

def fnsOK (P : Program) (l : List Nat) : Bool := l.all fun f => match P.funcs[f]? with
  | some fn => !(fn.name == "runtime.NumGoroutine")
  | none => true

theorem fnsOK.mem {P : Program} {l : List Nat} (h : fnsOK P l = true) : ∀ f, f ∈ l → ∀ fn, P.funcs[f]? = some fn → (fn.name == "runtime.NumGoroutine") = false := by
  intro f hf fn hfn
  simp only [fnsOK, List.all_eq_true] at h
  have := h f hf
  rw [hfn] at this
  simpa using this

theorem inner_of {all : List Code} {body : Code} {i : Nat} (h : (all.drop (i + 1)).take (loopsOf body).length = loopsOf body) : ∀ j d, (loopsOf body)[j]? = some d → all[i + 1 + j]? = some d := by
  intro j d hd
  have hlt : j < (loopsOf body).length := (List.getElem?_eq_some_iff.1 hd).1
  rw [← h, List.getElem?_take_of_lt hlt, List.getElem?_drop] at hd
  exact hd

end
end Go.Eng
