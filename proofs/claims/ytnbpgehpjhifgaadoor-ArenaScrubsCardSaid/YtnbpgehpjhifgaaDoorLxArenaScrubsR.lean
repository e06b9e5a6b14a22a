/-
  The statement ArenaScrubsCardSaid is proved: the law returns true for every input, and each argument reads afterwards as it read before. Conditions: those of the given row, its listed variables tied to the program's text by the given tie.
-/
import Derived.Test.YtnbpgehpjhifgaaDoorLxPh
import Derived.Test.YtnbpgehpjhifgaaDoorTie
import Derived.Test.YtnbpgehpjhifgaaDoorCards
import Derived.ChangeSame
import Derived.ChangeVars
import Derived.JoinedOf
import Derived.RowKit
import Derived.Below
import Derived.LaidLaws
import Derived.SevenTiedAt
namespace Go.Proofs.YtnbpgehpjhifgaaDoor.Lx
open Go Go.Eng Go.Proofs Go.ChangeShapes Go.WideShapes Go.RowKit

theorem r_own : ownKnob Tryd.prog.godebug = none := by kernel_rfl
theorem r_laidOut : laidOutB Tryd.prog = true := by kernel_rfl
theorem r_func : Tryd.prog.funcs[6]? = some Tryd.f6 := by kernel_rfl
theorem r_params : Tryd.f6.params.toList = [3, 3, 45] := by kernel_rfl
theorem r_bool : Tryd.prog.underlying 4 = some .bool := by kernel_rfl
theorem r_star : "*" ++ "errors.errorString" = "*errors.errorString" := by decide
theorem r_row (u : TypeId) (h : Tryd.prog.typeName? 3 u = some "*errors.errorString") : u = 101 :=
  typeName_ptr_named (nm := "errors.errorString") (by rw [r_star]; kernel_rfl) (by kernel_rfl) (by decide) u (by rw [r_star]; exact h)

theorem r_if : ∃ ms, Tryd.prog.underlying 26 = some (.interface ms) := by
  have h : (Tryd.prog.underlying 26).map (fun d => match d with | .interface _ => true | _ => false) = some true := by kernel_rfl
  obtain ⟨d, hd, h2⟩ := Option.map_eq_some_iff.1 h
  cases d <;> first | exact ⟨_, hd⟩ | cases h2
theorem r_errs : ErrsOK Tryd.prog "*errors.errorString" 26 101 119 9 :=
  ⟨r_if, r_row, by kernel_rfl, ⟨{ name := "s", type := 9, offset := 0, embedded := false, tag := "", pkgPath := "errors", byteOffset := 0 }, by kernel_rfl, rfl, rfl⟩, by kernel_rfl, by kernel_rfl, by kernel_rfl,
    by
      obtain ⟨i, hi, hc⟩ := Option.map_eq_some_iff.1 (show (Tryd.prog.info? 101).map (·.comparable) = some true by kernel_rfl)
      obtain ⟨j, hj, hs⟩ := Option.map_eq_some_iff.1 (show (Tryd.prog.info? 119).map (fun j => Nat.beq j.size 0) = some false by kernel_rfl)
      exact ⟨i, j, hi, hc, hj, fun h => by rw [h] at hs; cases hs⟩⟩

/-- the program's errors: their names, texts and places -/
def r_ns : List (String × List UInt8 × Nat) := [("lodge/api.ErrRange", [97, 32, 110, 117, 109, 98, 101, 114, 32, 111, 117, 116, 32, 111, 102, 32, 105, 116, 115, 32, 114, 97, 110, 103, 101], 0), ("lodge/api.ErrRoom", [116, 104, 101, 114, 101, 32, 105, 115, 32, 110, 111, 32, 114, 111, 111, 109], 1), ("lodge/api.ErrNone", [116, 104, 101, 114, 101, 32, 105, 115, 32, 110, 111, 110, 101], 2)]
theorem r_laid : Rows.arenaScrubsRow.laid = laidOf "*errors.errorString" r_ns := rfl
theorem r_globs : ∀ x, x ∈ r_ns → Tryd.prog.globalNamed x.1 = some x.2.2 ∧ (Tryd.prog.globals[x.2.2]?).map (·.type) = some 26 := by
  intro x hx
  simp only [r_ns, List.mem_cons, List.not_mem_nil, or_false] at hx
  rcases hx with rfl | rfl | rfl <;> exact ⟨by kernel_rfl, by kernel_rfl⟩
theorem r_glob : ∀ g row, E.glob g = some row → row = [.er (.s g)] ∧ ∃ x, x ∈ r_ns ∧ x.2.2 = g := by
  intro g row h
  obtain ⟨h1, h2⟩ : row = [.er (.s g)] ∧ g ∈ gbs := mkEnvK_glob h
  refine ⟨h1, ?_⟩
  simp only [gbs, List.mem_cons, List.not_mem_nil, or_false] at h2
  rcases h2 with rfl | rfl | rfl <;> simp [r_ns]

noncomputable def r_low : Nat := (World.holding Tryd.prog default ⟨#[], #[], []⟩).heap.size
def r_texts : List (List UInt8 × Nat) := r_ns.map (·.2)
/-- a world where the program's errors are laid -/
noncomputable def r_world (os : Os) : World :=
  let w0 := World.holding Tryd.prog os ⟨(r_texts.map fun x => Obj.cells #[.string ⟨x.1.toArray⟩] 119).toArray, #[], []⟩
  { w0 with heap := (r_texts.zipIdx.foldl (fun (h : Array Obj) x => h.modify x.1.2 fun
      | .cells _ t frozen => .cells #[.iface 101 (.pointer (some ⟨r_low + x.2, 0, none⟩))] t frozen
      | o => o) w0.heap) }
theorem r_met (os : Os) (args : Array Value) : laidMetH Tryd.prog Rows.arenaScrubsRow.laid ((r_world os).forCall (fun _ _ => 0) ⟨#[], args, []⟩).memory :=
  laidMet_of_run' 8 (by kernel_rfl) (by kernel_rfl)

theorem cons_of {α : Type _} {l : List α} {n : Nat} (h : l.length = n + 1) : ∃ x r, l = x :: r ∧ r.length = n := by
  cases l with
  | nil => cases h
  | cons x r => exact ⟨x, r, rfl, by simpa using h⟩

theorem trodAll_len {H : Type} {enc : TypeId × Value → H} {P : Program} {w : World} {base : Nat} {spare : Nat → Bool} {held : Bool} : ∀ {ts : List TypeId} {vs : List Value} {ds : List (DataW H)} {ps : List MemPlace}, DataW.TrodAll enc P w base spare held ts vs ds ps → ds.length = ts.length
  | [], vs, ds, ps, h => by obtain ⟨rfl, rfl, rfl⟩ := trodAll_nil h; rfl
  | t :: ts, vs, ds, ps, h => by
    obtain ⟨v, vs', d, ds', p, q, rfl, rfl, rfl, h1, h2⟩ := trodAll_cons h
    simp [trodAll_len h2]

theorem r_yld (x : Val (rowTy ps_lodgelaw13_ArenaScrubs)) (hfit : FitsL ps_lodgelaw13_ArenaScrubs x) : Yld ((c_lodgelaw13_ArenaScrubs 100000).g (noT E.kinds (E.ks 6), x)) (fun y => y.2.1 = true) :=
  Eq.mp (by kernel_rfl) (arenaScrubs_row x hfit)
theorem r_con {S : Ini} (x : Val (rowTy ps_lodgelaw13_ArenaScrubs)) (y : StV E (E.ks 6) rs_lodgelaw13_ArenaScrubs) (hyt : y.2.1 = true) (hF : Con Tryd.prog E S 6 (encL ps_lodgelaw13_ArenaScrubs x) (encTabs E.kinds (E.ks 6) (noT E.kinds (E.ks 6))) E.kinds.length (packA (encEnv rs_lodgelaw13_ArenaScrubs E.kinds.length y.2)) (encTabs E.kinds (E.ks 6) y.1) (encHeap rs_lodgelaw13_ArenaScrubs E.kinds.length y.2)) :
    Con Tryd.prog E S 6 (encL ps_lodgelaw13_ArenaScrubs x) (encTabs E.kinds (E.ks 6) (noT E.kinds (E.ks 6))) E.kinds.length (.v (.bool true)) (encTabs E.kinds (E.ks 6) y.1) [] := by
  have h : packA (encEnv rs_lodgelaw13_ArenaScrubs E.kinds.length y.2) = .v (.bool y.2.1) := by kernel_rfl
  have h2 : encHeap rs_lodgelaw13_ArenaScrubs E.kinds.length y.2 = [] := by kernel_rfl
  rw [h, h2, hyt] at hF
  exact hF

set_option maxRecDepth 100000 in
theorem r_lifted (os : Os) (started : os.Started) (H : Type) (enc : TypeId × Value → H) :
    ReturnsInHanded {} Tryd.checked os 6 .any (fun w args => (Rows.arenaScrubsSpec.pre enc Tryd.prog Tryd.f6 [] false w args ∧ laidMetH Tryd.prog Rows.arenaScrubsRow.laid w) ∧ sizedMet enc Tryd.prog Tryd.f6 (OpenSpec.ofChange Rows.arenaScrubsSpec) false w args)
      (Rows.arenaScrubsSpec.post enc Tryd.prog Tryd.f6 false true false false) := by
  refine returnsInHanded_of_change_and (C := Tryd.checked) (X := fun w _ => laidMetH Tryd.prog Rows.arenaScrubsRow.laid w) (fun _ _ _ hh h => h.of_heap hh) r_own started (by kernel_rfl) r_func
    (ChangeSpec.witness_at (enc := enc) (C := Tryd.checked) (os := os) (X := fun w _ => laidMetH Tryd.prog Rows.arenaScrubsRow.laid w) false (r_world os) #[.int .i64 0, .int .i64 0, .slice none 0 0] 8 rfl (by kernel_rfl) (by kernel_rfl) (by kernel_rfl) (by kernel_rfl) (by kernel_rfl) (r_met os _)) ?_
  intro W base args ds gs before hval0 hW _ _ hL _
  have hval : ∀ (j : Nat) t v, Tryd.f6.params[j]? = some t → args[j]? = some v → Value.okWide Tryd.prog W .any base t v := hval0
  have hW' := hW
  obtain ⟨p, q, hA0, hV0, rfl, hfz, hnd⟩ := hW
  have hA : DataW.TrodAll enc Tryd.prog W 0 (fun _ => true) true Tryd.f6.params.toList args.toList ds p := hA0
  have hV : DataW.TrodVars enc Tryd.prog W (fun _ => true) [] gs q := hV0
  have hL' : laidMet Tryd.prog (laidOf "*errors.errorString" r_ns) W := by
    have h0 : laidMetH Tryd.prog Rows.arenaScrubsRow.laid W := hL
    rw [r_laid] at h0
    exact h0
  obtain ⟨x, hx, hfit⟩ := args_rep (T := statOf E (iniOf W)) (us := ps_lodgelaw13_ArenaScrubs) (by kernel_rfl) (fun j t v ht hv => hval j t v (by rw [← Array.getElem?_toList]; exact ht) (by rw [← Array.getElem?_toList]; exact hv)) hA
  have hwok : WOK Tryd.prog E (iniOf W) W := laid_wok r_errs r_globs r_glob rfl (by decide) hL'
  obtain ⟨y, hy, hyt⟩ : Yld ((c_lodgelaw13_ArenaScrubs 100000).g (noT E.kinds (E.ks 6), x)) (fun y => y.2.1 = true) := r_yld x hfit
  have hcon : Con Tryd.prog E (iniOf W) 6 (encL ps_lodgelaw13_ArenaScrubs x) (encTabs E.kinds (E.ks 6) (noT E.kinds (E.ks 6))) E.kinds.length (.v (.bool true)) (encTabs E.kinds (E.ks 6) y.1) [] := r_con x y hyt (F_lodgelaw13_ArenaScrubs_ok (iniOf W) 100000 (noT E.kinds (E.ks 6), x) y hy E.kinds.length)
  have hcall := law_call hwok hx hcon
  obtain ⟨rfl, rfl⟩ : gs = [] ∧ q = [] := by
    cases gs with
    | nil => exact ⟨rfl, hV⟩
    | cons g r => exact absurd hV (by intro h; cases h)
  have hlen : ds.length = 3 := trodAll_len hA
  obtain ⟨d1, r1, rfl, h1⟩ := cons_of hlen
  obtain ⟨d2, r2, rfl, h2⟩ := cons_of h1
  obtain ⟨d3, r3, rfl, h3⟩ := cons_of h2
  obtain rfl := List.length_eq_zero_iff.1 h3
  refine hcall.mono fun e W' he => ?_
  obtain ⟨rfl, hb⟩ := he
  have hlt : ∀ x, x ∈ p → x.block < W.heap.size := fun x hx => hW'.lt x (List.mem_append_left _ hx)
  have e1 : Rows.arenaScrubsSpec.fn H ([d1, d2, d3] ++ []) = { results := [.lit (.bool true)], args := [d1, d2, d3] } := by simp [Rows.arenaScrubsSpec]
  refine ⟨_, rfl, [d1, d2, d3], [], p ++ [], [], p, [], hW', ?_, ?_, ?_, hb.frame _, fun h => by cases h⟩
  · rw [e1]; exact trodAll_mk1 (RowKit.shut_bool r_bool true)
  · rw [e1]; exact trodAll_below r_laidOut hb (by rw [r_params]; intro t ht; simp only [List.mem_cons, List.not_mem_nil, or_false] at ht; rcases ht with rfl | rfl | rfl <;> exact ⟨by kernel_rfl, of_decide_eq_true (by kernel_rfl)⟩) hlt hA
  · rw [e1]; rfl

theorem r_holds : Rows.ArenaScrubsSaid :=
  OpenClaim.holds_of_wide 6 Tryd.f6 rfl rfl rfl rfl rfl rfl rfl ⟨rfl, rfl, rfl, rfl, rfl⟩ rfl rfl rfl rfl rfl (by kernel_rfl) r_func (by kernel_rfl)
    (of_decide_eq_true (by kernel_rfl)) (by unfold Func.isWrapper; rw [if_neg (of_decide_eq_false (by kernel_rfl))]; exact ⟨rfl, rfl⟩)
    (fun os started H enc _ => r_lifted os started H enc)

end Go.Proofs.YtnbpgehpjhifgaaDoor.Lx
namespace Go.Proofs.YtnbpgehpjhifgaaDoor
open Go Go.Proofs

/-- THE CARD -/
theorem arenaScrubs_card_holds : Rows.ArenaScrubsCardSaid :=
  Claim7.holds_tied_plain_at .later [] [.sentinel, .sentinel, .sentinel] true (true, "f9e2a0bc42adbc68acf1651d5d7e76f1f903f7323bb19f41f0bdda912119048a") true
    Lx.r_holds (fun _ h => by cases h) (by kernel_rfl) (fun _ h => by cases h) arenaScrubs_row_tie rfl ⟨rfl, rfl⟩ (by kernel_rfl) rfl
    (fun f fn hf hfn => by
      obtain rfl : f = 6 := Option.some.inj ((show Tryd.prog.funcNamed "lodge/lodgelaw13.ArenaScrubs" = some 6 by kernel_rfl).symm.trans hf) |>.symm
      obtain rfl : fn = Tryd.f6 := (Option.some.inj (Lx.r_func.symm.trans hfn)).symm
      exact ⟨by kernel_rfl, fun j t ht => by
        have hm : t ∈ Tryd.f6.params.toList := by
          rw [← Array.getElem?_toList] at ht
          exact List.mem_of_getElem? ht
        rw [Lx.r_params] at hm
        simp only [List.mem_cons, List.not_mem_nil, or_false] at hm
        rcases hm with rfl | rfl | rfl
        · exact (show Tryd.prog.wantsStandIn 3 = false by kernel_rfl)
        · exact (show Tryd.prog.wantsStandIn 3 = false by kernel_rfl)
        · exact (show Tryd.prog.wantsStandIn 45 = false by kernel_rfl)⟩)
    (by kernel_rfl)
#print axioms arenaScrubs_card_holds
end Go.Proofs.YtnbpgehpjhifgaaDoor
