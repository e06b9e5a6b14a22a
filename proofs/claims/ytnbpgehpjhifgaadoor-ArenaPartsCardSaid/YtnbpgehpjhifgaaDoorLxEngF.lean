/-
  The abstract machine, part 6: operations that make a value alone.
-/
import Derived.Test.YtnbpgehpjhifgaaDoorLxEngE
import Derived.Laws.AppendOwn
import Derived.Laws.Rows
import Derived.Laws.Small
namespace Go.Eng

def descOf (P : Program) : TypeDesc → TD
  | .bool => .bool
  | .string => .str
  | .interface _ => .iface
  | .int k => .int k
  | .float k => .float k
  | .pointer e => .ptr e
  | .slice e => .slice e
  | .array n e => .arr n e
  | .struct fs => .struct (fs.toList.map fun f => (f.type, f.offset, P.cellsOf f.type))
  | _ => .other

/-- a type's row of the table is the program's -/
structure TyOK (P : Program) (N : Names) (t : TypeId) (ti : TyI) (d : TypeDesc) (i : TypeInfo) (z : Value) : Prop where
  u : P.underlying t = some d
  desc : descOf P d = ti.desc
  flds : ∀ fs, d = .struct fs → ∀ f, f ∈ fs.toList → (P.info? f.type).isSome = true
  info : P.info? t = some i
  size : i.size = ti.size
  bytes : i.bytes = ti.bytes
  zero : i.zero = some z
  cells : z.cells.toList.map AV.v = ti.zero
  agg : ti.desc.isAgg = true → ∃ cs, z = .agg cs
  one : ti.desc.isAgg = false → z.oneCell' = true
  len : ti.zero.length = ti.size
  atoms : ti.zero.all AV.isCell = true
  ty : ∀ u, ti.ty = some u → u.size = ti.size ∧ decT N u ti.zero = some (dfl u, [])
  cty : ∀ u, ti.cty = some u → u.size = ti.size

/-- the model's row for it -/
def ExtK.row : ExtK → Array Value → Sem Value
  | .bits => Extern.MathFloatBits.float64bits
  | .frombits => Extern.MathFloatBits.float64frombits
  | .even => Extern.MathFloor.toIntegral "math.RoundToEven" .even

def ExtOK (P : Program) (f : FuncId) (k : ExtK) : Prop := ∃ fn, P.funcs[f]? = some fn ∧ (fn.name == "runtime.NumGoroutine") = false ∧ fn.body.isNone = true ∧ Extern.findNext fn = none ∧ Extern.find fn = some k.row

/-- a slice's cells, where it has room -/
def RowAt (w : World) (sz n : Nat) (ad : Option Addr) (cap : Nat) (F : List Value) : Prop := n ≤ cap ∧ F.length = n * sz ∧ (∀ v, v ∈ F → v.oneCell' = true) ∧
  (cap = 0 ∨ ∃ b off cs T, ad = some ⟨b, off, none⟩ ∧ w.heap[b]? = some (.cells cs T (0, 0)) ∧ off + cap * sz ≤ cs.size ∧ ∀ (j : Nat) v, F[j]? = some v → cs[off + j]? = some v)

/-- … and those that a function has made of them, in place or elsewhere -/
def RowPost (w w' : World) (sz m : Nat) (ad : Option Addr) (cap : Nat) (v : Value) (F : List Value) : Prop := IO w w' ∧ F.length = m * sz ∧ ∃ cap', m ≤ cap' ∧
  ((∃ b off cs cs' T, ad = some ⟨b, off, none⟩ ∧ w.heap[b]? = some (.cells cs T (0, 0)) ∧ v = .slice ad m cap' ∧ cap' ≤ cap ∧ 0 < cap ∧ w'.heap.size = w.heap.size ∧ w'.heap[b]? = some (.cells cs' T (0, 0)) ∧ cs'.size = cs.size ∧
      (∀ b', b' ≠ b → w'.heap[b']? = w.heap[b']?) ∧ ∀ (j : Nat) x, F[j]? = some x → cs'[off + j]? = some x) ∨
    ∃ cs' T', w'.heap = w.heap.push (.cells cs' T' (0, 0)) ∧ v = .slice (some ⟨w.heap.size, 0, none⟩) m cap' ∧ cap' * sz ≤ cs'.size ∧ ∀ (j : Nat) x, F[j]? = some x → cs'[j]? = some x)

/-- a pointer to a variable, or none -/
def PtrAt (w : World) (v : Value) : Prop := v = .pointer none ∨ ∃ b cs T, v = .pointer (some ⟨b, 0, none⟩) ∧ w.heap[b]? = some (.cells cs T (0, 0))
def ptrEq : Value → Value → Bool
  | .pointer none, .pointer none => true
  | .pointer (some a), .pointer (some b) => Nat.beq a.block b.block
  | _, _ => false

/-- WHAT SUCH A FUNCTION DOES -/
def LstOK (P : Program) (f : FuncId) : LstK → Prop
  | .ins sz wd => ∀ (w : World) (n : Nat) (ad : Option Addr) (cap : Nat) (F : List Value) (i m : Nat) (ay : Option Addr) (capy : Nat) (G : List Value), RowAt w sz n ad cap F → RowAt w sz m ay capy G →
      (∀ b off b' off', ad = some ⟨b, off, none⟩ → ay = some ⟨b', off', none⟩ → 0 < cap → b ≠ b') → 0 < m → i ≤ n → (n + m) * (wd + 1) ≤ 1099511627776 →
      Calls P f #[.slice ad n cap, .int .i64 i, .slice ay m capy] w fun e w' => ∃ v, e = .returned v ∧ RowPost w w' sz (n + m) ad cap v (F.take (i * sz) ++ G ++ F.drop (i * sz))
  | .del sz => ∀ (w : World) (n : Nat) (ad : Option Addr) (cap : Nat) (F : List Value) (i j : Nat), RowAt w sz n ad cap F → 0 < n → i ≤ j → j ≤ n →
      Calls P f #[.slice ad n cap, .int .i64 i, .int .i64 j] w fun e w' => ∃ v, e = .returned v ∧ RowPost w w' sz (n - (j - i)) ad cap v (F.take (i * sz) ++ F.drop (j * sz))
  | .fil g _ => ∀ (w : World) (n : Nat) (ad : Option Addr) (cap : Nat) (F : List Value) (bb : Nat) (csb : Array Value) (Tb : TypeId) (xv : Value), RowAt w 1 n ad cap F → 0 < n → n ≤ 1099511627776 → (∀ v, v ∈ F → PtrAt w v) → PtrAt w xv →
      w.heap[bb]? = some (.cells csb Tb (0, 0)) → csb[0]? = some xv → (∀ b off, ad = some ⟨b, off, none⟩ → 0 < cap → b ≠ bb ∧ ∀ v, v ∈ F ∨ v = xv → v ≠ .pointer (some ⟨b, 0, none⟩)) →
      Calls P f #[.slice ad n cap, .func (.func g) #[] #[.pointer (some ⟨bb, 0, none⟩)]] w fun e w' => ∃ v, e = .returned v ∧ RowPost w w' 1 (F.filter fun v => !ptrEq v xv).length ad cap v (F.filter fun v => !ptrEq v xv)

structure EnvOK (P : Program) (E : Env) : Prop where
  ty : ∀ t ti, E.ty t = some ti → ∃ d i z, TyOK P E.toNames t ti d i z
  fn : ∀ f fi, E.fn f = some fi → ∃ fn, P.funcs[f]? = some fn ∧ fn.body = some fi.body ∧ fn.ntmps = fi.ntmps ∧ fn.results.toList = fi.results ∧ (fn.name == "runtime.NumGoroutine") = false
  ext : ∀ f k, E.ext f = some k → ExtOK P f k
  lst : ∀ f k, E.lst f = some k → (∃ fn, P.funcs[f]? = some fn ∧ fn.body.isNone = false ∧ (fn.name == "runtime.NumGoroutine") = false) ∧ LstOK P f k
  ks : ∀ f, (E.ks f).Nodup ∧ ∀ k, k ∈ E.ks f → k < E.kinds.length

/-- What is so of the world from the beginning: the listed variables; two of the program's errors are told apart. -/
structure WOK (P : Program) (E : Env) (S : Ini) (w : World) : Prop where
  glob : ∀ g row, E.glob g = some row → S.G g ∧ ∃ cs T fz, w.heap[g]? = some (.cells cs T fz) ∧ RepL (rcW (statOf E S) (fun _ => False) noL w) noL row cs.toList
  eqs : ∀ (w' : World), (∀ b, S.G b → w'.heap[b]? = w.heap[b]?) → ∀ t ms, P.underlying t = some (.interface ms) → ∀ g g', E.glob g = some [.er (.s g)] → E.glob g' = some [.er (.s g')] →
    (Op.equal t (.iface E.errT (.pointer (some (S.a g)))) (.iface E.errT (.pointer (some (S.a g'))))).run P w' = .ok (decide (g = g')) w'
  ne : E.atT ≠ E.errT

section
variable {P : Program} {N : Names} {t : TypeId} {ti : TyI} {d : TypeDesc} {i : TypeInfo} {z : Value}

theorem TyOK.part (h : TyOK P N t ti d i z) {u : Ty} (hu : ti.part = some u) : u.size = ti.size := by
  unfold TyI.part at hu
  split at hu
  · rename_i v hv
    injection hu with hu
    subst hu
    exact (h.ty v hv).1
  · exact h.cty u hu

theorem TyOK.run_u (h : TyOK P N t ti d i z) (w : World) : (underlying t).run P w = .ok d w := by simp [underlying, h.u]
theorem TyOK.run_info (h : TyOK P N t ti d i z) (w : World) : (typeInfo t).run P w = .ok i w := by simp [typeInfo, h.info]
theorem TyOK.run_size (h : TyOK P N t ti d i z) (w : World) : (sizeOf t).run P w = .ok ti.size w := by simp [sizeOf, h.run_info, h.size]
theorem TyOK.run_zero (h : TyOK P N t ti d i z) (w : World) : (zeroValue t).run P w = .ok z w := by simp [zeroValue, h.run_info, h.zero]
theorem TyOK.run_agg (h : TyOK P N t ti d i z) (w : World) : (isAgg t).run P w = .ok ti.desc.isAgg w := by
  rw [← h.desc]
  simp only [isAgg, Sem.run_bind, h.run_u, Result.andThen_ok]
  cases d <;> rfl

theorem TyOK.zeroL (h : TyOK P N t ti d i z) (R : RC) (L : Ref → Option Pl) : RepL R L ti.zero z.cells.toList := by
  rw [← h.cells]
  refine RepL.mk (by simp) fun k x y hx hy => ?_
  simp only [List.getElem?_map, Option.map_eq_some_iff] at hx
  obtain ⟨v, hv, rfl⟩ := hx
  rw [hv] at hy
  injection hy with hy
  simp [Rep, hy]

theorem TyOK.zeroT (h : TyOK P N t ti d i z) {u : Ty} (hu : ti.ty = some u) {R : RC} (hR : R.T.N = N) : RepT R u (dfl u) z.cells.toList := by
  obtain ⟨_, hd⟩ := h.ty u hu
  rw [← hR] at hd
  obtain ⟨c, e, he, hc, hl⟩ := decT_sound u hd (h.zeroL R noL)
  simp only [RepL] at hl
  subst hl
  rw [he]
  simpa using hc

theorem RepL.drop {R : RC} {L : Ref → Option Pl} {l : List AV} {ys : List Value} (h : RepL R L l ys) (j : Nat) : RepL R L (l.drop j) (ys.drop j) :=
  RepL.mk (by simp [h.length]) fun i x y hx hy => by
    rw [List.getElem?_drop] at hx hy
    obtain ⟨v, hv, hr⟩ := h.get _ _ hx
    rw [hv] at hy
    injection hy with hy
    exact hy ▸ hr

theorem RepL.take {R : RC} {L : Ref → Option Pl} {l : List AV} {ys : List Value} (h : RepL R L l ys) (j : Nat) : RepL R L (l.take j) (ys.take j) :=
  RepL.mk (by simp [h.length]) fun i x y hx hy => by
    by_cases hi : i < j
    · rw [List.getElem?_take_of_lt hi] at hx hy
      obtain ⟨v, hv, hr⟩ := h.get _ _ hx
      rw [hv] at hy
      injection hy with hy
      exact hy ▸ hr
    · rw [List.getElem?_take_eq_none (by omega)] at hx
      cases hx

theorem addr_add (b o n : Nat) : (⟨b, o, none⟩ : Addr).add n = ⟨b, o + n, none⟩ := by
  unfold Addr.add
  split
  · rename_i h; subst h; rfl
  · rfl

/-- a variable's part, loaded -/
theorem run_load_part (h : TyOK P N t ti d i z) {w : World} {R : RC} {L : Ref → Option Pl} {row : List AV} {cs : List Value} {b o j : Nat} {x : AV} (hrow : RepL R L row cs)
    (hat : ∀ k v, cs[k]? = some v → w.cell? ⟨b, o + k, none⟩ = some v) (hp : partA ti row j = some x) : ∃ y, (loadVar t ⟨b, o + j, none⟩).run P w = .ok y w ∧ Rep R L x y := by
  unfold partA at hp
  split at hp
  · rename_i ha
    split at hp
    · rename_i hle
      injection hp with hp
      subst hp
      have hlen : ((cs.drop j).take ti.size).length = ti.size := by
        have := hrow.length
        simp; omega
      have hl := run_loadCells_list (P := P) w ⟨b, o + j, none⟩ ((cs.drop j).take ti.size) fun k v hk => by
        rw [addr_add]
        have hk' : k < ti.size := by
          rcases Nat.lt_or_ge k ti.size with hlt | hge
          · exact hlt
          · rw [List.getElem?_eq_none (by omega)] at hk; cases hk
        rw [List.getElem?_take_of_lt hk', List.getElem?_drop] at hk
        have := hat _ _ hk
        rwa [← Nat.add_assoc] at this
      rw [hlen] at hl
      refine ⟨.agg ((cs.drop j).take ti.size).toArray, ?_, ?_⟩
      · simp [loadVar, h.run_agg, ha, h.run_size, hl]
      · simp only [Rep]
        exact ⟨_, rfl, (hrow.drop j).take ti.size⟩
    · cases hp
  · rename_i ha
    obtain ⟨y, hy, hr⟩ := hrow.get j x hp
    have := hat _ _ hy
    exact ⟨y, by simp [loadVar, h.run_agg, ha, this], hr⟩

/-- an aggregate's part -/
theorem run_part (h : TyOK P N t ti d i z) {w : World} {R : RC} {L : Ref → Option Pl} {row : List AV} {cs : Array Value} {j : Nat} {x : AV} (hrow : RepL R L row cs.toList)
    (hp : partA ti row j = some x) : ∃ y, (part t cs j).run P w = .ok y w ∧ Rep R L x y := by
  unfold partA at hp
  split at hp
  · rename_i ha
    split at hp
    · rename_i hle
      injection hp with hp
      subst hp
      refine ⟨.agg (cs.extract j (j + ti.size)), by simp [part, h.run_agg, ha, h.run_size], ?_⟩
      simp only [Rep]
      refine ⟨_, rfl, ?_⟩
      have := (hrow.drop j).take ti.size
      simpa [Array.toList_extract, List.extract_eq_take_drop] using this
    · cases hp
  · rename_i ha
    obtain ⟨y, hy, hr⟩ := hrow.get j x hp
    have hy' : cs[j]? = some y := by simpa using hy
    exact ⟨y, by simp [part, h.run_agg, ha, hy'], hr⟩

end

section
variable {c : Ctx} {I : Nat → Prop} {L : Ref → Option Pl} {s : St} {a : Act} {w : World} {call : CallF}

/-- what is owed of an operation -/
def OpOK (c : Ctx) (s : St) (a : Act) (w : World) (o : Oper) (δ : Dl) : Prop :=
  ∀ (K : Act → World → Prop) (Q : Exit → Act → World → Prop), (∀ I' L' a' w', Sim c I' L' (s.app o.dst δ) a' w' → K a' w') → o.wp c.P a w K Q

theorem OpOK.value (h : Sim c I L s a w) {o : Oper} {x : AV} {v : Value} (e : (execOp a.eval o).run c.P w = .ok (.value v) w) (hx : Rep (c.rc I L w) L x v) : OpOK c s a w o (val x) := by
  intro K Q hK
  unfold Oper.wp
  rw [e, Oper.upon_value]
  refine hK I L _ _ ?_
  exact h.put o.dst hx

theorem Sim.globW (h : Sim c I L s a w) (hw : WOK c.P c.E c.S c.w0) {g : Nat} {row : List AV} (hg : c.E.glob g = some row) :
    ∃ cs T fz, w.heap[g]? = some (.cells cs T fz) ∧ RepL (c.rc I L w) L row cs.toList := by
  obtain ⟨hG, cs, T, fz, hh, hr⟩ := hw.glob g row hg
  obtain ⟨hlt, hRt⟩ := h.fix g hG
  refine ⟨cs, T, fz, by rw [h.same g hlt hRt]; exact hh, (hr.mono ?_ (LLe.refl _)).noL⟩
  exact ⟨fun _ hb => hb.elim, fun _ _ hb => hb.elim, rfl, fun k i b hb => by cases hb⟩

theorem load_run (h : Sim c I L s a w) (hE : EnvOK c.P c.E) (hW : WOK c.P c.E c.S c.w0) {t : TypeId} {x : AV} {v : Value} (hx : Rep (c.rc I L w) L x v) {y : AV} {rs : List Nat}
    (e : (loadA c.E t x).run call s.rd = some (y, rs)) : ∃ q y', v = .pointer (some q) ∧ (loadVar t q).run c.P w = .ok y' w ∧ Rep (c.rc I L w) L y y' := by
  unfold loadA at e
  split at e
  · rename_i ti id i j g hty
    obtain ⟨d, ii, z, hT⟩ := hE.ty t ti hty
    obtain ⟨b, l', hb, e', rfl⟩ := HM.run_rd e
    clear e
    split at e'
    · rename_i hg
      simp only [Rep] at hx
      obtain ⟨p, hp, hge, q, hq, hy⟩ := hx
      obtain ⟨⟨hpg, hk⟩, hf⟩ := h.get hp hb
      have hqq := hy (by rw [hpg, hg])
      subst hqq
      split at e'
      · rename_i row hct
        rw [hct] at hk
        obtain ⟨hv, ho', cs, T, hh, hrow⟩ := hk
        split at e'
        · rename_i hi
          subst hi
          obtain ⟨hpart, rfl⟩ := HM.run_one e'
          obtain ⟨y', hrun, hrep⟩ := run_load_part hT (w := w) (b := p.b) (o := 0) hrow (fun k v hk => by rw [Nat.zero_add, cell?_cells hh]; simpa using hk) hpart
          rw [Nat.zero_add] at hrun
          exact ⟨_, y', hq, by simpa [ho'] using hrun, hrep⟩
        · cases e'
      · rename_i u l hct
        rw [hct] at hk
        obtain ⟨hlt, e'⟩ := HM.run_chk e'
        have hlt := of_decide_eq_true hlt
        obtain ⟨hpart, rfl⟩ := HM.run_one e'
        rcases hk with ⟨hv, rfl, _⟩ | ⟨hv, hw, cs, T, hh, hs, hsz, hrow⟩
        · simp at hlt
        · obtain ⟨dd, hd, hat⟩ := hrow i hlt
          obtain ⟨y', hrun, hrep⟩ := run_load_part hT (w := w) (b := p.b) (o := p.o + i * p.w) (RepL.ofT (L := L) u hd) (fun k v hk => hat k v hk) hpart
          exact ⟨_, y', hq, hrun, hrep⟩
      · cases e'
    · cases e'
  · rename_i ti r j hty
    obtain ⟨d, ii, z, hT⟩ := hE.ty t ti hty
    obtain ⟨hpart, rfl⟩ := HM.run_one e
    simp only [Rep] at hx
    obtain ⟨b, ob, hq, hb, cs, hrow, hat⟩ := hx
    obtain ⟨y', hrun, hrep⟩ := run_load_part hT (w := w) (b := b) (o := ob) hrow (fun k v hk => hat k v hk) hpart
    exact ⟨_, y', hq, hrun, hrep.noL⟩
  · rename_i ti g j hty
    obtain ⟨d, ii, z, hT⟩ := hE.ty t ti hty
    split at e
    · rename_i row hg
      obtain ⟨hpart, rfl⟩ := HM.run_one e
      simp only [Rep] at hx
      obtain ⟨cs, T, fz, hh, hrow⟩ := h.globW hW hg
      obtain ⟨y', hrun, hrep⟩ := run_load_part hT (w := w) (b := g) (o := 0) hrow (fun k v hk => by rw [Nat.zero_add, cell?_cells hh]; simpa using hk) hpart
      rw [Nat.zero_add] at hrun
      exact ⟨_, y', hx, hrun, hrep⟩
    · cases e
  · cases e

theorem op_load (h : Sim c I L s a w) (hE : EnvOK c.P c.E) (hW : WOK c.P c.E c.S c.w0) {t : TypeId} {x : Operand} {o : Oper} (ho : o.op = .load t x) {y : AV} {rs : List Nat}
    (e : (loadA c.E t (aeval s.env x)).run call s.rd = some (y, rs)) : OpOK c s a w o (val y) := by
  obtain ⟨q, y', hq, hrun, hrep⟩ := load_run h hE hW (h.eval x) e
  refine OpOK.value h (v := y') ?_ hrep
  simp only [execOp, ho]
  rw [hq]
  simp [Instr.loadAt, Instr.sureAddr, hrun]

theorem HM.run_ret {α : Type} {h : Ref → Option Blk} {x y : α} {l : List Nat} (e : (HM.ret x).run call h = some (y, l)) : y = x ∧ l = [] := by
  simp only [HM.run, Option.some.injEq, Prod.mk.injEq] at e
  exact ⟨e.1.symm, e.2.symm⟩

/-- an integer operation -/
theorem binI_sound {op : BinOp} {k k' : IntKind} {x y : Int} {t : TypeId} {h : Ref → Option Blk} {z : AV} {rs : List Nat} (e : (binI op k k' x y).run call h = some (z, rs)) (P : Program) (w : World) :
    ∃ v, (binOp op t (.int k x) (.int k' y)).run P w = .ok v w ∧ z = .v v := by
  unfold binI at e
  have hbq : (x == y) = decide (x = y) := by by_cases h : x = y <;> simp [h]
  have eqB : ∀ p : Prop, ∀ [Decidable p] {u : HM AV}, (HM.chk (decide p) u).run call h = some (z, rs) → p ∧ u.run call h = some (z, rs) := fun p _ u e => by
    obtain ⟨h1, h2⟩ := HM.run_chk e
    exact ⟨of_decide_eq_true h1, h2⟩
  split at e
  · obtain ⟨h0, e⟩ := eqB _ e
    obtain ⟨rfl, rfl⟩ := HM.run_ret e
    exact ⟨.int k (shlI k x y), by simp [binOp, Op.shift, Int.not_lt.2 h0, shlI], rfl⟩
  · obtain ⟨h0, e⟩ := eqB _ e
    obtain ⟨rfl, rfl⟩ := HM.run_ret e
    exact ⟨.int k (shrI k x y), by simp [binOp, Op.shift, Int.not_lt.2 h0, shrI], rfl⟩
  · rename_i hns hns'
    split at e
    · cases e
    · rename_i hk
      have := sameK_eq hk
      subst this
      split at e
      · obtain ⟨rfl, rfl⟩ := HM.run_ret e; exact ⟨_, by simp [binOp, Op.intArith], rfl⟩
      · obtain ⟨rfl, rfl⟩ := HM.run_ret e; exact ⟨_, by simp [binOp, Op.intArith], rfl⟩
      · obtain ⟨rfl, rfl⟩ := HM.run_ret e; exact ⟨_, by simp [binOp, Op.intArith], rfl⟩
      · obtain ⟨h0, e⟩ := eqB _ e
        obtain ⟨rfl, rfl⟩ := HM.run_ret e; exact ⟨_, by simp [binOp, Op.intDiv, h0], rfl⟩
      · obtain ⟨h0, e⟩ := eqB _ e
        obtain ⟨rfl, rfl⟩ := HM.run_ret e; exact ⟨_, by simp [binOp, Op.intDiv, h0], rfl⟩
      · obtain ⟨rfl, rfl⟩ := HM.run_ret e; exact ⟨.bool (decide (x = y)), by simp [binOp, Op.intCmp, hbq], rfl⟩
      · obtain ⟨rfl, rfl⟩ := HM.run_ret e; exact ⟨.bool (decide (x ≠ y)), by simp [binOp, Op.intCmp, bne, hbq], rfl⟩
      · obtain ⟨rfl, rfl⟩ := HM.run_ret e; exact ⟨_, by simp [binOp, Op.intCmp], rfl⟩
      · obtain ⟨rfl, rfl⟩ := HM.run_ret e; exact ⟨_, by simp [binOp, Op.intCmp], rfl⟩
      · obtain ⟨rfl, rfl⟩ := HM.run_ret e; exact ⟨_, by simp [binOp, Op.intCmp], rfl⟩
      · obtain ⟨rfl, rfl⟩ := HM.run_ret e; exact ⟨_, by simp [binOp, Op.intCmp], rfl⟩
      · obtain ⟨rfl, rfl⟩ := HM.run_ret e
        cases op <;> first | (exact absurd rfl ‹_›) | exact ⟨_, by simp [binOp, Op.intBits, bitsI], rfl⟩

end
end Go.Eng
