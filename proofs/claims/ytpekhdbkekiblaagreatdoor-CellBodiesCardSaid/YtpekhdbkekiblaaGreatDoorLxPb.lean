/-
  Texts of the proof, one behind the other.
-/
import Derived.Test.YtpekhdbkekiblaaGreatDoorLxPa
import Derived.Laws.AppendOwn
import Derived.Laws.Rows
import Derived.Laws.Small
import Derived.LaidEql
import Derived.Laws.Tables

/-
  The abstract machine, part 6: operations that make a value alone.
-/
namespace Go.Eng

def descOf (P : Program) : TypeDesc → TD
  | .bool => .bool
  | .string => .str
  | .interface _ => .iface
  | .int k => .int k
  | .float k => .float k
  | .pointer e => .ptr e
  | .slice e => .slice e
  | .array n e => .arr n e
  | .map k e => .map k e
  | .struct fs => .struct (fs.toList.map fun f => (f.type, f.offset, P.cellsOf f.type))
  | _ => .other

/-- a type's row of the table is the program's -/
structure TyOK (P : Program) (N : Names) (t : TypeId) (ti : TyI) (d : TypeDesc) (i : TypeInfo) (z : Value) : Prop where
  u : P.underlying t = some d
  desc : descOf P d = ti.desc
  flds : ∀ fs, d = .struct fs → ∀ f, f ∈ fs.toList → (P.info? f.type).isSome = true
  info : P.info? t = some i
  size : i.size = ti.size
  bytes : i.bytes = ti.bytes
  zero : i.zero = some z
  cells : z.cells.toList.map AV.v = ti.zero
  agg : ti.desc.isAgg = true → ∃ cs, z = .agg cs
  one : ti.desc.isAgg = false → z.oneCell' = true
  len : ti.zero.length = ti.size
  atoms : ti.zero.all AV.isCell = true
  ty : ∀ u, ti.ty = some u → u.size = ti.size ∧ decT N u ti.zero = some (dfl u, [])
  cty : ∀ u, ti.cty = some u → u.size = ti.size

/-- the model's row for it -/
def ExtK.row : ExtK → Array Value → Sem Value
  | .bits => Extern.MathFloatBits.float64bits
  | .frombits => Extern.MathFloatBits.float64frombits
  | .even => Extern.MathFloor.toIntegral "math.RoundToEven" .even

def ExtOK (P : Program) (f : FuncId) (k : ExtK) : Prop := ∃ fn, P.funcs[f]? = some fn ∧ (fn.name == "runtime.NumGoroutine") = false ∧ fn.body.isNone = true ∧ Extern.findNext fn = none ∧ Extern.find fn = some k.row

/-- a slice's cells, where it has room -/
def RowAt (w : World) (sz n : Nat) (ad : Option Addr) (cap : Nat) (F : List Value) : Prop := n ≤ cap ∧ F.length = n * sz ∧ (∀ v, v ∈ F → v.oneCell' = true) ∧
  (cap = 0 ∨ ∃ b off cs T, ad = some ⟨b, off, none⟩ ∧ w.heap[b]? = some (.cells cs T (0, 0)) ∧ off + cap * sz ≤ cs.size ∧ ∀ (j : Nat) v, F[j]? = some v → cs[off + j]? = some v)

/-- … and those that a function has made of them, in place or elsewhere -/
def RowPost (w w' : World) (sz m : Nat) (ad : Option Addr) (cap : Nat) (v : Value) (F : List Value) : Prop := IO w w' ∧ F.length = m * sz ∧ ∃ cap', m ≤ cap' ∧
  ((∃ b off cs cs' T, ad = some ⟨b, off, none⟩ ∧ w.heap[b]? = some (.cells cs T (0, 0)) ∧ v = .slice ad m cap' ∧ cap' ≤ cap ∧ 0 < cap ∧ w'.heap.size = w.heap.size ∧ w'.heap[b]? = some (.cells cs' T (0, 0)) ∧ cs'.size = cs.size ∧
      (∀ b', b' ≠ b → w'.heap[b']? = w.heap[b']?) ∧ ∀ (j : Nat) x, F[j]? = some x → cs'[off + j]? = some x) ∨
    ∃ cs' T', w'.heap = w.heap.push (.cells cs' T' (0, 0)) ∧ v = .slice (some ⟨w.heap.size, 0, none⟩) m cap' ∧ cap' * sz ≤ cs'.size ∧ ∀ (j : Nat) x, F[j]? = some x → cs'[j]? = some x)

/-- likewise, where other blocks may have been made beside -/
def RowPost2 (w w' : World) (sz m : Nat) (ad : Option Addr) (cap : Nat) (v : Value) (F : List Value) : Prop := IO w w' ∧ w.heap.size ≤ w'.heap.size ∧ F.length = m * sz ∧ ∃ cap', m ≤ cap' ∧
  ((∃ b off cs cs' T, ad = some ⟨b, off, none⟩ ∧ w.heap[b]? = some (.cells cs T (0, 0)) ∧ v = .slice ad m cap' ∧ cap' ≤ cap ∧ 0 < cap ∧ w'.heap[b]? = some (.cells cs' T (0, 0)) ∧ cs'.size = cs.size ∧
      (∀ b', b' < w.heap.size → b' ≠ b → w'.heap[b']? = w.heap[b']?) ∧ ∀ (j : Nat) x, F[j]? = some x → cs'[off + j]? = some x) ∨
    ∃ nb cs' T', w.heap.size ≤ nb ∧ w'.heap[nb]? = some (.cells cs' T' (0, 0)) ∧ (∀ b', b' < w.heap.size → w'.heap[b']? = w.heap[b']?) ∧ v = .slice (some ⟨nb, 0, none⟩) m cap' ∧ cap' * sz ≤ cs'.size ∧ ∀ (j : Nat) x, F[j]? = some x → cs'[j]? = some x)

theorem RowPost.weak {w w' : World} {sz m : Nat} {ad : Option Addr} {cap : Nat} {v : Value} {F : List Value} (h : RowPost w w' sz m ad cap v F) : RowPost2 w w' sz m ad cap v F := by
  obtain ⟨hio, hl, cap', hm, h⟩ := h
  rcases h with ⟨b, off, cs, cs', T, h1, h2, h3, h4, h5, h6, h7, h8, h9, h10⟩ | ⟨cs', T', h1, h2, h3, h4⟩
  · exact ⟨hio, by rw [h6]; exact Nat.le_refl _, hl, cap', hm, .inl ⟨b, off, cs, cs', T, h1, h2, h3, h4, h5, h7, h8, fun b' _ hb => h9 b' hb, h10⟩⟩
  · refine ⟨hio, by rw [h1]; simp, hl, cap', hm, .inr ⟨w.heap.size, cs', T', Nat.le_refl _, by rw [h1]; simp, fun b' hb => ?_, h2, h3, h4⟩⟩
    rw [h1, Array.getElem?_push_lt hb, Array.getElem?_eq_getElem hb]

/-- a pointer to a variable, or none -/
def PtrAt (w : World) (v : Value) : Prop := v = .pointer none ∨ ∃ b cs T, v = .pointer (some ⟨b, 0, none⟩) ∧ w.heap[b]? = some (.cells cs T (0, 0))
def ptrEq : Value → Value → Bool
  | .pointer none, .pointer none => true
  | .pointer (some a), .pointer (some b) => Nat.beq a.block b.block
  | _, _ => false

/-- a world in which one variable was written, and blocks were made -/
def AsPost (w w' : World) (bb : Nat) (y : Value) (Tb : TypeId) : Prop := IO w w' ∧ w.heap.size ≤ w'.heap.size ∧ (∀ b, b < w.heap.size → b ≠ bb → w'.heap[b]? = w.heap[b]?) ∧ w'.heap[bb]? = some (.cells #[y] Tb (0, 0))

/-- WHAT SUCH A FUNCTION DOES -/
def LstOK (P : Program) (f : FuncId) : LstK → Prop
  | .ins sz wd => ∀ (w : World) (n : Nat) (ad : Option Addr) (cap : Nat) (F : List Value) (i m : Nat) (ay : Option Addr) (capy : Nat) (G : List Value), RowAt w sz n ad cap F → RowAt w sz m ay capy G →
      (∀ b off b' off', ad = some ⟨b, off, none⟩ → ay = some ⟨b', off', none⟩ → 0 < cap → b ≠ b') → 0 < m → i ≤ n → (n + m) * (wd + 1) ≤ 1099511627776 →
      Calls P f #[.slice ad n cap, .int .i64 i, .slice ay m capy] w fun e w' => ∃ v, e = .returned v ∧ RowPost w w' sz (n + m) ad cap v (F.take (i * sz) ++ G ++ F.drop (i * sz))
  | .del sz => ∀ (w : World) (n : Nat) (ad : Option Addr) (cap : Nat) (F : List Value) (i j : Nat), RowAt w sz n ad cap F → 0 < n → i ≤ j → j ≤ n →
      Calls P f #[.slice ad n cap, .int .i64 i, .int .i64 j] w fun e w' => ∃ v, e = .returned v ∧ RowPost w w' sz (n - (j - i)) ad cap v (F.take (i * sz) ++ F.drop (j * sz))
  | .fil g _ => ∀ (w : World) (n : Nat) (ad : Option Addr) (cap : Nat) (F : List Value) (bb : Nat) (csb : Array Value) (Tb : TypeId) (xv : Value), RowAt w 1 n ad cap F → 0 < n → n ≤ 1099511627776 → (∀ v, v ∈ F → PtrAt w v) → PtrAt w xv →
      w.heap[bb]? = some (.cells csb Tb (0, 0)) → csb[0]? = some xv → (∀ b off, ad = some ⟨b, off, none⟩ → 0 < cap → b ≠ bb ∧ ∀ v, v ∈ F ∨ v = xv → v ≠ .pointer (some ⟨b, 0, none⟩)) →
      Calls P f #[.slice ad n cap, .func (.func g) #[] #[.pointer (some ⟨bb, 0, none⟩)]] w fun e w' => ∃ v, e = .returned v ∧ RowPost w w' 1 (F.filter fun v => !ptrEq v xv).length ad cap v (F.filter fun v => !ptrEq v xv)
  | .app k => ∀ (w : World) (n : Nat) (ad : Option Addr) (cap : Nat) (F : List Value) (xs : List Value) (bs : List Int), RowAt w 1 n ad cap F → appV k xs = some bs → (n + bs.length) * 2 ≤ 1099511627776 →
      Calls P f (#[.slice ad n cap] ++ xs.toArray) w fun e w' => ∃ v, e = .returned v ∧ RowPost2 w w' 1 (n + bs.length) ad cap v (F ++ bs.map (.int .u8))
  | .asE pt et at_ g rt gs ty => ∀ (w : World) (bb : Nat) (y : Value) (Tb : TypeId) (ev : Value), (∃ T fz, w.heap[g]? = some (.cells #[.iface rt (.agg #[.pointer (some ⟨gs, ty, none⟩)])] T fz)) → w.heap[bb]? = some (.cells #[y] Tb (0, 0)) → bb ≠ g →
      ((ev = .nilIface ∨ ∃ x, ev = .iface et (.pointer (some x))) → Calls P f #[ev, .iface pt (.pointer (some ⟨bb, 0, none⟩))] w fun e w' => e = .returned (.bool false) ∧ AsPost w w' bb y Tb) ∧
      ∀ x, ev = .iface at_ (.pointer (some x)) → Calls P f #[ev, .iface pt (.pointer (some ⟨bb, 0, none⟩))] w fun e w' => e = .returned (.bool true) ∧ AsPost w w' bb (.pointer (some x)) Tb

/-- data of one cell each: a map's keys -/
def Ty.key : Ty → Bool
  | .int _ | .str | .bool | .unit => true
  | .pair a b => a.key && b.key
  | .st a => a.key
  | _ => false
def keyC : (t : Ty) → Val t → List Value
  | .int k, n => [.int k n]
  | .bool, b => [.bool b]
  | .str, s => [.string s]
  | .pair a b, x => keyC a x.1 ++ keyC b x.2
  | .st a, x => keyC a x
  | _, _ => []
def keyV (t : Ty) (x : Val t) : Value := match t.isAgg with
  | true => .agg (keyC t x).toArray
  | false => (keyC t x).getD 0 undef

/-- A TYPE OF KEYS: they are held against one another as data is -/
structure KeyOK (P : Program) (kt : TypeId) (a : Ty) : Prop where
  key : a.key = true
  one : (a.isAgg || a.one) = true
  chk : ∀ (e : Bool) (x : Val a) (w : World), (Instr.checkKey e 10000 kt (keyV a x)).run P w = .ok () w
  und : ∃ d, P.underlying kt = some d ∧ ((∀ x y, Instr.sameNow d (keyV a x) (keyV a y) = some (keyEq a x y)) ∨
    ((∀ x y, Instr.sameNow d (keyV a x) (keyV a y) = none) ∧ ∀ x y (w : World), (Op.equal kt (keyV a x) (keyV a y)).run P w = .ok (keyEq a x y) w))

structure EnvOK (P : Program) (E : Env) : Prop where
  ty : ∀ t ti, E.ty t = some ti → ∃ d i z, TyOK P E.toNames t ti d i z
  fn : ∀ f fi, E.fn f = some fi → ∃ fn, P.funcs[f]? = some fn ∧ fn.body = some fi.body ∧ fn.ntmps = fi.ntmps ∧ fn.results.toList = fi.results ∧ (fn.name == "runtime.NumGoroutine") = false
  ext : ∀ f k, E.ext f = some k → ExtOK P f k
  lst : ∀ f k, E.lst f = some k → (∃ fn, P.funcs[f]? = some fn ∧ fn.body.isNone = false ∧ (fn.name == "runtime.NumGoroutine") = false) ∧ LstOK P f k
  ks : ∀ f, (E.ks f).Nodup ∧ ∀ k, k ∈ E.ks f → k < E.kinds.length
  key : ∀ t a, E.key t = some a → KeyOK P t a

/-- What is so of the world from the beginning: the listed variables; two of the program's errors are told apart. -/
structure WOK (P : Program) (E : Env) (S : Ini) (w : World) : Prop where
  glob : ∀ g row, E.glob g = some row → S.G g ∧ ∃ cs T fz, w.heap[g]? = some (.cells cs T fz) ∧ RepL (rcW (statOf E S) (fun _ => False) noL w) noL row cs.toList
  eqs : ∀ (w' : World), (∀ b, S.G b → w'.heap[b]? = w.heap[b]?) → ∀ t ms, P.underlying t = some (.interface ms) → ∀ g g', E.glob g = some [.er (.s g)] → E.glob g' = some [.er (.s g')] →
    (Op.equal t (.iface E.errT (.pointer (some (S.a g)))) (.iface E.errT (.pointer (some (S.a g'))))).run P w' = .ok (decide (g = g')) w'
  ne : E.atT ≠ E.errT

section
variable {P : Program} {N : Names} {t : TypeId} {ti : TyI} {d : TypeDesc} {i : TypeInfo} {z : Value}

theorem TyOK.part (h : TyOK P N t ti d i z) {u : Ty} (hu : ti.part = some u) : u.size = ti.size := by
  unfold TyI.part at hu
  split at hu
  · rename_i v hv
    injection hu with hu
    subst hu
    exact (h.ty v hv).1
  · exact h.cty u hu

theorem TyOK.run_u (h : TyOK P N t ti d i z) (w : World) : (underlying t).run P w = .ok d w := by simp [underlying, h.u]
theorem TyOK.run_info (h : TyOK P N t ti d i z) (w : World) : (typeInfo t).run P w = .ok i w := by simp [typeInfo, h.info]
theorem TyOK.run_size (h : TyOK P N t ti d i z) (w : World) : (sizeOf t).run P w = .ok ti.size w := by simp [sizeOf, h.run_info, h.size]
theorem TyOK.run_zero (h : TyOK P N t ti d i z) (w : World) : (zeroValue t).run P w = .ok z w := by simp [zeroValue, h.run_info, h.zero]
theorem TyOK.run_agg (h : TyOK P N t ti d i z) (w : World) : (isAgg t).run P w = .ok ti.desc.isAgg w := by
  rw [← h.desc]
  simp only [isAgg, Sem.run_bind, h.run_u, Result.andThen_ok]
  cases d <;> rfl

theorem TyOK.zeroL (h : TyOK P N t ti d i z) (R : RC) (L : Ref → Option Pl) : RepL R L ti.zero z.cells.toList := by
  rw [← h.cells]
  refine RepL.mk (by simp) fun k x y hx hy => ?_
  simp only [List.getElem?_map, Option.map_eq_some_iff] at hx
  obtain ⟨v, hv, rfl⟩ := hx
  rw [hv] at hy
  injection hy with hy
  simp [Rep, hy]

theorem TyOK.zeroT (h : TyOK P N t ti d i z) {u : Ty} (hu : ti.ty = some u) {R : RC} (hR : R.T.N = N) : RepT R u (dfl u) z.cells.toList := by
  obtain ⟨_, hd⟩ := h.ty u hu
  rw [← hR] at hd
  obtain ⟨c, e, he, hc, hl⟩ := decT_sound u hd (h.zeroL R noL)
  simp only [RepL] at hl
  subst hl
  rw [he]
  simpa using hc

theorem RepL.drop {R : RC} {L : Ref → Option Pl} {l : List AV} {ys : List Value} (h : RepL R L l ys) (j : Nat) : RepL R L (l.drop j) (ys.drop j) :=
  RepL.mk (by simp [h.length]) fun i x y hx hy => by
    rw [List.getElem?_drop] at hx hy
    obtain ⟨v, hv, hr⟩ := h.get _ _ hx
    rw [hv] at hy
    injection hy with hy
    exact hy ▸ hr

theorem RepL.take {R : RC} {L : Ref → Option Pl} {l : List AV} {ys : List Value} (h : RepL R L l ys) (j : Nat) : RepL R L (l.take j) (ys.take j) :=
  RepL.mk (by simp [h.length]) fun i x y hx hy => by
    by_cases hi : i < j
    · rw [List.getElem?_take_of_lt hi] at hx hy
      obtain ⟨v, hv, hr⟩ := h.get _ _ hx
      rw [hv] at hy
      injection hy with hy
      exact hy ▸ hr
    · rw [List.getElem?_take_eq_none (by omega)] at hx
      cases hx

theorem addr_add (b o n : Nat) : (⟨b, o, none⟩ : Addr).add n = ⟨b, o + n, none⟩ := by
  unfold Addr.add
  split
  · rename_i h; subst h; rfl
  · rfl

/-- a variable's part, loaded -/
theorem run_load_part (h : TyOK P N t ti d i z) {w : World} {R : RC} {L : Ref → Option Pl} {row : List AV} {cs : List Value} {b o j : Nat} {x : AV} (hrow : RepL R L row cs)
    (hat : ∀ k v, cs[k]? = some v → w.cell? ⟨b, o + k, none⟩ = some v) (hp : partA ti row j = some x) : ∃ y, (loadVar t ⟨b, o + j, none⟩).run P w = .ok y w ∧ Rep R L x y := by
  unfold partA at hp
  split at hp
  · rename_i ha
    split at hp
    · rename_i hle
      injection hp with hp
      subst hp
      have hlen : ((cs.drop j).take ti.size).length = ti.size := by
        have := hrow.length
        simp; omega
      have hl := run_loadCells_list (P := P) w ⟨b, o + j, none⟩ ((cs.drop j).take ti.size) fun k v hk => by
        rw [addr_add]
        have hk' : k < ti.size := by
          rcases Nat.lt_or_ge k ti.size with hlt | hge
          · exact hlt
          · rw [List.getElem?_eq_none (by omega)] at hk; cases hk
        rw [List.getElem?_take_of_lt hk', List.getElem?_drop] at hk
        have := hat _ _ hk
        rwa [← Nat.add_assoc] at this
      rw [hlen] at hl
      refine ⟨.agg ((cs.drop j).take ti.size).toArray, ?_, ?_⟩
      · simp [loadVar, h.run_agg, ha, h.run_size, hl]
      · simp only [Rep]
        exact ⟨_, rfl, (hrow.drop j).take ti.size⟩
    · cases hp
  · rename_i ha
    obtain ⟨y, hy, hr⟩ := hrow.get j x hp
    have := hat _ _ hy
    exact ⟨y, by simp [loadVar, h.run_agg, ha, this], hr⟩

/-- an aggregate's part -/
theorem run_part (h : TyOK P N t ti d i z) {w : World} {R : RC} {L : Ref → Option Pl} {row : List AV} {cs : Array Value} {j : Nat} {x : AV} (hrow : RepL R L row cs.toList)
    (hp : partA ti row j = some x) : ∃ y, (part t cs j).run P w = .ok y w ∧ Rep R L x y := by
  unfold partA at hp
  split at hp
  · rename_i ha
    split at hp
    · rename_i hle
      injection hp with hp
      subst hp
      refine ⟨.agg (cs.extract j (j + ti.size)), by simp [part, h.run_agg, ha, h.run_size], ?_⟩
      simp only [Rep]
      refine ⟨_, rfl, ?_⟩
      have := (hrow.drop j).take ti.size
      simpa [Array.toList_extract, List.extract_eq_take_drop] using this
    · cases hp
  · rename_i ha
    obtain ⟨y, hy, hr⟩ := hrow.get j x hp
    have hy' : cs[j]? = some y := by simpa using hy
    exact ⟨y, by simp [part, h.run_agg, ha, hy'], hr⟩

end

section
variable {c : Ctx} {I : Nat → Prop} {L : Ref → Option Pl} {s : St} {a : Act} {w : World} {call : CallF}

/-- what is owed of an operation -/
def OpOK (c : Ctx) (s : St) (a : Act) (w : World) (o : Oper) (δ : Dl) : Prop :=
  ∀ (K : Act → World → Prop) (Q : Exit → Act → World → Prop), (∀ I' L' a' w', Sim c I' L' (s.app o.dst δ) a' w' → K a' w') → o.wp c.P a w K Q

theorem OpOK.value (h : Sim c I L s a w) {o : Oper} {x : AV} {v : Value} (e : (execOp a.eval o).run c.P w = .ok (.value v) w) (hx : Rep (c.rc I L w) L x v) : OpOK c s a w o (val x) := by
  intro K Q hK
  unfold Oper.wp
  rw [e, Oper.upon_value]
  refine hK I L _ _ ?_
  exact h.put o.dst hx

theorem Sim.globW (h : Sim c I L s a w) (hw : WOK c.P c.E c.S c.w0) {g : Nat} {row : List AV} (hg : c.E.glob g = some row) :
    ∃ cs T fz, w.heap[g]? = some (.cells cs T fz) ∧ RepL (c.rc I L w) L row cs.toList := by
  obtain ⟨hG, cs, T, fz, hh, hr⟩ := hw.glob g row hg
  obtain ⟨hlt, hRt⟩ := h.fix g hG
  refine ⟨cs, T, fz, by rw [h.same g hlt hRt]; exact hh, (hr.mono ?_ (LLe.refl _)).noL⟩
  exact ⟨fun _ hb => hb.elim, fun _ _ hb => hb.elim, rfl, fun k i b hb => by cases hb⟩

theorem load_run (h : Sim c I L s a w) (hE : EnvOK c.P c.E) (hW : WOK c.P c.E c.S c.w0) {t : TypeId} {x : AV} {v : Value} (hx : Rep (c.rc I L w) L x v) {y : AV} {rs : List Nat}
    (e : (loadA c.E t x).run call s.rd = some (y, rs)) : ∃ q y', v = .pointer (some q) ∧ (loadVar t q).run c.P w = .ok y' w ∧ Rep (c.rc I L w) L y y' := by
  unfold loadA at e
  split at e
  · rename_i ti id i j g hty
    obtain ⟨d, ii, z, hT⟩ := hE.ty t ti hty
    obtain ⟨b, l', hb, e', rfl⟩ := HM.run_rd e
    clear e
    split at e'
    · rename_i hg
      simp only [Rep] at hx
      obtain ⟨p, hp, hge, q, hq, hy⟩ := hx
      obtain ⟨⟨hpg, hk⟩, hf⟩ := h.get hp hb
      have hqq := hy (by rw [hpg, hg])
      subst hqq
      split at e'
      · rename_i row hct
        rw [hct] at hk
        obtain ⟨hv, ho', cs, T, hh, hrow⟩ := hk
        split at e'
        · rename_i hi
          subst hi
          obtain ⟨hpart, rfl⟩ := HM.run_one e'
          obtain ⟨y', hrun, hrep⟩ := run_load_part hT (w := w) (b := p.b) (o := 0) hrow (fun k v hk => by rw [Nat.zero_add, cell?_cells hh]; simpa using hk) hpart
          rw [Nat.zero_add] at hrun
          exact ⟨_, y', hq, by simpa [ho'] using hrun, hrep⟩
        · cases e'
      · rename_i u l hct
        rw [hct] at hk
        obtain ⟨hlt, e'⟩ := HM.run_chk e'
        have hlt := of_decide_eq_true hlt
        obtain ⟨hpart, rfl⟩ := HM.run_one e'
        rcases hk with ⟨hv, rfl, _⟩ | ⟨hv, hw, cs, T, hh, hs, hsz, hrow⟩
        · simp at hlt
        · obtain ⟨dd, hd, hat⟩ := hrow i hlt
          obtain ⟨y', hrun, hrep⟩ := run_load_part hT (w := w) (b := p.b) (o := p.o + i * p.w) (RepL.ofT (L := L) u hd) (fun k v hk => hat k v hk) hpart
          exact ⟨_, y', hq, hrun, hrep⟩
      · cases e'
      · cases e'
    · cases e'
  · rename_i ti r j hty
    obtain ⟨d, ii, z, hT⟩ := hE.ty t ti hty
    obtain ⟨hpart, rfl⟩ := HM.run_one e
    simp only [Rep] at hx
    obtain ⟨b, ob, hq, hb, cs, hrow, hat⟩ := hx
    obtain ⟨y', hrun, hrep⟩ := run_load_part hT (w := w) (b := b) (o := ob) hrow (fun k v hk => hat k v hk) hpart
    exact ⟨_, y', hq, hrun, hrep.noL⟩
  · rename_i ti g j hty
    obtain ⟨d, ii, z, hT⟩ := hE.ty t ti hty
    split at e
    · rename_i row hg
      obtain ⟨hpart, rfl⟩ := HM.run_one e
      simp only [Rep] at hx
      obtain ⟨cs, T, fz, hh, hrow⟩ := h.globW hW hg
      obtain ⟨y', hrun, hrep⟩ := run_load_part hT (w := w) (b := g) (o := 0) hrow (fun k v hk => by rw [Nat.zero_add, cell?_cells hh]; simpa using hk) hpart
      rw [Nat.zero_add] at hrun
      exact ⟨_, y', hx, hrun, hrep⟩
    · cases e
  · cases e

theorem op_load (h : Sim c I L s a w) (hE : EnvOK c.P c.E) (hW : WOK c.P c.E c.S c.w0) {t : TypeId} {x : Operand} {o : Oper} (ho : o.op = .load t x) {y : AV} {rs : List Nat}
    (e : (loadA c.E t (aeval s.env x)).run call s.rd = some (y, rs)) : OpOK c s a w o (val y) := by
  obtain ⟨q, y', hq, hrun, hrep⟩ := load_run h hE hW (h.eval x) e
  refine OpOK.value h (v := y') ?_ hrep
  simp only [execOp, ho]
  rw [hq]
  simp [Instr.loadAt, Instr.sureAddr, hrun]

theorem HM.run_ret {α : Type} {h : Ref → Option Blk} {x y : α} {l : List Nat} (e : (HM.ret x).run call h = some (y, l)) : y = x ∧ l = [] := by
  simp only [HM.run, Option.some.injEq, Prod.mk.injEq] at e
  exact ⟨e.1.symm, e.2.symm⟩

/-- an integer operation -/
theorem binI_sound {op : BinOp} {k k' : IntKind} {x y : Int} {t : TypeId} {h : Ref → Option Blk} {z : AV} {rs : List Nat} (e : (binI op k k' x y).run call h = some (z, rs)) (P : Program) (w : World) :
    ∃ v, (binOp op t (.int k x) (.int k' y)).run P w = .ok v w ∧ z = .v v := by
  unfold binI at e
  have hbq : (x == y) = decide (x = y) := by by_cases h : x = y <;> simp [h]
  have eqB : ∀ p : Prop, ∀ [Decidable p] {u : HM AV}, (HM.chk (decide p) u).run call h = some (z, rs) → p ∧ u.run call h = some (z, rs) := fun p _ u e => by
    obtain ⟨h1, h2⟩ := HM.run_chk e
    exact ⟨of_decide_eq_true h1, h2⟩
  split at e
  · obtain ⟨h0, e⟩ := eqB _ e
    obtain ⟨rfl, rfl⟩ := HM.run_ret e
    exact ⟨.int k (shlI k x y), by simp [binOp, Op.shift, Int.not_lt.2 h0, shlI], rfl⟩
  · obtain ⟨h0, e⟩ := eqB _ e
    obtain ⟨rfl, rfl⟩ := HM.run_ret e
    exact ⟨.int k (shrI k x y), by simp [binOp, Op.shift, Int.not_lt.2 h0, shrI], rfl⟩
  · rename_i hns hns'
    split at e
    · cases e
    · rename_i hk
      have := sameK_eq hk
      subst this
      split at e
      · obtain ⟨rfl, rfl⟩ := HM.run_ret e; exact ⟨_, by simp [binOp, Op.intArith], rfl⟩
      · obtain ⟨rfl, rfl⟩ := HM.run_ret e; exact ⟨_, by simp [binOp, Op.intArith], rfl⟩
      · obtain ⟨rfl, rfl⟩ := HM.run_ret e; exact ⟨_, by simp [binOp, Op.intArith], rfl⟩
      · obtain ⟨h0, e⟩ := eqB _ e
        obtain ⟨rfl, rfl⟩ := HM.run_ret e; exact ⟨_, by simp [binOp, Op.intDiv, h0], rfl⟩
      · obtain ⟨h0, e⟩ := eqB _ e
        obtain ⟨rfl, rfl⟩ := HM.run_ret e; exact ⟨_, by simp [binOp, Op.intDiv, h0], rfl⟩
      · obtain ⟨rfl, rfl⟩ := HM.run_ret e; exact ⟨.bool (decide (x = y)), by simp [binOp, Op.intCmp, hbq], rfl⟩
      · obtain ⟨rfl, rfl⟩ := HM.run_ret e; exact ⟨.bool (decide (x ≠ y)), by simp [binOp, Op.intCmp, bne, hbq], rfl⟩
      · obtain ⟨rfl, rfl⟩ := HM.run_ret e; exact ⟨_, by simp [binOp, Op.intCmp], rfl⟩
      · obtain ⟨rfl, rfl⟩ := HM.run_ret e; exact ⟨_, by simp [binOp, Op.intCmp], rfl⟩
      · obtain ⟨rfl, rfl⟩ := HM.run_ret e; exact ⟨_, by simp [binOp, Op.intCmp], rfl⟩
      · obtain ⟨rfl, rfl⟩ := HM.run_ret e; exact ⟨_, by simp [binOp, Op.intCmp], rfl⟩
      · obtain ⟨rfl, rfl⟩ := HM.run_ret e
        cases op <;> first | (exact absurd rfl ‹_›) | exact ⟨_, by simp [binOp, Op.intBits, bitsI], rfl⟩

end
end Go.Eng

/-
  The abstract machine, part 7: the other operations that make a value alone.
-/
namespace Go.Eng

section
variable {c : Ctx} {I : Nat → Prop} {L : Ref → Option Pl} {s : St} {a : Act} {w : World} {call : CallF}

theorem descOf_bool {P : Program} {d : TypeDesc} (h : descOf P d = .bool) : d = .bool := by cases d <;> simp [descOf] at h ⊢
theorem descOf_iface {P : Program} {d : TypeDesc} (h : descOf P d = .iface) : ∃ ms, d = .interface ms := by cases d <;> simp [descOf] at h ⊢
theorem descOf_ptr {P : Program} {d : TypeDesc} {e : TypeId} (h : descOf P d = .ptr e) : d = .pointer e := by cases d <;> simp [descOf] at h ⊢; exact h
theorem descOf_slice {P : Program} {d : TypeDesc} {e : TypeId} (h : descOf P d = .slice e) : d = .slice e := by cases d <;> simp [descOf] at h ⊢; exact h
theorem descOf_int {P : Program} {d : TypeDesc} {k : IntKind} (h : descOf P d = .int k) : d = .int k := by cases d <;> simp [descOf] at h ⊢; exact h
theorem descOf_float {P : Program} {d : TypeDesc} {k : FloatKind} (h : descOf P d = .float k) : d = .float k := by cases d <;> simp [descOf] at h ⊢; exact h
theorem descOf_str {P : Program} {d : TypeDesc} (h : descOf P d = .str) : d = .string := by cases d <;> simp [descOf] at h ⊢
theorem descOf_arr {P : Program} {d : TypeDesc} {n : Nat} {e : TypeId} (h : descOf P d = .arr n e) : d = .array n e := by cases d <;> simp [descOf] at h ⊢; exact h
theorem descOf_struct {P : Program} {d : TypeDesc} {l : List (TypeId × Nat × Nat)} (h : descOf P d = .struct l) : ∃ fs : Array Field, d = .struct fs ∧ fs.toList.map (fun f => (f.type, f.offset, P.cellsOf f.type)) = l := by
  cases d <;> simp [descOf] at h ⊢; exact h

theorem eqGuard_const {P : Program} {w : World} (op : BinOp) (t : TypeId) (ox oy : Operand) (hc : (isConst ox || isConst oy) = true) : (eqGuard op t ox oy .nilIface .nilIface).run P w = .ok () w := by
  cases op <;> first | rfl | (cases ox <;> cases oy <;> first | rfl | (simp [isConst] at hc))

theorem eq_run {P : Program} {t : TypeId} {v u : Value} {b : Bool} (h : ∀ n, (Op.equalIn (n + 1) t v u).run P w = .ok b w) : (Op.equal t v u).run P w = .ok b w := h 9999

/-- no number and no text -/
def notNum : Value → Bool
  | .bool _ | .nilIface | .iface _ _ | .pointer _ | .slice _ _ _ => true
  | _ => false

theorem binOp_eq {P : Program} {t : TypeId} {v u : Value} {b : Bool} (hn : notNum v = true) (h : (Op.equal t v u).run P w = .ok b w) :
    (binOp .eql t v u).run P w = .ok (.bool b) w ∧ (binOp .neq t v u).run P w = .ok (.bool !b) w := by
  cases v <;> first | (cases hn; done) | (cases u <;> simp [binOp, h])

set_option maxHeartbeats 2000000 in
theorem eqA_sound {P : Program} {t : TypeId} {ti : TyI} {d : TypeDesc} {i : TypeInfo} {z : Value} {E : Env} (hE : EnvOK P E) {S : Ini} {w0 : World} (hT : TyOK P E.toNames t ti d i z) (hW : WOK P E S w0)
    (hsame : ∀ b, S.G b → w.heap[b]? = w0.heap[b]?) {R : RC} (hinj : ∀ k i j b, R.H k i = some b → R.H k j = some b → i = j)  (hR : R.T = statOf E S) {op : BinOp} {ox oy : Operand} {x y : AV} {v u : Value} (hx : Rep R L x v) (hy : Rep R L y u) {h : Ref → Option Blk} {b : Bool} {rs : List Nat}
    (hcell : ∀ k i b {tb : Blk} {cs : List Cell} {l : List (Val (rowsTy cs))} {st : List (Nat × Nat)} {gs : List Nat}, h (.l k) = some tb → tb.ct = .tab cs l st gs → isMapK cs = false → R.H k i = some b → ∃ cs T, w.heap[b]? = some (.cells cs T (0, 0)))
    (e : (eqA ti.desc (someE E ti.desc) (isConst ox || isConst oy) x y).run call h = some (b, rs)) : (eqGuard op t ox oy v u).run P w = .ok () w ∧ (Op.equal t v u).run P w = .ok b w ∧ notNum v = true := by
  have hg := eqGuard_const (P := P) (w := w) op t ox oy
  have hd := hT.desc
  have hu := hT.run_u
  unfold eqA at e
  split at e
  · rename_i p q htd
    rw [htd] at hd
    obtain rfl := descOf_bool hd
    simp only [Rep] at hx hy
    subst hx; subst hy
    obtain ⟨rfl, rfl⟩ := HM.run_ret e
    exact ⟨by simp [eqGuard], eq_run fun n => by simp [Op.equalIn, hu], rfl⟩
  · rename_i htd
    rw [htd] at hd
    obtain ⟨ms, rfl⟩ := descOf_iface hd
    simp only [Rep] at hx hy
    subst hx; subst hy
    split at e
    · rename_i hc
      obtain ⟨rfl, rfl⟩ := HM.run_ret e
      exact ⟨hg hc, eq_run fun n => by simp [Op.equalIn, hu], rfl⟩
    · cases e
  · rename_i htd
    rw [htd] at hd
    obtain ⟨ms, rfl⟩ := descOf_iface hd
    simp only [Rep] at hx hy
    subst hx
    obtain ⟨z1, rfl, _⟩ := hy
    obtain ⟨rfl, rfl⟩ := HM.run_ret e
    exact ⟨by simp [eqGuard], eq_run fun n => by simp [Op.equalIn, hu], rfl⟩
  · rename_i htd
    rw [htd] at hd
    obtain ⟨ms, rfl⟩ := descOf_iface hd
    simp only [Rep] at hx hy
    subst hy
    obtain ⟨z1, rfl, _⟩ := hx
    obtain ⟨rfl, rfl⟩ := HM.run_ret e
    exact ⟨by simp [eqGuard], eq_run fun n => by simp [Op.equalIn, hu], rfl⟩
  · rename_i er htd
    rw [htd] at hd
    obtain ⟨ms, rfl⟩ := descOf_iface hd
    simp only [Rep] at hx hy
    subst hy
    split at e
    · rename_i hc
      obtain ⟨rfl, rfl⟩ := HM.run_ret e
      cases er with
      | nil => simp only [RepE] at hx; subst hx; exact ⟨hg hc, eq_run fun n => by simp [Op.equalIn, hu, Er.isNil], rfl⟩
      | s g => simp only [RepE] at hx; obtain ⟨_, rfl⟩ := hx; exact ⟨by simp [eqGuard], eq_run fun n => by simp [Op.equalIn, hu, Er.isNil], rfl⟩
      | «at» p g => simp only [RepE] at hx; obtain ⟨_, _, rfl, _⟩ := hx; exact ⟨by simp [eqGuard], eq_run fun n => by simp [Op.equalIn, hu, Er.isNil], rfl⟩
    · cases e
  · rename_i er htd
    rw [htd] at hd
    obtain ⟨ms, rfl⟩ := descOf_iface hd
    simp only [Rep] at hx hy
    subst hx
    split at e
    · rename_i hc
      obtain ⟨rfl, rfl⟩ := HM.run_ret e
      cases er with
      | nil => simp only [RepE] at hy; subst hy; exact ⟨hg hc, eq_run fun n => by simp [Op.equalIn, hu, Er.isNil], rfl⟩
      | s g => simp only [RepE] at hy; obtain ⟨_, rfl⟩ := hy; exact ⟨by simp [eqGuard], eq_run fun n => by simp [Op.equalIn, hu, Er.isNil], rfl⟩
      | «at» p g => simp only [RepE] at hy; obtain ⟨_, _, rfl, _⟩ := hy; exact ⟨by simp [eqGuard], eq_run fun n => by simp [Op.equalIn, hu, Er.isNil], rfl⟩
    · cases e
  · rename_i e1 e2 htd
    rw [htd] at hd
    obtain ⟨ms, rfl⟩ := descOf_iface hd
    obtain ⟨hok, e⟩ := HM.run_chk e
    obtain ⟨rfl, rfl⟩ := HM.run_ret e
    simp only [Rep] at hx hy
    cases e1 with
    | nil =>
      simp only [RepE] at hx
      subst hx
      cases e2 with
      | nil => cases hok
      | s g => simp only [RepE] at hy; obtain ⟨_, rfl⟩ := hy; exact ⟨by simp [eqGuard], eq_run fun n => by simp [Op.equalIn, hu], rfl⟩
      | «at» p g => simp only [RepE] at hy; obtain ⟨_, _, rfl, _⟩ := hy; exact ⟨by simp [eqGuard], eq_run fun n => by simp [Op.equalIn, hu], rfl⟩
    | s g =>
      simp only [RepE] at hx
      obtain ⟨hv, rfl⟩ := hx
      cases e2 with
      | nil => simp only [RepE] at hy; subst hy; exact ⟨by simp [eqGuard], eq_run fun n => by simp [Op.equalIn, hu], rfl⟩
      | s g' =>
        simp only [RepE] at hy
        obtain ⟨hv', rfl⟩ := hy
        rw [hR] at hv hv' ⊢
        refine ⟨by simp [eqGuard], ?_, rfl⟩
        have := hW.eqs w hsame t ms hT.u g g' hv hv'
        simpa [statOf] using this
      | «at» p g' =>
        simp only [RepE] at hy
        obtain ⟨_, _, rfl, _⟩ := hy
        have hne : R.T.N.errT ≠ R.T.N.atT := by rw [hR]; exact fun h => hW.ne h.symm
        exact ⟨by simp [eqGuard], eq_run fun n => by simp [Op.equalIn, hu, hne], rfl⟩
    | «at» p g =>
      simp only [RepE] at hx
      obtain ⟨_, _, rfl, _⟩ := hx
      cases e2 with
      | nil => simp only [RepE] at hy; subst hy; exact ⟨by simp [eqGuard], eq_run fun n => by simp [Op.equalIn, hu], rfl⟩
      | s g' =>
        simp only [RepE] at hy
        obtain ⟨_, rfl⟩ := hy
        have hne : R.T.N.atT ≠ R.T.N.errT := by rw [hR]; exact hW.ne
        exact ⟨by simp [eqGuard], eq_run fun n => by simp [Op.equalIn, hu, hne], rfl⟩
      | «at» p g' => cases hok
  · rename_i et htd
    rw [htd] at hd
    obtain rfl := descOf_ptr hd
    simp only [Rep] at hx hy
    subst hx; subst hy
    obtain ⟨rfl, rfl⟩ := HM.run_ret e
    exact ⟨by simp [eqGuard], eq_run fun n => by simp [Op.equalIn, hu], rfl⟩
  · rename_i et id i' j g htd
    rw [htd] at hd
    obtain rfl := descOf_ptr hd
    simp only [Rep] at hx hy
    subst hx
    obtain ⟨_, _, _, _, rfl, _⟩ := hy
    obtain ⟨rfl, rfl⟩ := HM.run_ret e
    exact ⟨by simp [eqGuard], eq_run fun n => by simp [Op.equalIn, hu], rfl⟩
  · rename_i et id i' j g htd
    rw [htd] at hd
    obtain rfl := descOf_ptr hd
    simp only [Rep] at hx hy
    subst hy
    obtain ⟨_, _, _, _, rfl, _⟩ := hx
    obtain ⟨rfl, rfl⟩ := HM.run_ret e
    exact ⟨by simp [eqGuard], eq_run fun n => by simp [Op.equalIn, hu], rfl⟩
  · rename_i et r j htd
    rw [htd] at hd
    obtain rfl := descOf_ptr hd
    simp only [Rep] at hx hy
    subst hx
    obtain ⟨_, _, rfl, _⟩ := hy
    obtain ⟨rfl, rfl⟩ := HM.run_ret e
    exact ⟨by simp [eqGuard], eq_run fun n => by simp [Op.equalIn, hu], rfl⟩
  · rename_i et r j htd
    rw [htd] at hd
    obtain rfl := descOf_ptr hd
    simp only [Rep] at hx hy
    subst hy
    obtain ⟨_, _, rfl, _⟩ := hx
    obtain ⟨rfl, rfl⟩ := HM.run_ret e
    exact ⟨by simp [eqGuard], eq_run fun n => by simp [Op.equalIn, hu], rfl⟩
  · rename_i et k x htd
    rw [htd] at hd
    obtain rfl := descOf_ptr hd
    simp only [Rep] at hx hy
    subst hx
    cases x with
    | none =>
      have hy : [u] = [.pointer none] := hy
      injection hy with hy
      subst hy
      obtain ⟨rfl, rfl⟩ := HM.run_ret e
      exact ⟨by simp [eqGuard], eq_run fun n => by simp [Op.equalIn, hu], rfl⟩
    | some i =>
      obtain ⟨b, _, hy⟩ := hy
      injection hy with hy
      subst hy
      obtain ⟨rfl, rfl⟩ := HM.run_ret e
      exact ⟨by simp [eqGuard], eq_run fun n => by simp [Op.equalIn, hu], rfl⟩
  · rename_i et k x htd
    rw [htd] at hd
    obtain rfl := descOf_ptr hd
    simp only [Rep] at hx hy
    subst hy
    cases x with
    | none =>
      have hx : [v] = [.pointer none] := hx
      injection hx with hx
      subst hx
      obtain ⟨rfl, rfl⟩ := HM.run_ret e
      exact ⟨by simp [eqGuard], eq_run fun n => by simp [Op.equalIn, hu], rfl⟩
    | some i =>
      obtain ⟨b, _, hx⟩ := hx
      injection hx with hx
      subst hx
      obtain ⟨rfl, rfl⟩ := HM.run_ret e
      exact ⟨by simp [eqGuard], eq_run fun n => by simp [Op.equalIn, hu], rfl⟩
  · rename_i et k x k' y htd
    rw [htd] at hd
    obtain rfl := descOf_ptr hd
    obtain ⟨tb, l', htb, e', rfl⟩ := HM.run_rd e
    clear e
    have e := e'
    clear e'
    split at e
    · rename_i tcs tl tst tgs htct
      split at e
      · rename_i hkk
        obtain ⟨hsz, hkk, hmk⟩ := hkk
        subst hkk
        rw [htd] at hsz
        simp only [someE] at hsz
        obtain ⟨ei, hei, hsz⟩ : ∃ ei, E.ty et = some ei ∧ 0 < ei.size := by
          split at hsz
          · rename_i ei hei; exact ⟨ei, hei, of_decide_eq_true hsz⟩
          · cases hsz
        obtain ⟨d2, i2, z2, hT2⟩ := hE.ty _ ei hei
        obtain ⟨rfl, rfl⟩ := HM.run_ret e
        simp only [Rep] at hx hy
        cases x with
        | none =>
          have hx : [v] = [.pointer none] := hx
          injection hx with hx
          subst hx
          cases y with
          | none =>
            have hy : [u] = [.pointer none] := hy
            injection hy with hy
            subst hy
            exact ⟨by simp [eqGuard], eq_run fun n => by simp [Op.equalIn, hu], rfl⟩
          | some j =>
            obtain ⟨b, _, hy⟩ := hy
            injection hy with hy
            subst hy
            exact ⟨by simp [eqGuard], eq_run fun n => by simp [Op.equalIn, hu], rfl⟩
        | some i =>
          obtain ⟨b, hb, hx⟩ := hx
          injection hx with hx
          subst hx
          cases y with
          | none =>
            have hy : [u] = [.pointer none] := hy
            injection hy with hy
            subst hy
            exact ⟨by simp [eqGuard], eq_run fun n => by simp [Op.equalIn, hu], rfl⟩
          | some j =>
            obtain ⟨b', hb', hy⟩ := hy
            injection hy with hy
            subst hy
            refine ⟨by simp [eqGuard], eq_run fun n => ?_, rfl⟩
            have hs0 : ¬ ei.size = 0 := by omega
            by_cases hbb : b = b'
            · subst hbb
              obtain rfl := hinj k i j b hb hb'
              simp [Op.equalIn, hu, hT2.run_size, hs0, run_sameAddr_same]
            · have hij : ¬ i = j := fun h => by subst h; rw [hb] at hb'; injection hb' with hb'; exact hbb hb'
              obtain ⟨c1, T1, h1⟩ := hcell k i b htb htct hmk hb
              obtain ⟨c2, T2, h2⟩ := hcell k j b' htb htct hmk hb'
              have := run_sameAddr_other (P := P) w (a := ⟨b, 0, none⟩) (b := ⟨b', 0, none⟩) (fun h => hbb (by injection h)) h1 h2
              simp [Op.equalIn, hu, hT2.run_size, hs0, this, hij, hbb]
      · cases e
    · cases e
  · rename_i et r j htd
    rw [htd] at hd
    obtain rfl := descOf_slice hd
    simp only [Rep] at hx hy
    subst hy
    obtain ⟨_, ad, k1, k2, rfl⟩ := hx
    obtain ⟨rfl, rfl⟩ := HM.run_ret e
    refine ⟨by simp [eqGuard], eq_run fun n => ?_, rfl⟩
    unfold Op.equalIn
    simp only [Sem.run_bind, hu, Result.andThen_ok]
    rfl
  · rename_i et htd
    rw [htd] at hd
    obtain rfl := descOf_slice hd
    simp only [Rep] at hx hy
    subst hx; subst hy
    obtain ⟨rfl, rfl⟩ := HM.run_ret e
    refine ⟨by simp [eqGuard], eq_run fun n => ?_, rfl⟩
    unfold Op.equalIn
    simp only [Sem.run_bind, hu, Result.andThen_ok]
    rfl
  · cases e

end
end Go.Eng

/-
  The abstract machine, part 8: the rest of the operations that make a value alone.
-/
namespace Go.Eng

theorem RepT.cell {R : RC} : ∀ (t : Ty) {x : Val t} {cs : List Value}, RepT R t x cs → ∀ v, v ∈ cs → v.oneCell' = true
  | .int k, _, _, h, v, hv => by simp only [RepT] at h; subst h; simp at hv; subst hv; rfl
  | .bool, _, _, h, v, hv => by simp only [RepT] at h; subst h; simp at hv; subst hv; rfl
  | .str, _, _, h, v, hv => by simp only [RepT] at h; subst h; simp at hv; subst hv; rfl
  | .flt, _, _, h, v, hv => by simp only [RepT] at h; subst h; simp at hv; subst hv; rfl
  | .err, e, _, h, v, hv => by
    obtain ⟨y, rfl, he⟩ := h
    simp at hv
    subst hv
    cases e with
    | nil => simp only [RepE] at he; subst he; rfl
    | s g => simp only [RepE] at he; obtain ⟨_, rfl⟩ := he; rfl
    | «at» p g => simp only [RepE] at he; obtain ⟨_, _, rfl, _⟩ := he; rfl
  | .unit, _, _, h, v, hv => by simp only [RepT] at h; subst h; cases hv
  | .nat, _, _, h, v, hv => by simp only [RepT] at h; subst h; cases hv
  | .pair a b, _, _, h, v, hv => by
    obtain ⟨c, d, rfl, hc, hd⟩ := h
    rcases List.mem_append.1 hv with hv | hv
    · exact RepT.cell a hc v hv
    · exact RepT.cell b hd v hv
  | .st a, _, _, h, v, hv => by simp only [RepT] at h; exact RepT.cell a h v hv
  | .sl a, l, _, h, v, hv => by obtain ⟨_, _, rfl, _⟩ := h; simp at hv; subst hv; rfl
  | .ref a, x, _, h, v, hv => by obtain ⟨b, o, rfl, _⟩ := h; simp at hv; subst hv; rfl
  | .clo f c, x, _, h, v, hv => by obtain ⟨cap, rfl, _⟩ := h; simp at hv; subst hv; rfl
  | .hd k, x, _, h, v, hv => by
    cases x with
    | none => have h : _ = _ := h; rw [h] at hv; simp at hv; subst hv; rfl
    | some i => obtain ⟨_, _, rfl⟩ := h; simp at hv; subst hv; rfl
  | .mh k, x, _, h, v, hv => by
    cases x with
    | none => have h : _ = _ := h; rw [h] at hv; simp at hv; subst hv; rfl
    | some i => obtain ⟨_, _, rfl⟩ := h; simp at hv; subst hv; rfl
  | .dn, _, _, h, v, hv => by have h : _ = _ := h; rw [h] at hv; simp at hv; subst hv; rfl
  | .dy t a r, x, _, h, v, hv => by
    cases x with
    | inl y => obtain ⟨_, _, rfl⟩ := h; simp at hv; subst hv; rfl
    | inr y => exact RepT.cell r h.1 v hv

section
variable {c : Ctx} {I : Nat → Prop} {L : Ref → Option Pl} {s : St} {a : Act} {w : World} {call : CallF}

theorem cells_sound {R : RC} {L : Ref → Option Pl} {x : AV} {v : Value} {cs : List AV} (h : x.cells = some cs) (hx : Rep R L x v) : RepL R L cs v.cells.toList := by
  have one : ∀ {x : AV} {v : Value}, Rep R L x v → (∀ l, v ≠ .agg l) → RepL R L [x] v.cells.toList := by
    intro x v hx hv
    cases v <;> first | (exact absurd rfl (hv _)) | (simp only [Value.cells, RepL]; exact ⟨_, [], rfl, hx, rfl⟩)
  unfold AV.cells at h
  split at h
  · injection h with h
    subst h
    simp only [Rep] at hx
    obtain ⟨cs, rfl, hl⟩ := hx
    exact hl
  · cases h
  · cases h
  · cases h
  · cases h
  · rename_i h1 h2 h3 h4 h5
    injection h with h
    subst h
    refine one hx fun l hv => ?_
    subst hv
    cases x with
    | v y => simp only [Rep] at hx; exact h4 _ (by rw [← hx])
    | er e => simp only [Rep] at hx; cases e with
      | nil => simp only [RepE] at hx; cases hx
      | s g => simp only [RepE] at hx; obtain ⟨_, hx⟩ := hx; cases hx
      | «at» p g => simp only [RepE] at hx; obtain ⟨_, _, hx, _⟩ := hx; cases hx
    | agg l => exact h1 _ rfl
    | tup l => exact h2 _ rfl
    | isl t l => simp only [Rep] at hx; obtain ⟨_, _, hx, _⟩ := hx; cases hx
    | nsl t l => simp only [Rep] at hx; obtain ⟨_, _, _, _, hx⟩ := hx; cases hx
    | iptr r j => simp only [Rep] at hx; obtain ⟨_, _, hx, _⟩ := hx; cases hx
    | gptr g j => simp only [Rep] at hx; cases hx
    | lsl t id i n g => simp only [Rep] at hx; obtain ⟨_, _, _, _, _, _, hx, _⟩ := hx; cases hx
    | lptr id i j g => simp only [Rep] at hx; obtain ⟨_, _, _, _, hx, _⟩ := hx; cases hx
    | iface t y => simp only [Rep] at hx; obtain ⟨_, hx, _⟩ := hx; cases hx
    | fn f a1 c1 => simp only [Rep] at hx; obtain ⟨_, _, hx, _⟩ := hx; cases hx
    | hd k x =>
      simp only [Rep] at hx
      cases x with
      | none => have hx : [_] = [_] := hx; cases hx
      | some i => obtain ⟨_, _, hx⟩ := hx; cases hx
    | mh k x =>
      simp only [Rep] at hx
      cases x with
      | none => have hx : [_] = [_] := hx; cases hx
      | some i => obtain ⟨_, _, hx⟩ := hx; cases hx
    | dy t x =>
      simp only [Rep] at hx
      have := RepT.cell t hx _ (List.mem_singleton.2 rfl)
      cases this
    | top => exact h3 rfl

theorem isCell_sound {R : RC} {L : Ref → Option Pl} {x : AV} {v : Value} (h : x.isCell = true) (hx : Rep R L x v) : v.oneCell' = true := by
  cases x with
  | v y => simp only [Rep] at hx; subst hx; cases v <;> first | rfl | cases h
  | er e => simp only [Rep] at hx; cases e with
    | nil => simp only [RepE] at hx; subst hx; rfl
    | s g => simp only [RepE] at hx; obtain ⟨_, rfl⟩ := hx; rfl
    | «at» p g => simp only [RepE] at hx; obtain ⟨_, _, rfl, _⟩ := hx; rfl
  | agg l => cases h
  | tup l => cases h
  | isl t l => simp only [Rep] at hx; obtain ⟨_, _, hx, _⟩ := hx; simp only [List.cons.injEq, and_true] at hx; subst hx; rfl
  | nsl t l => simp only [Rep] at hx; obtain ⟨_, _, _, _, rfl⟩ := hx; rfl
  | iptr r j => simp only [Rep] at hx; obtain ⟨_, _, rfl, _⟩ := hx; rfl
  | gptr g j => simp only [Rep] at hx; subst hx; rfl
  | lsl t id i n g => simp only [Rep] at hx; obtain ⟨_, _, _, _, _, _, rfl, _⟩ := hx; rfl
  | lptr id i j g => simp only [Rep] at hx; obtain ⟨_, _, _, _, rfl, _⟩ := hx; rfl
  | iface t y => simp only [Rep] at hx; obtain ⟨_, rfl, _⟩ := hx; rfl
  | fn f a1 c1 => simp only [Rep] at hx; obtain ⟨_, _, rfl, _⟩ := hx; rfl
  | hd k x =>
    simp only [Rep] at hx
    cases x with
    | none => have hx : [_] = [_] := hx; injection hx with hx; subst hx; rfl
    | some i => obtain ⟨_, _, hx⟩ := hx; injection hx with hx; subst hx; rfl
  | mh k x =>
    simp only [Rep] at hx
    cases x with
    | none => have hx : [_] = [_] := hx; injection hx with hx; subst hx; rfl
    | some i => obtain ⟨_, _, hx⟩ := hx; injection hx with hx; subst hx; rfl
  | dy t x =>
    simp only [Rep] at hx
    exact RepT.cell t hx _ (List.mem_singleton.2 rfl)
  | top => cases h

/-- cells laid into cells -/
def wrAt (cs : Array Value) (j : Nat) : List Value → Array Value
  | [] => cs
  | v :: r => wrAt (cs.setIfInBounds j v) (j + 1) r

theorem wrAt_size : ∀ (vs : List Value) (cs : Array Value) (j : Nat), (wrAt cs j vs).size = cs.size
  | [], _, _ => rfl
  | v :: r, cs, j => by simp only [wrAt]; rw [wrAt_size r]; simp

theorem setRow_length : ∀ (cs row : List AV) (j : Nat), (setRow row j cs).length = row.length
  | [], _, _ => rfl
  | x :: r, row, j => by simp only [setRow]; rw [setRow_length r]; simp

theorem setRow_sound {R : RC} {L : Ref → Option Pl} : ∀ {cs : List AV} {vs : List Value} {row : List AV} {ys : Array Value} {j : Nat}, RepL R L row ys.toList → RepL R L cs vs → RepL R L (setRow row j cs) (wrAt ys j vs).toList
  | [], vs, row, ys, j, hr, hc => by simp only [RepL] at hc; subst hc; exact hr
  | x :: r, vs, row, ys, j, hr, hc => by
    simp only [RepL] at hc
    obtain ⟨y, t, rfl, hy, ht⟩ := hc
    simp only [setRow, wrAt]
    refine setRow_sound ?_ ht
    rw [Array.toList_setIfInBounds]
    exact hr.set j hy

theorem wrAt_fold : ∀ (vs : List Value) (cells : Array Value) (off k : Nat), (vs.zipIdx k).foldl (fun cs (x : Value × Nat) => cs.setIfInBounds (off + x.2) x.1) cells = wrAt cells (off + k) vs
  | [], _, _, _ => rfl
  | v :: r, cells, off, k => by
    simp only [List.zipIdx_cons, List.foldl_cons, wrAt]
    rw [wrAt_fold r _ off (k + 1)]
    rfl

theorem fill_sound {R : RC} {L : Ref → Option Pl} {place : Nat → Option (Nat × Nat)} : ∀ {parts : List (Nat × AV)} {vparts : List (Nat × Value)} {row out : List AV} {ys : Array Value},
    parts.map (·.1) = vparts.map (·.1) → RepL R L (parts.map (·.2)) (vparts.map (·.2)) → RepL R L row ys.toList → fillA place row parts = some out →
    ∃ zs, Instr.fill place ys vparts = some zs ∧ RepL R L out zs.toList
  | [], vparts, row, out, ys, h1, h2, hr, e => by
    have : vparts = [] := by cases vparts <;> simp at h1 ⊢
    subst this
    simp only [fillA, Option.some.injEq] at e
    subst e
    exact ⟨ys, rfl, hr⟩
  | (i, x) :: rest, vparts, row, out, ys, h1, h2, hr, e => by
    cases vparts with
    | nil => simp at h1
    | cons pv vrest =>
      obtain ⟨i', v⟩ := pv
      simp only [List.map_cons, List.cons.injEq] at h1
      obtain ⟨rfl, h1⟩ := h1
      simp only [List.map_cons, RepL] at h2
      obtain ⟨y, t, hyt, hy, ht⟩ := h2
      simp only [List.cons.injEq] at hyt
      obtain ⟨rfl, rfl⟩ := hyt
      simp only [fillA] at e
      split at e
      · rename_i off size cs hp hcs
        split at e
        · rename_i hc
          obtain ⟨hsz, hle⟩ := hc
          have hcell := cells_sound hcs hy
          have hlen := hcell.length
          have hrl := hr.length
          obtain ⟨zs, hz, ho⟩ := fill_sound (ys := wrAt ys off v.cells.toList) h1 ht (setRow_sound hr hcell) e
          refine ⟨zs, ?_, ho⟩
          have hsz' : v.cells.size = size := by simpa [hsz] using hlen
          have hle' : ¬ (ys.size < off + v.cells.size) := by
            have : ys.size = row.length := by simpa using hrl
            omega
          simp only [Instr.fill, hp, hsz', ne_eq, not_true_eq_false, decide_false, Bool.false_or, decide_eq_true_eq]
          rw [if_neg (by rw [← hsz']; simpa using hle')]
          have hf := wrAt_fold v.cells.toList ys off 0
          rw [Nat.add_zero] at hf
          rw [← hz, ← hf]
          congr 1
          rw [← Array.foldl_toList]
          simp
        · cases e
      · cases e

end
end Go.Eng

/-
  The abstract machine, part 9: each operation that makes a value alone.
-/
namespace Go.Eng

section
variable {c : Ctx} {I : Nat → Prop} {L : Ref → Option Pl} {s : St} {a : Act} {w : World} {call : CallF}

theorem run_vbind {m : HM AV} {h : Ref → Option Blk} {δ : Dl} {rs : List Nat} (e : (m.bind fun x => HM.ret (val x)).run call h = some (δ, rs)) :
    ∃ x, m.run call h = some (x, rs) ∧ δ = val x := by
  obtain ⟨x, l1, l2, h1, h2, rfl⟩ := HM.run_bind e
  obtain ⟨rfl, rfl⟩ := HM.run_ret h2
  exact ⟨x, by simpa using h1, rfl⟩

theorem op_build (h : Sim c I L s a w) (hE : EnvOK c.P c.E) {t : TypeId} {parts : Array (Nat × Operand)} {o : Oper} (ho : o.op = .build t parts) {newId : Nat} {δ : Dl} {rs : List Nat}
    (e : (aop c.E (aeval s.env) newId o.op).run call s.rd = some (δ, rs)) : OpOK c s a w o δ := by
  rw [ho] at e
  simp only [aop] at e
  have hmap : ((parts.toList.map fun (i, x) => (i, aeval s.env x)).map (·.1)) = ((parts.toList.map fun (i, x) => (i, a.eval x)).map (·.1)) := by simp
  have hrep : RepL (c.rc I L w) L ((parts.toList.map fun (i, x) => (i, aeval s.env x)).map (·.2)) ((parts.toList.map fun (i, x) => (i, a.eval x)).map (·.2)) := by
    have := h.evalL (parts.toList.map (·.2))
    simpa [Function.comp_def] using this
  split at e
  · rename_i ti hty
    obtain ⟨d, i, z, hT⟩ := hE.ty t ti hty
    split at e
    · rename_i fs hd
      split at e
      · rename_i cs hf
        obtain ⟨rfl, rfl⟩ := HM.run_ret e
        have hd' := hT.desc
        rw [hd] at hd'
        obtain ⟨fa, rfl, hfs⟩ := descOf_struct hd'
        obtain ⟨zs, hz, hr⟩ := fill_sound hmap hrep (hT.zeroL _ L) hf
        refine OpOK.value h (v := .agg zs) ?_ (by simp only [Rep]; exact ⟨zs, rfl, hr⟩)
        have hpl : fa.toList.mapM (fun f => (c.P.info? f.type).map fun i => (f.offset, i.size)) = some (fs.map (·.2)) := by
          rw [← hfs]
          have key : ∀ l : List Field, (∀ f, f ∈ l → (c.P.info? f.type).isSome = true) → l.mapM (fun f => (c.P.info? f.type).map fun i => (f.offset, i.size)) = some ((l.map fun f => (f.type, f.offset, c.P.cellsOf f.type)).map (·.2)) := by
            intro l
            induction l with
            | nil => intro _; rfl
            | cons f r ih =>
              intro hl
              obtain ⟨i, hi⟩ := Option.isSome_iff_exists.1 (hl f (by simp))
              have := ih fun g hg => hl g (by simp [hg])
              simp [List.mapM_cons, this, hi, Program.cellsOf]
          exact key _ fun f hf => hT.flds fa rfl f hf
        have hz' : Instr.fill (fun x => Option.map (fun x => x.snd) fs[x]?) z.cells (List.map (fun x => (x.fst, a.eval x.snd)) parts.toList) = some zs := hz
        simp only [execOp, ho]
        simp [Instr.build, hT.run_u, hT.run_zero, Array.mapM_eq_mapM_toList, run_places w _ _ hpl, hz']
      · cases e
    · rename_i n et hd
      split at e
      · rename_i ei hei
        split at e
        · rename_i cs hf
          obtain ⟨rfl, rfl⟩ := HM.run_ret e
          obtain ⟨d2, i2, z2, hT2⟩ := hE.ty et ei hei
          have hd' := hT.desc
          rw [hd] at hd'
          obtain rfl := descOf_arr hd'
          obtain ⟨zs, hz, hr⟩ := fill_sound hmap hrep (hT.zeroL _ L) hf
          refine OpOK.value h (v := .agg zs) ?_ (by simp only [Rep]; exact ⟨zs, rfl, hr⟩)
          simp only [execOp, ho]
          simp [Instr.build, hT.run_u, hT.run_zero, hT2.run_size, hz]
        · cases e
      · cases e
    · cases e
  · cases e

theorem moved_sound {R : RC} {L : Ref → Option Pl} {x y : AV} {v : Value} {d : Nat} (e : x.moved d = some y) (hx : Rep R L x v) :
    ∃ q : Addr, v = .pointer (some q) ∧ Rep R L y (.pointer (some (q.add d))) := by
  unfold AV.moved at e
  split at e
  · rename_i id i j g
    injection e with e
    subst e
    simp only [Rep] at hx ⊢
    obtain ⟨p, hp, hge, q', rfl, hy⟩ := hx
    refine ⟨q', rfl, p, hp, hge, _, rfl, fun he => ?_⟩
    rw [hy he, addr_add, Nat.add_assoc]
  · injection e with e
    subst e
    simp only [Rep] at hx
    subst hx
    exact ⟨_, rfl, by simp only [Rep]; rw [addr_add]⟩
  · injection e with e
    subst e
    simp only [Rep] at hx
    obtain ⟨b, o, rfl, hb, cs, hr, ha⟩ := hx
    refine ⟨_, rfl, ?_⟩
    simp only [Rep]
    exact ⟨b, o, by rw [addr_add, Nat.add_assoc], hb, cs, hr, ha⟩
  · cases e

theorem fieldOf_sound {P : Program} {E : Env} (hE : EnvOK P E) {t : TypeId} {f : Nat} {fd : TypeId × Nat × Nat} (e : fieldOf E t f = some fd) :
    ∃ (fs : Array Field) (fl : Field), P.underlying t = some (.struct fs) ∧ fs[f]? = some fl ∧ fl.type = fd.1 ∧ fl.offset = fd.2.1 ∧ P.cellsOf fl.type = fd.2.2 ∧ (P.info? fl.type).isSome = true := by
  unfold fieldOf at e
  split at e
  · rename_i ti hty
    obtain ⟨d, i, z, hT⟩ := hE.ty t ti hty
    split at e
    · rename_i fl hd
      have hd' := hT.desc
      rw [hd] at hd'
      obtain ⟨fs, rfl, hfs⟩ := descOf_struct hd'
      rw [← hfs] at e
      simp only [List.getElem?_map, Option.map_eq_some_iff] at e
      obtain ⟨g, hg, rfl⟩ := e
      refine ⟨fs, g, hT.u, by simpa using hg, rfl, rfl, rfl, hT.flds fs rfl g ?_⟩
      exact List.mem_of_getElem? hg
    · cases e
  · cases e

theorem op_fieldAddr (h : Sim c I L s a w) (hE : EnvOK c.P c.E) {t : TypeId} {x : Operand} {f : Nat} {o : Oper} (ho : o.op = .fieldAddr t x f) {newId : Nat} {δ : Dl} {rs : List Nat}
    (e : (aop c.E (aeval s.env) newId o.op).run call s.rd = some (δ, rs)) : OpOK c s a w o δ := by
  rw [ho] at e
  simp only [aop] at e
  split at e
  · rename_i fd hfd
    split at e
    · cases e
    · rename_i hne
      obtain ⟨y, hy, rfl⟩ := run_vbind e
      obtain ⟨hm, rfl⟩ := HM.run_one hy
      obtain ⟨q, hq, hr⟩ := moved_sound hm (h.eval x)
      obtain ⟨fs, fl, hu, hfl, h1, h2, h3, h4⟩ := fieldOf_sound hE hfd
      refine OpOK.value h ?_ hr
      obtain ⟨i, hi⟩ := Option.isSome_iff_exists.1 h4
      have hsz : i.size ≠ 0 := by
        intro h0
        apply hne
        rw [← h3]
        simp [Program.cellsOf, hi, h0]
      simp only [execOp, ho]
      rw [hq]
      simp [Instr.fieldAt, underlying, hu, hfl, Instr.sureAddr, fieldPlace, sizeOf, typeInfo, hi, hsz, h2]
  · cases e

theorem op_field (h : Sim c I L s a w) (hE : EnvOK c.P c.E) {t : TypeId} {x : Operand} {f : Nat} {o : Oper} (ho : o.op = .field t x f) {newId : Nat} {δ : Dl} {rs : List Nat}
    (e : (aop c.E (aeval s.env) newId o.op).run call s.rd = some (δ, rs)) : OpOK c s a w o δ := by
  rw [ho] at e
  simp only [aop] at e
  have hx := h.eval x
  split at e
  · rename_i fd l hfd hav
    rw [hav] at hx
    simp only [Rep] at hx
    obtain ⟨cs, hv, hl⟩ := hx
    split at e
    · rename_i ti hty
      obtain ⟨y, hy, rfl⟩ := run_vbind e
      obtain ⟨hm, rfl⟩ := HM.run_one hy
      obtain ⟨d, i, z, hT⟩ := hE.ty _ ti hty
      obtain ⟨fs, fl, hu, hfl, h1, h2, h3, h4⟩ := fieldOf_sound hE hfd
      obtain ⟨y', hrun, hr⟩ := run_part hT (w := w) hl hm
      refine OpOK.value h ?_ hr
      simp only [execOp, ho]
      rw [hv]
      simp [Instr.field, underlying, hu, hfl, asAgg, h1, h2, hrun]
    · cases e
  · cases e

theorem int?_sound {R : RC} {L : Ref → Option Pl} {x : AV} {v : Value} {k : IntKind} {n : Int} (e : x.int? = some (k, n)) (hx : Rep R L x v) : v = .int k n := by
  unfold AV.int? at e
  split at e
  · simp only [Option.some.injEq, Prod.mk.injEq] at e
    obtain ⟨rfl, rfl⟩ := e
    simpa only [Rep] using hx
  · cases e

theorem op_indexAddr (h : Sim c I L s a w) (hE : EnvOK c.P c.E) {t : TypeId} {x ix : Operand} {o : Oper} (ho : o.op = .indexAddr t x ix) {newId : Nat} {δ : Dl} {rs : List Nat}
    (e : (aop c.E (aeval s.env) newId o.op).run call s.rd = some (δ, rs)) : OpOK c s a w o δ := by
  rw [ho] at e
  simp only [aop] at e
  have hx := h.eval x
  obtain ⟨y, hy, rfl⟩ := run_vbind e
  clear e
  unfold indexAddrA at hy
  split at hy
  · rename_i k0 k ti hix hty
    have hv := int?_sound hix (h.eval ix)
    obtain ⟨d, i, z, hT⟩ := hE.ty _ ti hty
    have hd' := hT.desc
    split at hy
    · rename_i el u id i' n g htd hav
      rw [htd] at hd'
      obtain rfl := descOf_slice hd'
      rw [hav] at hx
      split at hy
      · rename_i ei hei
        obtain ⟨d2, i2, z2, hT2⟩ := hE.ty _ ei hei
        split at hy
        · rename_i hsz
          obtain ⟨h1, hy⟩ := HM.run_chk hy
          obtain ⟨h2, hy⟩ := HM.run_chk hy
          obtain ⟨rfl, rfl⟩ := HM.run_ret hy
          have h1 := of_decide_eq_true h1
          have h2 := of_decide_eq_true h2
          simp only [Rep] at hx
          obtain ⟨p, hp, hw, hge, ad, cap, hs, hcap, hsome, hcur⟩ := hx
          obtain ⟨q, rfl⟩ := Option.isSome_iff_exists.1 (hsome (by omega))
          refine OpOK.value h (v := .pointer (some (q.add (k.toNat * ei.size)))) ?_ ?_
          · simp only [execOp, ho]
            rw [hs, hv]
            have hb : 0 ≤ k ∧ k < (n : Int) := ⟨h1, by omega⟩
            simp [Instr.indexAt, hT.run_u, asIntOf, hb, hT2.run_size]
          · simp only [Rep]
            refine ⟨p, hp, hge, _, rfl, fun hg => ?_⟩
            rcases hcur hg with h0 | ⟨_, hq, _⟩
            · omega
            · simp only [Option.some.injEq] at hq
              rw [hq, addr_add, ← hsz, ← hw, Nat.add_zero, Nat.add_assoc, ← Nat.add_mul]
        · cases hy
      · cases hy
    · rename_i el u l htd hav
      rw [htd] at hd'
      obtain rfl := descOf_slice hd'
      rw [hav] at hx
      split at hy
      · rename_i ei hei
        obtain ⟨d2, i2, z2, hT2⟩ := hE.ty _ ei hei
        split at hy
        · rename_i hsz
          obtain ⟨h1, hy⟩ := HM.run_chk hy
          obtain ⟨h2, hy⟩ := HM.run_chk hy
          obtain ⟨rfl, rfl⟩ := HM.run_ret hy
          have h1 := of_decide_eq_true h1
          have h2 := of_decide_eq_true h2
          simp only [Rep] at hx
          obtain ⟨ad, cap, hs, hcap, hrow⟩ := hx
          obtain ⟨b, ob, rfl, hb, hi⟩ := hrow.1 (by omega)
          obtain ⟨cc, hc, hat⟩ := hi k.toNat h2
          simp only [List.cons.injEq, and_true] at hs
          refine OpOK.value h (v := .pointer (some ⟨b, ob + k.toNat * u.size, none⟩)) ?_ ?_
          · simp only [execOp, ho]
            rw [hs, hv]
            have hb : 0 ≤ k ∧ k < (l.length : Int) := ⟨h1, by omega⟩
            simp [Instr.indexAt, hT.run_u, asIntOf, hb, hT2.run_size, addr_add, hsz]
          · simp only [Rep]
            exact ⟨b, ob + k.toNat * u.size, rfl, hb, cc, RepL.ofT u hc, hat⟩
        · cases hy
      · cases hy
    · rename_i len el htd
      rw [htd] at hd'
      obtain rfl := descOf_arr hd'
      split at hy
      · rename_i ei hei
        obtain ⟨d2, i2, z2, hT2⟩ := hE.ty _ ei hei
        split at hy
        · rename_i hb
          obtain ⟨hm, rfl⟩ := HM.run_one hy
          obtain ⟨q, hq, hr⟩ := moved_sound hm hx
          refine OpOK.value h ?_ hr
          simp only [execOp, ho]
          rw [hq, hv]
          have hb' : 0 ≤ k ∧ k < (len : Int) := ⟨hb.1, by omega⟩
          simp [Instr.indexAt, hT.run_u, asIntOf, hb', hT2.run_size, Instr.sureAddr]
        · cases hy
      · cases hy
    · cases hy
  · cases hy

end
end Go.Eng

/-
  The abstract machine, part 10: each operation that makes a value alone (the rest).
-/
namespace Go.Eng

section
variable {c : Ctx} {I : Nat → Prop} {L : Ref → Option Pl} {s : St} {a : Act} {w : World} {call : CallF}

theorem op_pick (h : Sim c I L s a w) {x y z : Operand} {o : Oper} (ho : o.op = .pick x y z) {newId : Nat} {δ : Dl} {rs : List Nat}
    (e : (aop c.E (aeval s.env) newId o.op).run call s.rd = some (δ, rs)) : OpOK c s a w o δ := by
  rw [ho] at e
  simp only [aop] at e
  have hx := h.eval x
  split at e
  · rename_i t hav
    rw [hav] at hx
    simp only [Rep] at hx
    cases t with
    | true =>
      obtain ⟨rfl, rfl⟩ := HM.run_ret (call := call) (h := s.rd) e
      exact OpOK.value h (by simp only [execOp, ho]; rw [hx]; simp [asBool]) (h.eval y)
    | false =>
      obtain ⟨rfl, rfl⟩ := HM.run_ret (call := call) (h := s.rd) e
      exact OpOK.value h (by simp only [execOp, ho]; rw [hx]; simp [asBool]) (h.eval z)
  · cases e

theorem op_nilCheck (h : Sim c I L s a w) {x : Operand} {o : Oper} (ho : o.op = .nilCheck x) {newId : Nat} {δ : Dl} {rs : List Nat}
    (e : (aop c.E (aeval s.env) newId o.op).run call s.rd = some (δ, rs)) : OpOK c s a w o δ := by
  rw [ho] at e
  simp only [aop] at e
  have hx := h.eval x
  have hx' := hx
  split at e
  · rename_i hav
    rw [hav] at hx
    simp only [Rep] at hx
    obtain ⟨_, _, _, q, hq, _⟩ := hx
    obtain ⟨rfl, rfl⟩ := HM.run_ret e
    exact OpOK.value h (by simp only [execOp, ho]; rw [hq]; rfl) (by rw [← hav, ← hq]; exact hx')
  · rename_i hav
    rw [hav] at hx
    simp only [Rep] at hx
    obtain ⟨rfl, rfl⟩ := HM.run_ret e
    exact OpOK.value h (by simp only [execOp, ho]; rw [hx]; rfl) (by rw [← hav, ← hx]; exact hx')
  · rename_i hav
    rw [hav] at hx
    simp only [Rep] at hx
    obtain ⟨_, _, hq, _⟩ := hx
    obtain ⟨rfl, rfl⟩ := HM.run_ret e
    exact OpOK.value h (by simp only [execOp, ho]; rw [hq]; rfl) (by rw [← hav, ← hq]; exact hx')
  · rename_i hav
    rw [hav] at hx
    simp only [Rep] at hx
    obtain ⟨_, hq, _⟩ := hx
    obtain ⟨rfl, rfl⟩ := HM.run_ret e
    exact OpOK.value h (by simp only [execOp, ho]; rw [hq]; rfl) (by rw [← hav, ← hq]; exact hx')
  · rename_i hav
    rw [hav] at hx
    simp only [Rep] at hx
    obtain ⟨_, _, hq, _⟩ := hx
    obtain ⟨rfl, rfl⟩ := HM.run_ret e
    exact OpOK.value h (by simp only [execOp, ho]; rw [hq]; rfl) (by rw [← hav, ← hq]; exact hx')
  · rename_i k x' hav
    rw [hav] at hx
    simp only [Rep] at hx
    obtain ⟨hs, e⟩ := HM.run_chk e
    obtain ⟨rfl, rfl⟩ := HM.run_ret e
    cases x' with
    | none => cases hs
    | some i =>
      obtain ⟨b, hb, hq⟩ := hx
      injection hq with hq
      obtain ⟨p, hp, hpb, hpo, hv, hg⟩ := h.objL hb
      refine OpOK.value h (v := .pointer (some ⟨b, 0, none⟩)) (by simp only [execOp, ho]; rw [hq]; rfl) ?_
      simp only [Rep, Option.getD_some]
      exact ⟨p, hp, Nat.zero_le _, _, rfl, fun _ => by simp [hpb, hpo]⟩
  · cases e

theorem binS_sound {op : BinOp} {x y : ByteArray} {t : TypeId} {h : Ref → Option Blk} {z : AV} {rs : List Nat} (e : (binS op x y).run call h = some (z, rs)) (P : Program) (w : World) :
    ∃ v, (binOp op t (.string x) (.string y)).run P w = .ok v w ∧ z = .v v := by
  unfold binS at e
  split at e
  · obtain ⟨rfl, rfl⟩ := HM.run_ret e; exact ⟨_, by simp [binOp, Op.stringOp], rfl⟩
  · obtain ⟨rfl, rfl⟩ := HM.run_ret e; exact ⟨_, by simp [binOp, Op.stringOp], rfl⟩
  · obtain ⟨rfl, rfl⟩ := HM.run_ret e; exact ⟨_, by simp [binOp, Op.stringOp], rfl⟩
  · obtain ⟨rfl, rfl⟩ := HM.run_ret e; exact ⟨_, by simp [binOp, Op.stringOp], rfl⟩
  · obtain ⟨h0, e⟩ := HM.run_chk e
    have h0 := of_decide_eq_true h0
    obtain ⟨rfl, rfl⟩ := HM.run_ret e
    refine ⟨.string (x ++ y), ?_, rfl⟩
    have : ¬ (IntKind.max .i64 < ((x.size + y.size : Nat) : Int)) := by
      have : IntKind.max .i64 = 9223372036854775807 := by decide
      omega
    simp only [binOp, Op.stringOp, gt_iff_lt, this, if_false, Sem.run_pure]
  · cases e

theorem binF_sound {op : BinOp} {x y : Nat} {t : TypeId} {h : Ref → Option Blk} {z : AV} {rs : List Nat} (e : (binF op x y).run call h = some (z, rs)) (P : Program) (w : World) :
    ∃ v, (binOp op t (.float .f64 x) (.float .f64 y)).run P w = .ok v w ∧ z = .v v := by
  unfold binF at e
  have ar : ∀ op, (op = BinOp.add ∨ op = .sub ∨ op = .mul ∨ op = .quo) → ∀ r, fbin op x y = some r → (binOp op t (.float .f64 x) (.float .f64 y)).run P w = .ok (.float .f64 r) w := by
    intro op hop r hr
    rcases hop with rfl | rfl | rfl | rfl <;> simp only [fbin] at hr <;> simp [binOp, Op.floatArith, hr]
  split at e
  · obtain ⟨h0, e⟩ := HM.run_chk e
    obtain ⟨rfl, rfl⟩ := HM.run_ret e
    obtain ⟨r, hr⟩ := Option.isSome_iff_exists.1 h0
    exact ⟨_, ar _ (by simp) r hr, by rw [hr]; rfl⟩
  · obtain ⟨h0, e⟩ := HM.run_chk e
    obtain ⟨rfl, rfl⟩ := HM.run_ret e
    obtain ⟨r, hr⟩ := Option.isSome_iff_exists.1 h0
    exact ⟨_, ar _ (by simp) r hr, by rw [hr]; rfl⟩
  · obtain ⟨h0, e⟩ := HM.run_chk e
    obtain ⟨rfl, rfl⟩ := HM.run_ret e
    obtain ⟨r, hr⟩ := Option.isSome_iff_exists.1 h0
    exact ⟨_, ar _ (by simp) r hr, by rw [hr]; rfl⟩
  · obtain ⟨h0, e⟩ := HM.run_chk e
    obtain ⟨rfl, rfl⟩ := HM.run_ret e
    obtain ⟨r, hr⟩ := Option.isSome_iff_exists.1 h0
    exact ⟨_, ar _ (by simp) r hr, by rw [hr]; rfl⟩
  · obtain ⟨rfl, rfl⟩ := HM.run_ret e; exact ⟨_, by simp [binOp, Op.floatCmp], rfl⟩
  · obtain ⟨rfl, rfl⟩ := HM.run_ret e; exact ⟨_, by simp [binOp, Op.floatCmp], rfl⟩
  · obtain ⟨rfl, rfl⟩ := HM.run_ret e; exact ⟨_, by simp [binOp, Op.floatCmp], rfl⟩
  · obtain ⟨rfl, rfl⟩ := HM.run_ret e; exact ⟨_, by simp [binOp, Op.floatCmp], rfl⟩
  · obtain ⟨rfl, rfl⟩ := HM.run_ret e; exact ⟨_, by simp [binOp, Op.floatCmp], rfl⟩
  · obtain ⟨rfl, rfl⟩ := HM.run_ret e; exact ⟨_, by simp [binOp, Op.floatCmp], rfl⟩
  · cases e

theorem eqGuard_num {P : Program} {w : World} (op : BinOp) (t : TypeId) (ox oy : Operand) {v u : Value} (hv : ∀ l, v ≠ .agg l) (hn : v ≠ .nilIface) : (eqGuard op t ox oy v u).run P w = .ok () w := by
  unfold eqGuard
  cases v <;> cases u <;> first | (exact absurd rfl hn) | (exact absurd rfl (hv _)) | (simp; split <;> rfl) | simp

theorem op_binOp (h : Sim c I L s a w) (hE : EnvOK c.P c.E) (hW : WOK c.P c.E c.S c.w0) {op : BinOp} {t t' : TypeId} {x y : Operand} {o : Oper} (ho : o.op = .binOp op t x y t') {newId : Nat} {δ : Dl} {rs : List Nat}
    (e : (aop c.E (aeval s.env) newId o.op).run call s.rd = some (δ, rs)) : OpOK c s a w o δ := by
  rw [ho] at e
  simp only [aop] at e
  have hx := h.eval x
  have hy := h.eval y
  obtain ⟨z, hz, rfl⟩ := run_vbind e
  clear e
  have fin : ∀ {v u r : Value}, a.eval x = v → a.eval y = u → (eqGuard op t x y v u).run c.P w = .ok () w → (binOp op t v u).run c.P w = .ok r w → Rep (c.rc I L w) L z r → OpOK c s a w o (val z) := by
    intro v u r hv hu hg hb hr
    refine OpOK.value h (v := r) ?_ hr
    simp only [execOp, ho]
    rw [hv, hu]
    simp [hg, hb]
  unfold binA at hz
  split at hz
  · rename_i k n k' m hvx hvy
    rw [hvx] at hx; rw [hvy] at hy
    simp only [Rep] at hx hy
    obtain ⟨v, hv, rfl⟩ := binI_sound hz c.P w (t := t)
    exact fin hx hy (eqGuard_num _ _ _ _ (by simp) (by simp)) hv (by simp [Rep])
  · rename_i n m hvx hvy
    rw [hvx] at hx; rw [hvy] at hy
    simp only [Rep] at hx hy
    obtain ⟨v, hv, rfl⟩ := binF_sound hz c.P w (t := t)
    exact fin hx hy (eqGuard_num _ _ _ _ (by simp) (by simp)) hv (by simp [Rep])
  · rename_i n m hvx hvy
    rw [hvx] at hx; rw [hvy] at hy
    simp only [Rep] at hx hy
    obtain ⟨v, hv, rfl⟩ := binS_sound hz c.P w (t := t)
    exact fin hx hy (eqGuard_num _ _ _ _ (by simp) (by simp)) hv (by simp [Rep])
  · split at hz
    · cases hz
    · rename_i hn1 hn2 hn3 _ ti hty
      obtain ⟨d, i, zz, hT⟩ := hE.ty _ ti hty
      split at hz
      · obtain ⟨b, l1, l2, h1, h2, rfl⟩ := HM.run_bind hz
        obtain ⟨rfl, rfl⟩ := HM.run_ret h2
        obtain ⟨g1, g2, g3⟩ := eqA_sound (h := s.rd) hE hT hW (fun b hb => h.same b (h.fix b hb).1 (h.fix b hb).2) h.objInj rfl hx hy (fun k i b _ _ _ _ _ htb hct hm hb => h.objCell k i b (rdv_l.1 (show rdv s.heap (.l k) = some _ from htb)) hct hm hb) h1 (op := .eql)
        refine fin rfl rfl g1 (r := .bool b) ?_ (by simp [Rep])
        exact (binOp_eq g3 g2).1
      · obtain ⟨b, l1, l2, h1, h2, rfl⟩ := HM.run_bind hz
        obtain ⟨rfl, rfl⟩ := HM.run_ret h2
        obtain ⟨g1, g2, g3⟩ := eqA_sound (h := s.rd) hE hT hW (fun b hb => h.same b (h.fix b hb).1 (h.fix b hb).2) h.objInj rfl hx hy (fun k i b _ _ _ _ _ htb hct hm hb => h.objCell k i b (rdv_l.1 (show rdv s.heap (.l k) = some _ from htb)) hct hm hb) h1 (op := .neq)
        refine fin rfl rfl g1 (r := .bool !b) ?_ (by simp [Rep])
        exact (binOp_eq g3 g2).2
      · cases hz

end
end Go.Eng

/-
  The abstract machine, part 11: each operation that makes a value alone (the last of them).
-/
namespace Go.Eng

section
variable {c : Ctx} {I : Nat → Prop} {L : Ref → Option Pl} {s : St} {a : Act} {w : World} {call : CallF}

theorem op_move (h : Sim c I L s a w) {x : Operand} {o : Oper} (ho : o.op = .move x ∨ o.op = .assign x) {newId : Nat} {δ : Dl} {rs : List Nat}
    (e : (aop c.E (aeval s.env) newId o.op).run call s.rd = some (δ, rs)) : OpOK c s a w o δ := by
  rcases ho with ho | ho <;>
  · rw [ho] at e
    simp only [aop] at e
    obtain ⟨rfl, rfl⟩ := HM.run_ret e
    exact OpOK.value h (by simp only [execOp, ho]; rfl) (h.eval x)

theorem op_unOp (h : Sim c I L s a w) {op : UnOp} {t : TypeId} {x : Operand} {o : Oper} (ho : o.op = .unOp op t x) {newId : Nat} {δ : Dl} {rs : List Nat}
    (e : (aop c.E (aeval s.env) newId o.op).run call s.rd = some (δ, rs)) : OpOK c s a w o δ := by
  rw [ho] at e
  simp only [aop] at e
  have hx := h.eval x
  split at e
  · rename_i b hav
    rw [hav] at hx
    simp only [Rep] at hx
    obtain ⟨rfl, rfl⟩ := HM.run_ret e
    exact OpOK.value h (by simp only [execOp, ho]; rw [hx]; simp [Op.unary]; rfl) (by simp [Rep])
  · rename_i k n hav
    rw [hav] at hx
    simp only [Rep] at hx
    obtain ⟨rfl, rfl⟩ := HM.run_ret e
    exact OpOK.value h (by simp only [execOp, ho]; rw [hx]; simp [Op.unary, Op.intArith]; rfl) (by simp [Rep])
  · cases e

theorem op_convert (h : Sim c I L s a w) (hE : EnvOK c.P c.E) {t t' : TypeId} {x : Operand} {o : Oper} (ho : o.op = .convert t t' x) {newId : Nat} {δ : Dl} {rs : List Nat}
    (e : (aop c.E (aeval s.env) newId o.op).run call s.rd = some (δ, rs)) : OpOK c s a w o δ := by
  rw [ho] at e
  simp only [aop] at e
  have hx := h.eval x
  obtain ⟨y, hy, rfl⟩ := run_vbind e
  clear e
  unfold convA at hy
  split at hy
  · rename_i si di hs hd
    obtain ⟨d1, i1, z1, hT1⟩ := hE.ty _ si hs
    obtain ⟨d2, i2, z2, hT2⟩ := hE.ty _ di hd
    have e1 := hT1.desc
    have e2 := hT2.desc
    split at hy
    · rename_i k1 k2 k3 n ht1 ht2 hav
      rw [ht1] at e1; rw [ht2] at e2; rw [hav] at hx
      obtain rfl := descOf_int e1
      obtain rfl := descOf_int e2
      simp only [Rep] at hx
      obtain ⟨rfl, rfl⟩ := HM.run_ret hy
      exact OpOK.value h (v := .int k2 (k2.wrap n)) (by simp only [execOp, ho]; rw [hx]; simp [convert, hT1.run_u, hT2.run_u, Conv.intToInt]) (by simp [Rep])
    · rename_i k1 k3 n ht1 ht2 hav
      rw [ht1] at e1; rw [ht2] at e2; rw [hav] at hx
      obtain rfl := descOf_int e1
      obtain rfl := descOf_float e2
      simp only [Rep] at hx
      obtain ⟨rfl, rfl⟩ := HM.run_ret hy
      exact OpOK.value h (v := .float .f64 (FloatKind.f64.nearest n)) (by simp only [execOp, ho]; rw [hx]; simp [convert, hT1.run_u, hT2.run_u, Conv.intToFloat]) (by simp [Rep])
    · rename_i k b ht1 ht2 hav
      rw [ht1] at e1; rw [ht2] at e2; rw [hav] at hx
      obtain rfl := descOf_float e1
      obtain rfl := descOf_int e2
      simp only [Rep] at hx
      obtain ⟨hck, hy⟩ := HM.run_chk hy
      obtain ⟨rfl, rfl⟩ := HM.run_ret hy
      refine OpOK.value h (v := .int k (ftoi b)) ?_ (by simp [Rep])
      simp only [execOp, ho]
      rw [hx]
      unfold ftoiOK at hck
      unfold ftoi
      cases hi : (FloatKind.f64.decode b).toInt .zero with
      | none => rw [hi] at hck; cases hck
      | some n =>
        rw [hi] at hck
        simp only [Bool.and_eq_true, decide_eq_true_eq] at hck
        simp [convert, hT1.run_u, hT2.run_u, Conv.floatToInt, hi, hck]
    · rename_i b ht1 ht2 hav
      rw [ht1] at e1; rw [ht2] at e2; rw [hav] at hx
      obtain rfl := descOf_str e1
      obtain rfl := descOf_str e2
      simp only [Rep] at hx
      obtain ⟨rfl, rfl⟩ := HM.run_ret hy
      exact OpOK.value h (v := .string b) (by simp only [execOp, ho]; rw [hx]; simp [convert, hT1.run_u, hT2.run_u]) (by simp [Rep])
    · cases hy
  · cases hy

theorem op_makeInterface (h : Sim c I L s a w) (hE : EnvOK c.P c.E) {t : TypeId} {x : Operand} {o : Oper} (ho : o.op = .makeInterface t x) {newId : Nat} {δ : Dl} {rs : List Nat}
    (e : (aop c.E (aeval s.env) newId o.op).run call s.rd = some (δ, rs)) : OpOK c s a w o δ := by
  rw [ho] at e
  simp only [aop] at e
  have hx := h.eval x
  split at e
  · rename_i ti hty
    obtain ⟨d, i, z, hT⟩ := hE.ty _ ti hty
    split at e
    · cases e
    · rename_i hne
      obtain ⟨rfl, rfl⟩ := HM.run_ret e
      refine OpOK.value h (v := .iface t (a.eval x)) ?_ (by simp only [Rep]; exact ⟨_, rfl, hx⟩)
      have hd := hT.desc
      simp only [execOp, ho]
      simp only [Sem.run_bind, Instr.makeInterface, hT.run_u, Result.andThen_ok]
      cases d with
      | interface ms => exact absurd hd.symm hne
      | _ => rfl
  · cases e

theorem op_makeFunc (h : Sim c I L s a w) {f : Fn} {x y : Array Operand} {o : Oper} (ho : o.op = .makeFunc f x y) {newId : Nat} {δ : Dl} {rs : List Nat}
    (e : (aop c.E (aeval s.env) newId o.op).run call s.rd = some (δ, rs)) : OpOK c s a w o δ := by
  rw [ho] at e
  simp only [aop] at e
  obtain ⟨rfl, rfl⟩ := HM.run_ret e
  refine OpOK.value h (v := .func f (x.map a.eval) (y.map a.eval)) (by simp only [execOp, ho]; rfl) ?_
  simp only [Rep]
  exact ⟨_, _, rfl, by simpa using h.evalL x.toList, by simpa using h.evalL y.toList⟩

theorem boundA_sound {R : RC} {L : Ref → Option Pl} {d n : Nat} {x : Option AV} {v : Option Value} {h : Ref → Option Blk} {rs : List Nat} (e : (boundA d x).run call h = some (n, rs))
    (hx : ∀ y, x = some y → ∃ u, v = some u ∧ Rep R L y u) (hn : x = none → v = none) : rs = [] ∧ ((v = none ∧ n = d) ∨ ∃ k m, v = some (.int k m) ∧ 0 ≤ m ∧ n = m.toNat) := by
  unfold boundA at e
  split at e
  · obtain ⟨rfl, rfl⟩ := HM.run_ret e
    exact ⟨rfl, .inl ⟨hn rfl, rfl⟩⟩
  · rename_i k m
    obtain ⟨h0, e⟩ := HM.run_chk e
    obtain ⟨rfl, rfl⟩ := HM.run_ret e
    obtain ⟨u, hu, hr⟩ := hx _ rfl
    simp only [Rep] at hr
    subst hr
    exact ⟨rfl, .inr ⟨k, m, hu, of_decide_eq_true h0, rfl⟩⟩
  · cases e

/-- the bounds of a slice expression -/
theorem run_bounds {P : Program} {w : World} (b : Bool) {len cap l hh : Nat} {vl vh : Option Value} (hl : (vl = none ∧ l = 0) ∨ ∃ k m, vl = some (.int k m) ∧ 0 ≤ m ∧ l = m.toNat)
    (hh' : (vh = none ∧ hh = len) ∨ ∃ k m, vh = some (.int k m) ∧ 0 ≤ m ∧ hh = m.toNat) (h1 : l ≤ hh) (h2 : hh ≤ len) (h3 : len ≤ cap) :
    (Instr.sliceBounds b len cap vl vh none).run P w = .ok (l, hh, cap) w := by
  rcases hl with ⟨rfl, rfl⟩ | ⟨k, m, rfl, hm, rfl⟩
  · rcases hh' with ⟨rfl, rfl⟩ | ⟨k', m', rfl, hm', rfl⟩
    · simp [Instr.sliceBounds]
    · have : 0 ≤ m' ∧ m' ≤ (cap : Int) := ⟨hm', by omega⟩
      simp [Instr.sliceBounds, Instr.sliceBound, asIntOf, this]
  · rcases hh' with ⟨rfl, rfl⟩ | ⟨k', m', rfl, hm', rfl⟩
    · have : 0 ≤ m ∧ m ≤ (hh : Int) := ⟨hm, by omega⟩
      simp [Instr.sliceBounds, Instr.sliceBound, asIntOf, this]
    · have h4 : 0 ≤ m' ∧ m' ≤ (cap : Int) := ⟨hm', by omega⟩
      have h5 : 0 ≤ m ∧ m ≤ max m' 0 := ⟨hm, by omega⟩
      simp [Instr.sliceBounds, Instr.sliceBound, asIntOf, h4, h5]

theorem opt_eval (h : Sim c I L s a w) (x : Option Operand) : (∀ y, x.map (aeval s.env) = some y → ∃ u, x.map a.eval = some u ∧ Rep (c.rc I L w) L y u) ∧ (x.map (aeval s.env) = none → x.map a.eval = none) := by
  cases x with
  | none => exact ⟨fun y hy => by simp at hy, fun _ => rfl⟩
  | some x => exact ⟨fun y hy => ⟨a.eval x, rfl, by simp at hy; subst hy; exact h.eval x⟩, fun hx => by simp at hx⟩

theorem op_slice (h : Sim c I L s a w) (hE : EnvOK c.P c.E) {t : TypeId} {x : Operand} {lo hi : Option Operand} {o : Oper} (ho : o.op = .slice t x lo hi none) {newId : Nat} {δ : Dl} {rs : List Nat}
    (e : (aop c.E (aeval s.env) newId o.op).run call s.rd = some (δ, rs)) : OpOK c s a w o δ := by
  rw [ho] at e
  simp only [aop] at e
  have hx := h.eval x
  obtain ⟨hlo1, hlo2⟩ := opt_eval h lo
  obtain ⟨hhi1, hhi2⟩ := opt_eval h hi
  split at e
  · rename_i ti hty
    obtain ⟨d, i, z, hT⟩ := hE.ty _ ti hty
    have hd := hT.desc
    split at e
    · rename_i el htd
      rw [htd] at hd
      obtain rfl := descOf_slice hd
      split at e
      · rename_i ei hei
        obtain ⟨d2, i2, z2, hT2⟩ := hE.ty _ ei hei
        obtain ⟨y, hy, rfl⟩ := run_vbind e
        clear e
        unfold sliceA at hy
        split at hy
        · rename_i u id i' n g hav
          rw [hav] at hx
          split at hy
          · rename_i hsz
            obtain ⟨l, l1, l2, e1, hy2, rfl⟩ := HM.run_bind hy
            obtain ⟨hh, l3, l4, e2, hy3, rfl⟩ := HM.run_bind hy2
            obtain ⟨h1, hy4⟩ := HM.run_chk hy3
            obtain ⟨h2, hy5⟩ := HM.run_chk hy4
            obtain ⟨rfl, rfl⟩ := HM.run_ret hy5
            have h1 := of_decide_eq_true h1
            have h2 := of_decide_eq_true h2
            obtain ⟨rfl, b1⟩ := boundA_sound e1 hlo1 hlo2
            obtain ⟨rfl, b2⟩ := boundA_sound e2 hhi1 hhi2
            simp only [Rep] at hx
            obtain ⟨p, hp, hw, hge, ad, cap, hs, hcap, hsome, hcur⟩ := hx
            have hrun := run_bounds (P := c.P) (w := w) true b1 b2 h1 h2 hcap
            refine OpOK.value h (v := .slice (if cap = l then ad else ad.map (·.add (l * ei.size))) (hh - l) (cap - l)) ?_ ?_
            · simp only [execOp, ho]
              rw [hs]
              simp only [Instr.sliceAt, Instr.slice, Sem.run_bind, hT.run_u, Result.andThen_ok, Option.map_none, hrun, hT2.run_size]
              rfl
            · simp only [Rep]
              refine ⟨p, hp, hw, hge, _, _, rfl, by omega, fun hne => ?_, fun hg => ?_⟩
              · have := hsome (by omega)
                split
                · exact this
                · simpa using this
              · by_cases hcl : cap = l
                · exact .inl (by omega)
                · rw [if_neg hcl]
                  rcases hcur hg with h0 | ⟨hv, had, hsize⟩
                  · omega
                  · refine .inr ⟨hv, ?_, ?_⟩
                    · rw [had, Option.map_some, addr_add, ← hsz, ← hw, Nat.add_assoc, ← Nat.add_mul]
                    · rw [show i' + l + (cap - l) = i' + cap from by omega]; exact hsize
          · cases hy
        · rename_i u l0 hav
          rw [hav] at hx
          split at hy
          · rename_i hsz
            obtain ⟨l, l1, l2, e1, hy2, rfl⟩ := HM.run_bind hy
            obtain ⟨hh, l3, l4, e2, hy3, rfl⟩ := HM.run_bind hy2
            obtain ⟨h1, hy4⟩ := HM.run_chk hy3
            obtain ⟨h2, hy5⟩ := HM.run_chk hy4
            obtain ⟨rfl, rfl⟩ := HM.run_ret hy5
            have h1 := of_decide_eq_true h1
            have h2 := of_decide_eq_true h2
            obtain ⟨rfl, b1⟩ := boundA_sound e1 hlo1 hlo2
            obtain ⟨rfl, b2⟩ := boundA_sound e2 hhi1 hhi2
            simp only [Rep] at hx
            obtain ⟨ad, cap, hs, hcap, hrow, hzz⟩ := hx
            simp only [List.cons.injEq, and_true] at hs
            have hrun := run_bounds (P := c.P) (w := w) true b1 b2 h1 h2 hcap
            have hlen : ((l0.drop l).take (hh - l)).length = hh - l := by simp; omega
            refine OpOK.value h (v := .slice (if cap = l then ad else ad.map (·.add (l * ei.size))) (hh - l) (cap - l)) ?_ ?_
            · simp only [execOp, ho]
              rw [hs]
              simp only [Instr.sliceAt, Instr.slice, Sem.run_bind, hT.run_u, Result.andThen_ok, Option.map_none, hrun, hT2.run_size]
              rfl
            · simp only [Rep]
              refine ⟨_, cap - l, by rw [hlen], by rw [hlen]; omega, fun hne => ?_, fun hz => ?_⟩
              rotate_left
              · have : ad = none := by
                  split at hz
                  · exact hz
                  · simpa using hz
                have := hzz this
                omega
              rw [hlen] at hne
              obtain ⟨b, ob, had, hb, hi⟩ := hrow (by omega)
              rw [if_neg (by omega)]
              refine ⟨b, ob + l * u.size, by rw [had, Option.map_some, addr_add, hsz], hb, fun j hj => ?_⟩
              rw [hlen] at hj
              rw [getD_cut l0 l (hh - l) j _ hj]
              obtain ⟨cc, hc, hat⟩ := hi (l + j) (by omega)
              refine ⟨cc, hc, ?_⟩
              rw [Nat.add_assoc, ← Nat.add_mul]
              exact hat
          · cases hy
        · cases hy
      · cases e
    · rename_i htd
      rw [htd] at hd
      obtain rfl := descOf_str hd
      split at e
      · rename_i str hav
        rw [hav] at hx
        simp only [Rep] at hx
        obtain ⟨y, hy, rfl⟩ := run_vbind e
        clear e
        unfold cutA at hy
        obtain ⟨l, l1, l2, e1, hy2, rfl⟩ := HM.run_bind hy
        obtain ⟨hh, l3, l4, e2, hy3, rfl⟩ := HM.run_bind hy2
        obtain ⟨h1, hy4⟩ := HM.run_chk hy3
        obtain ⟨h2, hy5⟩ := HM.run_chk hy4
        obtain ⟨rfl, rfl⟩ := HM.run_ret hy5
        have h1 := of_decide_eq_true h1
        have h2 := of_decide_eq_true h2
        obtain ⟨rfl, b1⟩ := boundA_sound e1 hlo1 hlo2
        obtain ⟨rfl, b2⟩ := boundA_sound e2 hhi1 hhi2
        have hrun := run_bounds (P := c.P) (w := w) false b1 b2 h1 h2 (Nat.le_refl _)
        refine OpOK.value h (v := .string (str.extract l hh)) ?_ (by simp [Rep])
        simp only [execOp, ho]
        rw [hx]
        simp [Instr.sliceAt, Instr.slice, hT.run_u, hrun]
      · cases e
    · cases e
  · cases e

end
end Go.Eng

/-
  The abstract machine, part 12: an index, a type's assertion, a tuple's part, a length, the greatest, the least.
-/
namespace Go.Eng

section
variable {c : Ctx} {I : Nat → Prop} {L : Ref → Option Pl} {s : St} {a : Act} {w : World} {call : CallF}

theorem op_index (h : Sim c I L s a w) (hE : EnvOK c.P c.E) {t : TypeId} {x ix : Operand} {o : Oper} (ho : o.op = .index t x ix) {newId : Nat} {δ : Dl} {rs : List Nat}
    (e : (aop c.E (aeval s.env) newId o.op).run call s.rd = some (δ, rs)) : OpOK c s a w o δ := by
  rw [ho] at e
  simp only [aop] at e
  have hx := h.eval x
  obtain ⟨y, hy, rfl⟩ := run_vbind e
  clear e
  unfold indexA at hy
  split at hy
  · rename_i k0 k ti hix hty
    have hv := int?_sound hix (h.eval ix)
    obtain ⟨d, i, z, hT⟩ := hE.ty _ ti hty
    have hd := hT.desc
    split at hy
    · rename_i str htd hav
      rw [hav] at hx
      simp only [Rep] at hx
      rw [htd] at hd
      obtain rfl := descOf_str hd
      obtain ⟨h1, hy2⟩ := HM.run_chk hy
      obtain ⟨h2, hy3⟩ := HM.run_chk hy2
      obtain ⟨rfl, rfl⟩ := HM.run_ret hy3
      have h1 := of_decide_eq_true h1
      have h2 := of_decide_eq_true h2
      refine OpOK.value h (v := .int .u8 (byteS str k.toNat)) ?_ (by simp [Rep])
      simp only [execOp, ho]
      rw [hx, hv]
      have hb : str[k.toNat]? = some str[k.toNat] := by simp [h2]
      have hbs : ((str[k.toNat]).toNat : Int) = byteS str k.toNat := by
        unfold byteS
        rw [List.getD_eq_getElem?_getD]
        have : str.data.toList[k.toNat]? = some str[k.toNat] := by
          rw [List.getElem?_eq_getElem (by simpa using h2)]
          rfl
        rw [this]
        rfl
      simp [Instr.index, hT.run_u, asIntOf, h1, hb, hbs]
    · rename_i len el l htd hav
      rw [hav] at hx
      simp only [Rep] at hx
      obtain ⟨cs, hcs, hl⟩ := hx
      rw [htd] at hd
      obtain rfl := descOf_arr hd
      split at hy
      · rename_i ei hei
        obtain ⟨d2, i2, z2, hT2⟩ := hE.ty _ ei hei
        split at hy
        · rename_i hb
          obtain ⟨hm, rfl⟩ := HM.run_one hy
          obtain ⟨y', hrun, hr⟩ := run_part hT2 (w := w) hl hm
          refine OpOK.value h ?_ hr
          simp only [execOp, ho]
          rw [hcs, hv]
          have hb' : 0 ≤ k ∧ k < (len : Int) := ⟨hb.1, by omega⟩
          simp [Instr.index, hT.run_u, asIntOf, hb', hT2.run_size, hrun]
        · cases hy
      · cases hy
    · cases hy
  · cases hy

theorem oneZero_sound {P : Program} {N : Names} {t : TypeId} {ti : TyI} {d : TypeDesc} {i : TypeInfo} {z : Value} (hT : TyOK P N t ti d i z) (R : RC) (L : Ref → Option Pl) : Rep R L (oneZero ti) z := by
  have hz := hT.zeroL R L
  unfold oneZero
  split
  · rename_i ha
    obtain ⟨cs, rfl⟩ := hT.agg ha
    simp only [Rep]
    exact ⟨cs, rfl, hz⟩
  · rename_i ha
    have h1 := hT.one ha
    cases hzr : ti.zero with
    | nil => simp [Rep]
    | cons x r =>
      rw [hzr] at hz
      simp only [RepL] at hz
      obtain ⟨y, t', e, hy, _⟩ := hz
      cases z <;> first | (cases h1; done) | (simp only [Value.cells, List.cons.injEq] at e; obtain ⟨rfl, _⟩ := e; exact hy)

theorem cellsT_one : ∀ (t : Ty) (x : Val t), t.one = true → ∃ z, cellsT t x = [z] ∧ encA t x = z
  | .int _, _, _ | .bool, _, _ | .str, _, _ | .flt, _, _ | .err, _, _ | .sl _, _, _ | .ref _, _, _ | .clo _ _, _, _ | .hd _, _, _ | .mh _, _, _ | .dn, _, _ | .dy _ _ _, _, _ => ⟨_, rfl, rfl⟩

theorem Rep.of_KeyR {R : RC} {L : Ref → Option Pl} {b : Ty} {y : Val b} {v : Value} (ho : (b.isAgg || b.one) = true) (h : KeyR R b y v) : Rep R L (encA b y) v := by
  obtain ⟨cs, hc, e⟩ := h
  cases ha : b.isAgg with
  | true =>
    rw [ha] at e
    simp only at e
    subst e
    unfold encA
    rw [ha]
    simp only [Rep]
    exact ⟨_, rfl, by simpa using RepL.ofT b hc⟩
  | false =>
    rw [ha] at e ho
    simp only [Bool.false_or] at e ho
    obtain ⟨z, hz, hz2⟩ := cellsT_one b y ho
    have hr := RepL.ofT (L := L) b hc
    rw [hz] at hr
    simp only [RepL] at hr
    obtain ⟨u, t, rfl, hu, rfl⟩ := hr
    rw [hz2, e]
    exact hu

theorem isD_not {R : RC} {u : TypeId} : ∀ (t : Ty) {x : Val t} {v : Value}, dyOK t = true → hasD t u = false → RepT R t x [v] → v = .nilIface ∨ ∃ t' y, v = .iface t' y ∧ t' ≠ u
  | .dn, _, _, _, _, h => by
    have h : [_] = [_] := h
    injection h with h
    exact .inl h
  | .dy t a r, x, v, ho, hh, h => by
    simp only [dyOK, Bool.and_eq_true, Bool.not_eq_true'] at ho
    simp only [hasD] at hh
    split at hh
    · cases hh
    · rename_i hb
      cases x with
      | inl y =>
        obtain ⟨ds, _, e⟩ := h
        injection e with e
        refine .inr ⟨t, _, e, fun e => ?_⟩
        subst e
        rw [Nat.beq_refl] at hb
        cases hb
      | inr y => exact isD_not r ho.2 hh h.1
  | .int _, _, _, h, _, _ | .bool, _, _, h, _, _ | .str, _, _, h, _, _ | .flt, _, _, h, _, _ | .err, _, _, h, _, _ | .unit, _, _, h, _, _ | .nat, _, _, h, _, _ | .pair _ _, _, _, h, _, _ | .st _, _, _, h, _, _ | .sl _, _, _, h, _, _
  | .ref _, _, _, h, _, _ | .clo _ _, _, _, h, _, _ | .hd _, _, _, h, _, _ | .mh _, _, _, h, _, _ => by cases h

theorem pickD_true (a r : Ty) (x : Val a) (y : Val r) : pickD true a r x y = x := rfl
theorem pickD_false (a r : Ty) (x : Val a) (y : Val r) : pickD false a r x y = y := rfl

theorem isD_is {R : RC} {u : TypeId} : ∀ (t : Ty) {x : Val t} {v : Value}, dyOK t = true → RepT R t x [v] → (isD t u x = true → ∃ y, v = .iface u y ∧ KeyR R (tyD t u) (outD t u x) y) ∧ (isD t u x = false → v = .nilIface ∨ ∃ t' y, v = .iface t' y ∧ t' ≠ u)
  | .dn, _, _, _, h => by
    have h : [_] = [_] := h
    injection h with h
    exact ⟨fun e => by simp [isD] at e, fun _ => .inl h⟩
  | .dy t a r, x, v, ho, h => by
    simp only [dyOK, Bool.and_eq_true, Bool.not_eq_true'] at ho
    cases hb : Nat.beq t u with
    | true =>
      have := Nat.eq_of_beq_eq_true hb
      subst this
      cases x with
      | inl y =>
        obtain ⟨ds, hd, e⟩ := h
        injection e with e
        refine ⟨fun _ => ⟨_, e, ?_⟩, fun e => by simp [isD] at e⟩
        have key : ∀ (b : Bool) (_ : b = true) (r' : Ty) (z : Val r'), KeyR R (tyP b a r') (pickD b a r' y z) (match a.isAgg with | true => .agg ds.toArray | false => ds.getD 0 undef) := by
          intro b hb' r' z
          subst hb'
          exact ⟨ds, hd, rfl⟩
        exact key _ hb _ _
      | inr y =>
        refine ⟨fun e => by simp [isD] at e, fun _ => ?_⟩
        exact isD_not r ho.2 ho.1 h.1
    | false =>
      cases x with
      | inl y =>
        obtain ⟨ds, hd, e⟩ := h
        injection e with e
        refine ⟨fun e => by simp [isD, hb] at e, fun _ => .inr ⟨t, _, e, fun e => ?_⟩⟩
        subst e
        rw [Nat.beq_refl] at hb
        cases hb
      | inr y =>
        obtain ⟨g1, g2⟩ := isD_is (u := u) r ho.2 h.1
        refine ⟨fun e => ?_, fun e => g2 (by simpa [isD, hb] using e)⟩
        obtain ⟨z, hz, hk⟩ := g1 (by simpa [isD, hb] using e)
        refine ⟨z, hz, ?_⟩
        have key : ∀ (b : Bool) (_ : b = false) (w : Val a), KeyR R (tyP b a (tyD r u)) (pickD b a (tyD r u) w (outD r u y)) z := by
          intro b hb' w
          subst hb'
          exact hk
        exact key _ hb _
  | .int _, _, _, h, _ | .bool, _, _, h, _ | .str, _, _, h, _ | .flt, _, _, h, _ | .err, _, _, h, _ | .unit, _, _, h, _ | .nat, _, _, h, _ | .pair _ _, _, _, h, _ | .st _, _, _, h, _ | .sl _, _, _, h, _
  | .ref _, _, _, h, _ | .clo _ _, _, _, h, _ | .hd _, _, _, h, _ | .mh _, _, _, h, _ => by cases h

theorem op_typeAssert (h : Sim c I L s a w) (hE : EnvOK c.P c.E) (hne0 : c.E.atT ≠ c.E.errT) {t xt : TypeId} {x : Operand} {ok : Bool} {o : Oper} (ho : o.op = .typeAssert x xt t ok) {newId : Nat} {δ : Dl} {rs : List Nat}
    (e : (aop c.E (aeval s.env) newId o.op).run call s.rd = some (δ, rs)) : OpOK c s a w o δ := by
  rw [ho] at e
  simp only [aop] at e
  have hx := h.eval x
  obtain ⟨y, hy, rfl⟩ := run_vbind e
  clear e
  unfold typeAssertA at hy
  split at hy
  · cases hy
  · rename_i ti hty
    obtain ⟨d, i, z, hT⟩ := hE.ty _ ti hty
    have hd := hT.desc
    have hz := oneZero_sound hT (c.rc I L w) L
    split at hy
    · cases hy
    · rename_i hne
      have hni : ∀ ms, d ≠ .interface ms := by
        intro ms hd'
        subst hd'
        exact hne hd.symm
      split at hy
      · rename_i u y' hav
        rw [hav] at hx
        simp only [Rep] at hx
        obtain ⟨v, hv, hr⟩ := hx
        split at hy
        · rename_i hu
          obtain ⟨rfl, rfl⟩ := HM.run_ret hy
          subst hu
          refine OpOK.value h (v := .tuple #[v, .bool true]) ?_ (by simp only [Rep, RepL]; exact ⟨_, rfl, v, _, rfl, hr, .bool true, [], rfl, rfl, rfl⟩)
          simp only [execOp, ho]
          rw [hv]
          simp only [Instr.typeAssert, Sem.run_bind, hT.run_u, Result.andThen_ok]
          cases d <;> first | (exact absurd rfl (hni _)) | simp
        · rename_i hu
          obtain ⟨rfl, rfl⟩ := HM.run_ret hy
          refine OpOK.value h (v := .tuple #[z, .bool false]) ?_ (by simp only [Rep, RepL]; exact ⟨_, rfl, z, _, rfl, hz, .bool false, [], rfl, rfl, rfl⟩)
          simp only [execOp, ho]
          rw [hv]
          simp only [Instr.typeAssert, Sem.run_bind, hT.run_u, Result.andThen_ok]
          cases d <;> first | (exact absurd rfl (hni _)) | simp [hu, hT.run_zero]
      · rename_i u y' hav
        rw [hav] at hx
        simp only [Rep] at hx
        obtain ⟨v, hv, hr⟩ := hx
        split at hy
        · rename_i hu
          obtain ⟨rfl, rfl⟩ := HM.run_ret hy
          subst hu
          refine OpOK.value h (v := v) ?_ hr
          simp only [execOp, ho]
          rw [hv]
          simp only [Instr.typeAssert, Sem.run_bind, hT.run_u, Result.andThen_ok]
          cases d <;> first | (exact absurd rfl (hni _)) | simp
        · cases hy
      · rename_i hav
        rw [hav] at hx
        simp only [Rep] at hx
        obtain ⟨rfl, rfl⟩ := HM.run_ret hy
        refine OpOK.value h (v := .tuple #[z, .bool false]) ?_ (by simp only [Rep, RepL]; exact ⟨_, rfl, z, _, rfl, hz, .bool false, [], rfl, rfl, rfl⟩)
        simp only [execOp, ho]
        rw [hx]
        simp only [Instr.typeAssert, Sem.run_bind, hT.run_u, Result.andThen_ok]
        cases d <;> first | (exact absurd rfl (hni _)) | simp [hT.run_zero]
      · rename_i dt x' hav
        rw [hav] at hx
        simp only [Rep] at hx
        have no : (a.eval x = .nilIface ∨ ∃ t' y, a.eval x = .iface t' y ∧ t' ≠ t) → OpOK c s a w o (val (.tup [oneZero ti, .v (.bool false)])) := by
          intro hv
          refine OpOK.value h (v := .tuple #[z, .bool false]) ?_ (by simp only [Rep, RepL]; exact ⟨_, rfl, z, _, rfl, hz, .bool false, [], rfl, rfl, rfl⟩)
          simp only [execOp, ho]
          rcases hv with hv | ⟨t', y, hv, hu⟩
          · rw [hv]
            simp only [Instr.typeAssert, Sem.run_bind, hT.run_u, Result.andThen_ok]
            cases d <;> first | (exact absurd rfl (hni _)) | simp [hT.run_zero]
          · rw [hv]
            simp only [Instr.typeAssert, Sem.run_bind, hT.run_u, Result.andThen_ok]
            cases d <;> first | (exact absurd rfl (hni _)) | simp [hu, hT.run_zero]
        split at hy
        · rename_i hok hhas
          split at hy
          · rename_i hone
            obtain ⟨g1, g2⟩ := isD_is (u := t) dt hok hx
            cases hd2 : isD dt t x' with
            | true =>
              simp only [HM.run, hd2, Option.some.injEq, Prod.mk.injEq] at hy
              obtain ⟨rfl, rfl⟩ := hy
              obtain ⟨v, hv, hk⟩ := g1 hd2
              refine OpOK.value h (v := .tuple #[v, .bool true]) ?_ (by simp only [Rep, RepL]; exact ⟨_, rfl, v, _, rfl, Rep.of_KeyR hone hk, .bool true, [], rfl, rfl, rfl⟩)
              simp only [execOp, ho]
              rw [hv]
              simp only [Instr.typeAssert, Sem.run_bind, hT.run_u, Result.andThen_ok]
              cases d <;> first | (exact absurd rfl (hni _)) | simp
            | false =>
              simp only [HM.run, hd2, Option.some.injEq, Prod.mk.injEq] at hy
              obtain ⟨rfl, rfl⟩ := hy
              exact no (g2 hd2)
          · cases hy
        · rename_i hok hhas
          obtain ⟨rfl, rfl⟩ := HM.run_ret hy
          exact no (isD_not dt hok hhas hx)
        · cases hy
      · rename_i er hav
        rw [hav] at hx
        simp only [Rep] at hx
        split at hy
        · rename_i hat
          subst hat
          cases er with
          | nil =>
            simp only [Er.isAt, HM.run, Option.some.injEq, Prod.mk.injEq] at hy
            obtain ⟨rfl, rfl⟩ := hy
            simp only [RepE] at hx
            refine OpOK.value h (v := .tuple #[z, .bool false]) ?_ (by simp only [Rep, RepL]; exact ⟨_, rfl, z, _, rfl, hz, .bool false, [], rfl, rfl, rfl⟩)
            simp only [execOp, ho]
            rw [hx]
            simp only [Instr.typeAssert, Sem.run_bind, hT.run_u, Result.andThen_ok]
            cases d <;> first | (exact absurd rfl (hni _)) | simp [hT.run_zero]
          | s g =>
            simp only [Er.isAt, HM.run, Option.some.injEq, Prod.mk.injEq] at hy
            obtain ⟨rfl, rfl⟩ := hy
            simp only [RepE] at hx
            obtain ⟨_, hx⟩ := hx
            refine OpOK.value h (v := .tuple #[z, .bool false]) ?_ (by simp only [Rep, RepL]; exact ⟨_, rfl, z, _, rfl, hz, .bool false, [], rfl, rfl, rfl⟩)
            simp only [execOp, ho]
            rw [hx]
            have hu : ¬ (c.rc I L w).T.N.errT = c.E.atT := fun e => hne0 e.symm
            simp only [Instr.typeAssert, Sem.run_bind, hT.run_u, Result.andThen_ok]
            cases d <;> first | (exact absurd rfl (hni _)) | simp [hu, hT.run_zero]
          | «at» p g =>
            simp only [Er.isAt, HM.run, Option.some.injEq, Prod.mk.injEq] at hy
            obtain ⟨rfl, rfl⟩ := hy
            simp only [RepE] at hx
            obtain ⟨b, q, hx, hb, h1, hv, h2⟩ := hx
            refine OpOK.value h (v := .tuple #[.pointer (some ⟨b, q, none⟩), .bool true]) ?_ ?_
            · simp only [execOp, ho]
              rw [hx]
              have hu : (c.rc I L w).T.N.atT = c.E.atT := rfl
              simp only [Instr.typeAssert, Sem.run_bind, hT.run_u, Result.andThen_ok]
              cases d <;> first | (exact absurd rfl (hni _)) | simp [hu]
            · simp only [Rep, RepL, RepE, Er.pos, Er.gix]
              refine ⟨_, rfl, _, _, rfl, ⟨b, q, rfl, hb, [_, _], ⟨_, _, rfl, rfl, _, [], rfl, ⟨hv, rfl⟩, rfl⟩, ?_⟩, .bool true, [], rfl, rfl, rfl⟩
              intro j v hj
              match j with
              | 0 => simp only [List.getElem?_cons_zero, Option.some.injEq] at hj; subst hj; exact h1
              | 1 => simp only [List.getElem?_cons_succ, List.getElem?_cons_zero, Option.some.injEq] at hj; subst hj; exact h2
              | n + 2 => simp at hj
        · cases hy
      · cases hy

theorem op_extract (h : Sim c I L s a w) {t : Operand} {i : Nat} {o : Oper} (ho : o.op = .extract t i) {newId : Nat} {δ : Dl} {rs : List Nat}
    (e : (aop c.E (aeval s.env) newId o.op).run call s.rd = some (δ, rs)) : OpOK c s a w o δ := by
  rw [ho] at e
  simp only [aop] at e
  have hx := h.eval t
  split at e
  · rename_i l hav
    rw [hav] at hx
    simp only [Rep] at hx
    obtain ⟨cs, hv, hl⟩ := hx
    obtain ⟨y, hy0, rfl⟩ := run_vbind e
    obtain ⟨hy, rfl⟩ := HM.run_one hy0
    obtain ⟨v, hv', hr⟩ := hl.get i _ hy
    refine OpOK.value h (v := v) ?_ hr
    simp only [execOp, ho]
    rw [hv]
    have : cs[i]? = some v := by simpa using hv'
    simp [Instr.extract, this]
  · cases e

theorem lenA_sound {P : Program} {N : Names} {t : TypeId} {ti : TyI} {d : TypeDesc} {i : TypeInfo} {z : Value} (hT : TyOK P N t ti d i z) {R : RC} {L : Ref → Option Pl} {x : AV} {v : Value} {n : Nat} (e : lenA ti.desc x = some n)
    (hx : Rep R L x v) (w : World) (ts : Array TypeId) (ty : TypeId) (vs : Array Value) (ht : ts[0]? = some t) (hvs : vs[0]? = some v) : (Builtin.len_ ts ty vs).run P w = .ok (.int .i64 n) w := by
  have hd := hT.desc
  unfold lenA at e
  split at e
  · rename_i htd
    rw [htd] at hd
    obtain rfl := descOf_slice hd
    injection e with e
    subst e
    simp only [Rep] at hx
    obtain ⟨ad, cap, hs, _⟩ := hx
    simp only [List.cons.injEq, and_true] at hs
    subst hs
    simp [Builtin.len_, ht, hvs, hT.run_u, goInt]
  · rename_i htd
    rw [htd] at hd
    obtain rfl := descOf_slice hd
    injection e with e
    subst e
    simp only [Rep] at hx
    subst hx
    simp [Builtin.len_, ht, hvs, hT.run_u, goInt]
  · rename_i htd
    rw [htd] at hd
    obtain rfl := descOf_slice hd
    injection e with e
    subst e
    simp only [Rep] at hx
    obtain ⟨p, _, _, _, ad, cap, rfl, _⟩ := hx
    simp [Builtin.len_, ht, hvs, hT.run_u, goInt]
  · rename_i htd
    rw [htd] at hd
    obtain rfl := descOf_str hd
    injection e with e
    subst e
    simp only [Rep] at hx
    subst hx
    simp [Builtin.len_, ht, hvs, hT.run_u, goInt]
  · cases e

theorem fold2_sound {P : Program} {w : World} {R : RC} {L : Ref → Option Pl} {f : Int → Int → Int} {g : Value → Value → Sem Value} (hg : ∀ k a b, (g (.int k a) (.int k b)).run P w = .ok (.int k (f a b)) w) :
    ∀ {l : List AV} {vs : List Value} {x z : AV} {v : Value}, fold2 f x l = some z → Rep R L x v → RepL R L l vs → ∃ u, (vs.foldlM g v).run P w = .ok u w ∧ Rep R L z u
  | [], vs, x, z, v, e, hx, hl => by
    simp only [fold2, Option.some.injEq] at e
    subst e
    simp only [RepL] at hl
    subst hl
    exact ⟨v, rfl, hx⟩
  | y :: r, vs, x, z, v, e, hx, hl => by
    unfold fold2 at e
    split at e
    · rename_i h; cases h
    · rename_i k a k' b r' heq
      simp only [List.cons.injEq] at heq
      obtain ⟨rfl, rfl⟩ := heq
      split at e
      · rename_i hk
        have := sameK_eq hk
        subst this
        simp only [RepL] at hl
        obtain ⟨u, t, rfl, hu, ht⟩ := hl
        simp only [Rep] at hx hu
        subst hx; subst hu
        obtain ⟨u', h1, h2⟩ := fold2_sound hg (v := .int k (f a b)) e (by simp [Rep]) ht
        exact ⟨u', by simp only [List.foldlM_cons, Sem.run_bind, hg, Result.andThen_ok]; exact h1, h2⟩
      · cases e
    · cases e

theorem op_builtin (h : Sim c I L s a w) {cl : Call} {o : Oper} (ho : o.op = .call cl) {b : Builtin} (hb : cl.callee = .builtin b) {x : AV} {v : Value} (hx : Rep (c.rc I L w) L x v)
    (hrun : ((builtin b cl.argTypes o.type (cl.args.map fun | .const _ => true | _ => false) (cl.args.map a.eval)).run c.P w = .ok (.value v) w)) : OpOK c s a w o (val x) := by
  refine OpOK.value h (v := v) ?_ hx
  simp only [execOp, ho, resolve, hb, invoke]
  exact hrun

theorem op_len (h : Sim c I L s a w) (hE : EnvOK c.P c.E) {cl : Call} {o : Oper} (ho : o.op = .call cl) (hb : cl.callee = .builtin .len) (hmap : ∀ t, cl.argTypes.toList.head? = some t → isMapT c.E t = false) {newId : Nat} {δ : Dl} {rs : List Nat}
    (e : (aop c.E (aeval s.env) newId o.op).run call s.rd = some (δ, rs)) : OpOK c s a w o δ := by
  rw [ho] at e
  simp only [aop, hb] at e
  have hargs := h.evalL cl.args.toList
  generalize hts : cl.argTypes.toList = ts at e
  generalize has : cl.args.toList.map (aeval s.env) = as at e hargs
  unfold builtinA at e
  split at e <;> try (rename_i hbb; cases hbb; done)
  · rename_i t ts' x' _
    simp only [RepL] at hargs
    obtain ⟨v, tl, hvs, hv, rfl⟩ := hargs
    have hmt : isMapT c.E t = false := hmap t (by rw [hts]; rfl)
    rw [hmt] at e
    simp only at e
    split at e
    · rename_i ti hty
      obtain ⟨d, i, z, hT⟩ := hE.ty _ ti hty
      split at e
      · rename_i n hn
        obtain ⟨rfl, rfl⟩ := HM.run_ret e
        refine op_builtin h ho hb (v := .int .i64 n) (by simp [Rep]) ?_
        simp only [builtin, Sem.run_bind]
        rw [lenA_sound hT hn hv w cl.argTypes o.type (cl.args.map a.eval) (by rw [← Array.getElem?_toList, hts]; rfl) (by rw [← Array.getElem?_toList, Array.toList_map, hvs]; rfl)]
        rfl
      · cases e
    · cases e
  · cases e

theorem op_max (h : Sim c I L s a w) {cl : Call} {o : Oper} (ho : o.op = .call cl) (hb : cl.callee = .builtin .max) {newId : Nat} {δ : Dl} {rs : List Nat}
    (e : (aop c.E (aeval s.env) newId o.op).run call s.rd = some (δ, rs)) : OpOK c s a w o δ := by
  rw [ho] at e
  simp only [aop, hb] at e
  have hargs := h.evalL cl.args.toList
  generalize hts : cl.argTypes.toList = ts at e
  generalize has : cl.args.toList.map (aeval s.env) = as at e hargs
  unfold builtinA at e
  split at e <;> try (rename_i hbb; cases hbb; done)
  · rename_i x' r _
    simp only [RepL] at hargs
    obtain ⟨v, tl, hvs, hv, htl⟩ := hargs
    obtain ⟨y, hy0, rfl⟩ := run_vbind e
    obtain ⟨hy, rfl⟩ := HM.run_one hy0
    obtain ⟨u, hu, hr⟩ := fold2_sound (P := c.P) (w := w) (g := Builtin.max2) (fun k a b => by simp [Builtin.max2, imax]) hy hv htl
    refine op_builtin h ho hb (v := u) hr ?_
    have : (cl.args.map a.eval).toList = v :: tl := by rw [Array.toList_map, hvs]
    simp only [builtin, Sem.run_bind, Builtin.max_, this, hu]
    rfl
  · cases e

theorem op_min (h : Sim c I L s a w) {cl : Call} {o : Oper} (ho : o.op = .call cl) (hb : cl.callee = .builtin .min) {newId : Nat} {δ : Dl} {rs : List Nat}
    (e : (aop c.E (aeval s.env) newId o.op).run call s.rd = some (δ, rs)) : OpOK c s a w o δ := by
  rw [ho] at e
  simp only [aop, hb] at e
  have hargs := h.evalL cl.args.toList
  generalize hts : cl.argTypes.toList = ts at e
  generalize has : cl.args.toList.map (aeval s.env) = as at e hargs
  unfold builtinA at e
  split at e <;> try (rename_i hbb; cases hbb; done)
  · rename_i x' r _
    simp only [RepL] at hargs
    obtain ⟨v, tl, hvs, hv, htl⟩ := hargs
    obtain ⟨y, hy0, rfl⟩ := run_vbind e
    obtain ⟨hy, rfl⟩ := HM.run_one hy0
    obtain ⟨u, hu, hr⟩ := fold2_sound (P := c.P) (w := w) (g := Builtin.min2) (fun k a b => by simp [Builtin.min2, imin]) hy hv htl
    refine op_builtin h ho hb (v := u) hr ?_
    have : (cl.args.map a.eval).toList = v :: tl := by rw [Array.toList_map, hvs]
    simp only [builtin, Sem.run_bind, Builtin.min_, this, hu]
    rfl
  · cases e

end
end Go.Eng

/-
  The abstract machine, part 12a: slices of objects' own, written in place.
-/
namespace Go.Eng

theorem slO_setO (want : Nat) (u : Ty) (y l : List (Val u)) : ∀ {cs : List Cell} {q : Nat} {x : Val (rowsTy cs)}, slO want cs q x = some ⟨u, l⟩ → slO want cs q (setO want u y cs q x) = some ⟨u, y⟩
  | [], _, _, h => by cases h
  | .d t :: r, q, x, h => by
    simp only [slO, setO] at h ⊢
    exact slO_setO want u y l h
  | .sl t :: r, q, x, h => by
    simp only [slO] at h
    simp only [slO, setO]
    split at h
    · rename_i hb
      simp only [Option.some.injEq, Sigma.mk.injEq] at h
      obtain ⟨rfl, _⟩ := h
      rw [dif_pos rfl]
      rfl
    · rename_i hb
      exact slO_setO want u y l h

theorem slO_setO_ne {want want' : Nat} (u : Ty) (y : List (Val u)) (hne : want' ≠ want) : ∀ {cs : List Cell} {q : Nat} {x : Val (rowsTy cs)}, slO want' cs q (setO want u y cs q x) = slO want' cs q x
  | [], _, _ => rfl
  | .d t :: r, q, x => by simp only [slO, setO]; exact slO_setO_ne u y hne
  | .sl t :: r, q, x => by
    simp only [slO, setO]
    cases hb : Nat.beq q want with
    | true =>
      have hq := Nat.eq_of_beq_eq_true hb
      have : Nat.beq q want' = false := by
        cases h2 : Nat.beq q want' with
        | true => exact absurd ((Nat.eq_of_beq_eq_true h2).symm.trans hq) hne
        | false => rfl
      rw [this]
    | false =>
      simp only
      cases h2 : Nat.beq q want' with
      | true => rfl
      | false => exact slO_setO_ne u y hne

/-- a slice is one that stands at or behind the first number -/
theorem slO_ge {want : Nat} : ∀ {cs : List Cell} {q : Nat} {x : Val (rowsTy cs)} {r : (t : Ty) × List (Val t)}, slO want cs q x = some r → q ≤ want
  | [], _, _, _, h => by cases h
  | .d t :: r, q, x, _, h => by simp only [slO] at h; exact slO_ge h
  | .sl t :: r, q, x, _, h => by
    simp only [slO] at h
    split at h
    · rename_i hb; exact Nat.le_of_eq (Nat.eq_of_beq_eq_true hb)
    · have := slO_ge h; omega

theorem setO_lt {want : Nat} (u : Ty) (y : List (Val u)) : ∀ {cs : List Cell} {q : Nat} {x : Val (rowsTy cs)}, want < q → setO want u y cs q x = x
  | [], _, _, _ => rfl
  | .d t :: r, q, x, h => by simp only [setO]; rw [setO_lt u y h]; rfl
  | .sl t :: r, q, x, h => by
    simp only [setO]
    have : Nat.beq q want = false := by
      cases h2 : Nat.beq q want with
      | true => have := Nat.eq_of_beq_eq_true h2; omega
      | false => rfl
    rw [setO_lt u y (by omega)]
    split
    · rename_i h2; rw [this] at h2; cases h2
    · rfl

theorem rowO_setO (k i : Nat) (st : Nat → Bool) (gs : List Nat) {want : Nat} (u : Ty) {y l : List (Val u)} (hl : y.length = l.length) : ∀ {cs : List Cell} {q : Nat} {x : Val (rowsTy cs)}, slO want cs q x = some ⟨u, l⟩ →
    rowO k i st gs cs q (setO want u y cs q x) = rowO k i st gs cs q x
  | [], _, _, h => by cases h
  | .d t :: r, q, x, h => by
    simp only [slO] at h
    simp only [rowO, setO]
    rw [rowO_setO k i st gs u hl h]
  | .sl t :: r, q, x, h => by
    simp only [slO] at h
    simp only [setO]
    split at h
    · rename_i hb
      simp only [Option.some.injEq, Sigma.mk.injEq] at h
      obtain ⟨rfl, hx⟩ := h
      have hx := eq_of_heq hx
      rw [dif_pos rfl]
      show (match st q with | true => AV.top | false => .lsl _ (.o k i q) 0 (List.length y) (gs.getD q 0)) :: _ = (match st q with | true => AV.top | false => .lsl _ (.o k i q) 0 (List.length x.1) (gs.getD q 0)) :: _
      rw [hl, ← hx]
    · rename_i hb
      show (match st q with | true => AV.top | false => .lsl _ (.o k i q) 0 (List.length x.1) (gs.getD q 0)) :: rowO k i st gs r (q + 1) (setO want u y r (q + 1) x.2) = (match st q with | true => AV.top | false => .lsl _ (.o k i q) 0 (List.length x.1) (gs.getD q 0)) :: rowO k i st gs r (q + 1) x.2
      rw [rowO_setO k i st gs u hl h]

section
variable {c : Ctx} {I : Nat → Prop} {L : Ref → Option Pl} {s : St} {a : Act} {w : World} {call : CallF}

theorem rdv_o {h : List (Option Blk)} {k i q : Nat} {b : Blk} : rdv h (.o k i q) = some b ↔ ∃ tb cs l st gs, h[k]? = some (some tb) ∧ tb.ct = .tab cs l st gs ∧ i < l.length ∧ viewV k i cs (l.getD i (dfl (rowsTy cs))) st gs q = some b := by
  constructor
  · intro h
    simp only [rdv] at h
    split at h
    · rename_i tb htb
      split at h
      · rename_i cs l st gs hct
        split at h
        · rename_i hlt
          exact ⟨tb, cs, l, st, gs, htb, hct, hlt, h⟩
        · cases h
      · cases h
    · cases h
  · rintro ⟨tb, cs, l, st, gs, htb, hct, hlt, hv⟩
    simp only [rdv, htb, hct, hlt, if_true]
    exact hv

theorem rdH_o {h : List (Option Blk)} {k i q : Nat} {b : Blk} (e : rdH h (.o k i q) = some b) : ∃ tb cs l st gs, h[k]? = some (some tb) ∧ tb.ct = .tab cs l st gs ∧ viewO k i cs l st gs q = some b := by
  simp only [rdH] at e
  split at e
  · rename_i tb htb
    split at e
    · rename_i cs l st gs hct
      exact ⟨tb, cs, l, st, gs, htb, hct, e⟩
    · cases e
  · cases e

theorem getD_sets {α : Type} {l : List α} {i : Nat} {x d : α} (h : i < l.length) : (l.set i x).getD i d = x := by
  rw [List.getD_eq_getElem?_getD, List.getElem?_set_self h]; rfl
theorem getD_setn {α : Type} {l : List α} {i j : Nat} {x d : α} (h : i ≠ j) : (l.set i x).getD j d = l.getD j d := by
  rw [List.getD_eq_getElem?_getD, List.getD_eq_getElem?_getD, List.getElem?_set_ne h]

/-- A slice's elements are written, in place. -/
theorem Sim.updIn (h : Sim c I L s a w) {r : Ref} {p : Pl} {b : Blk} {t : Ty} {l l' : List (Val t)} {w' : World} (hp : L r = some p) (hb : s.rd r = some b) (hct : b.ct = .sl t l) (hlen : l'.length = l.length)
    (hs : w'.heap.size = w.heap.size) (hio : IO w w') (hw : ∀ k, (p.virt = false → k ≠ p.b) → w'.heap[k]? = w.heap[k]?) (hnI : p.virt = false → ¬ I p.b) (hfz : b.frozen = false)
    (hk : RLe (c.rc I L w) (c.rc I L w') → BlkOK (c.rc I L w') L w' p { b with ct := .sl t l' }) : Sim c I L ⟨s.env, putH s.heap r { b with ct := .sl t l' }⟩ a w' := by
  have hoth : ∀ i q, i ≠ r → L i = some q → q.virt = false → w'.heap[q.b]? = w.heap[q.b]? := by
    intro i q e hq hqv
    exact hw _ fun hv hbb => e (h.inj i r q p hq hp hqv hv hbb)
  -- what is read then
  have key : ∀ r', (r' = r ∧ rdv (putH s.heap r { b with ct := .sl t l' }) r' = some { b with ct := .sl t l' }) ∨ (r' ≠ r ∧ rdv (putH s.heap r { b with ct := .sl t l' }) r' = rdv s.heap r') ∨
      (r' ≠ r ∧ ∃ tb tb', rdv s.heap r' = some tb ∧ rdv (putH s.heap r { b with ct := .sl t l' }) r' = some tb' ∧ tb'.gen = tb.gen ∧ tb'.frozen = tb.frozen ∧ tb.isTab = true ∧ tb'.isTab = true) := by
    intro r'
    cases r with
    | l id =>
      have hb' := rdv_l.1 (show rdv s.heap (.l id) = some b from hb)
      have hlt : id < s.heap.length := (List.getElem?_eq_some_iff.1 hb').1
      simp only [putH]
      by_cases e : r' = .l id
      · subst e
        exact .inl ⟨rfl, rdv_set_self hlt⟩
      · refine .inr (.inl ⟨e, rdv_set (fun x hx => ?_) (fun x hx => ?_) e⟩)
        · rw [hb'] at hx
          injection hx with hx
          injection hx with hx
          subst hx
          simp [Blk.isTab, hct]
        · injection hx with hx
          subst hx
          rfl
    | o k i q =>
      obtain ⟨bb, hbb⟩ := h.dom _ p hp
      obtain ⟨tb, cs, rows, st, gs, htb, htct, hview⟩ := rdH_o hb
      obtain ⟨tb2, cs2, rows2, st2, gs2, htb2, htct2, hlt, hview2⟩ := rdv_o.1 hbb
      rw [htb] at htb2
      injection htb2 with htb2
      injection htb2 with htb2
      subst htb2
      rw [htct] at htct2
      injection htct2 with e1 e2 e3 e4
      subst e1
      have e2 := eq_of_heq e2
      subst e2 e3 e4
      have hkl : k < s.heap.length := (List.getElem?_eq_some_iff.1 htb).1
      cases q with
      | zero => simp only [viewO, Option.some.injEq] at hview; subst hview; exact (objCt_sl hct).elim
      | succ q =>
        simp only [viewO] at hview
        split at hview
        · cases hview
        rename_i hns
        have hnm : ¬ ((q + 1, i) ∈ st) := fun hm => by rw [stale_mem hm] at hns; cases hns
        split at hview
        rotate_left
        · cases hview
        rename_i t0 y0 hsl
        simp only [Option.some.injEq] at hview
        subst hview
        simp only [Ct.sl.injEq] at hct
        obtain ⟨rfl, hct⟩ := hct
        have hct := eq_of_heq hct
        subst hct
        have hput : putH s.heap (.o k i (q + 1)) { ct := .sl t0 l', gen := gs.getD (q + 1) 0, frozen := false } = s.heap.set k (some { tb with ct := .tab cs (rows.set i (setO (q + 1) t0 l' cs 1 (rows.getD i (dfl (rowsTy cs))))) st gs }) := by
          simp only [putH, htb, htct]
        simp only
        rw [hput]
        by_cases e : r' = .o k i (q + 1)
        · subst e
          refine .inl ⟨rfl, rdv_o.2 ⟨_, cs, _, st, gs, List.getElem?_set_self hkl, rfl, by simpa using hlt, ?_⟩⟩
          rw [getD_sets hlt]
          simp only [viewV, slO_setO (q + 1) t0 l' y0 hsl, if_neg hnm]
        · cases r' with
          | l id =>
            by_cases hid : k = id
            · subst hid
              exact .inr (.inr ⟨e, tb, _, rdv_l.2 htb, rdv_set_self hkl, rfl, rfl, by simp [Blk.isTab, htct], rfl⟩)
            · refine .inr (.inl ⟨e, ?_⟩)
              simp only [rdv, List.getElem?_set_ne hid]
          | o k' i' q' =>
            refine .inr (.inl ⟨e, ?_⟩)
            by_cases hkk : k = k'
            · subst hkk
              simp only [rdv, List.getElem?_set_self hkl, htb, htct, List.length_set]
              by_cases hii : i = i'
              · subst hii
                simp only [hlt, if_true]
                rw [getD_sets hlt]
                cases q' with
                | zero => simp only [viewV, objCt_box (slO_noMap hsl)]; rw [rowO_setO k i _ gs t0 hlen hsl]
                | succ q' =>
                  have hqq : q' + 1 ≠ q + 1 := fun hq => e (by rw [hq])
                  simp only [viewV]
                  rw [slO_setO_ne t0 l' hqq]
              · split
                · rw [getD_setn hii]
                · rfl
            · simp only [rdv, List.getElem?_set_ne hkk]
  refine h.turn (LLe.refl L) (by rw [hs]; exact Nat.le_refl _) hio (fun x _ hor => ?_) (fun hr i x hix => ?_) (fun i q hq => ?_) (fun i q hq hqv => ?_) h.inj
  · refine hw x fun hv hx => ?_
    rcases hor with hI | hne
    · rw [hx] at hI; exact hnI hv hI
    · exact hne r p hp hv hx.symm
  · rcases key i with ⟨rfl, e⟩ | ⟨hne, e⟩ | ⟨hne, tb, tb', h1, h2, h3, h4, h5, h6⟩
    · rw [e] at hix
      injection hix with hix
      subst hix
      exact ⟨p, hp, hk hr, fun _ => hnI⟩
    · rw [e] at hix
      obtain ⟨q, hq, hqk, hqf⟩ := h.blk i x hix
      exact ⟨q, hq, hqk.mono hr (LLe.refl L) (fun hqv => hoth i q hne hq hqv) (fun hqv o => cell?_heap _ _ (hoth i q hne hq hqv)), hqf⟩
    · rw [h2] at hix
      injection hix with hix
      subst hix
      obtain ⟨q, hq, hqk, hqf⟩ := h.blk i tb h1
      refine ⟨q, hq, ?_, fun hz => hqf (by rw [← h4]; exact hz)⟩
      unfold Blk.isTab at h5 h6
      split at h5
      · rename_i hc5
        split at h6
        · rename_i hc6
          unfold BlkOK at hqk ⊢
          rw [hc5] at hqk
          rw [hc6]
          exact ⟨by rw [h3]; exact hqk.1, hqk.2⟩
        · cases h6
      · cases h5
  · obtain ⟨x, hx⟩ := h.dom i q hq
    rcases key i with ⟨rfl, e⟩ | ⟨hne, e⟩ | ⟨hne, tb, tb', h1, h2, _⟩
    · exact ⟨_, e⟩
    · exact ⟨x, by rw [e]; exact hx⟩
    · exact ⟨_, h2⟩
  · have := h.own i q hq hqv
    exact ⟨by rw [hs]; exact this.2, .inr ⟨i, q, hq, hqv, rfl⟩⟩

/-- A slice of an object's own is taken away from it. -/
theorem Sim.detach (h : Sim c I L s a w) {k i q newId : Nat} {p : Pl} {b tb : Blk} {t : Ty} {l : List (Val t)} {cs : List Cell} {rows : List (Val (rowsTy cs))} {st : List (Nat × Nat)} {gs : List Nat} (hp : L (.o k i q) = some p) (hb : s.rd (.o k i q) = some b) (hct : b.ct = .sl t l)
    (htb : s.rd (.l k) = some tb) (htct : tb.ct = .tab cs rows st gs) (hn : s.heap[newId]? = some none) :
    Sim c I (addL (addL L (.o k i q) { p with gen := p.gen + 1, virt := true }) (.l newId) { p with gen := 0 })
      ⟨s.env, (s.heap.set k (some { tb with ct := .tab cs rows ((q, i) :: st) gs })).set newId (some { ct := .sl t l, gen := 0, frozen := false })⟩ a w := by
  have htb' := rdv_l.1 (show rdv s.heap (.l k) = some tb from htb)
  obtain ⟨⟨hpg, hk⟩, hf⟩ := h.get hp hb
  rw [hct] at hk
  obtain ⟨bb, hbb⟩ := h.dom _ p hp
  obtain ⟨tb1, cs1, rows1, st1, gs1, h1, h2, hview⟩ := rdH_o hb
  obtain ⟨tb2, cs2, rows2, st2, gs2, h3, h4, hlt, hview2⟩ := rdv_o.1 hbb
  rw [htb'] at h1 h3
  injection h1 with h1; injection h1 with h1; subst h1
  injection h3 with h3; injection h3 with h3; subst h3
  rw [htct] at h2 h4
  injection h2 with e1 e2 e3 e4; subst e1; have e2 := eq_of_heq e2; subst e2 e3 e4
  injection h4 with e1 e2 e3 e4; subst e1; have e2 := eq_of_heq e2; subst e2 e3 e4
  have hkl : k < s.heap.length := (List.getElem?_eq_some_iff.1 htb').1
  have hnk : newId ≠ k := by
    intro e
    rw [e, htb'] at hn
    injection hn with hn
    cases hn
  have hnl : newId < s.heap.length := (List.getElem?_eq_some_iff.1 hn).1
  have hLn : L (.l newId) = none := by
    cases hl : L (.l newId) with
    | none => rfl
    | some p =>
      obtain ⟨b, hb⟩ := h.dom _ p hl
      have hb := rdv_l.1 hb
      rw [hn] at hb
      injection hb with hb
      cases hb
  cases q with
  | zero => simp only [viewO, Option.some.injEq] at hview; subst hview; exact (objCt_sl hct).elim
  | succ q =>
  simp only [viewO] at hview
  split at hview
  · cases hview
  rename_i hns
  have hnm : ¬ ((q + 1, i) ∈ st) := fun hm => by rw [stale_mem hm] at hns; cases hns
  split at hview
  rotate_left
  · cases hview
  rename_i t0 y0 hsl
  simp only [Option.some.injEq] at hview
  subst hview
  simp only [Ct.sl.injEq] at hct
  obtain ⟨rfl, hct⟩ := hct
  have hct := eq_of_heq hct
  subst hct
  obtain ⟨hp', hhp'⟩ : ∃ hp', hp' = (s.heap.set k (some { tb with ct := .tab cs rows ((q + 1, i) :: st) gs })).set newId (some { ct := .sl t0 y0, gen := 0, frozen := false }) := ⟨_, rfl⟩
  rw [← hhp']
  -- what is read then
  have r1 : rdv hp' (.l newId) = some { ct := .sl t0 y0, gen := 0, frozen := false } := by
    rw [hhp', rdv_l, List.getElem?_set_self (by simpa using hnl)]
  have r2 : rdv hp' (.o k i (q + 1)) = some { ct := .sl t0 [], gen := gs.getD (q + 1) 0 + 1, frozen := false } := by
    refine rdv_o.2 ⟨{ tb with ct := .tab cs rows ((q + 1, i) :: st) gs }, cs, rows, _, gs, ?_, rfl, hlt, ?_⟩
    · rw [hhp', List.getElem?_set_ne hnk, List.getElem?_set_self hkl]
    · simp only [viewV, hsl, List.mem_cons, true_or, if_true]
  have r3 : rdv hp' (.l k) = some { tb with ct := .tab cs rows ((q + 1, i) :: st) gs } := by
    rw [hhp', rdv_l, List.getElem?_set_ne hnk, List.getElem?_set_self hkl]
  have r4 : ∀ r, r ≠ .l newId → r ≠ .o k i (q + 1) → r ≠ .l k → r ≠ .o k i 0 → rdv hp' r = rdv s.heap r := by
    intro r n1 n2 n3 n4
    cases r with
    | l id =>
      have g1 : newId ≠ id := fun e => n1 (by rw [e])
      have g2 : k ≠ id := fun e => n3 (by rw [e])
      simp only [rdv, hhp', List.getElem?_set_ne g1, List.getElem?_set_ne g2]
    | o k' i' q' =>
      by_cases hkk : k = k'
      · subst hkk
        have h0 : hp'[k]? = some (some { tb with ct := .tab cs rows ((q + 1, i) :: st) gs }) := rdv_l.1 r3
        simp only [rdv, h0, htb', htct]
        split
        · cases q' with
          | zero =>
            have hii : i' ≠ i := fun e => n4 (by rw [e])
            have : (fun q0 => decide ((q0, i') ∈ (q + 1, i) :: st)) = (fun q0 => decide ((q0, i') ∈ st)) := by
              funext q0
              simp [hii]
            simp only [viewV, this]
          | succ q' =>
            have hne : ¬ ((q' + 1, i') = (q + 1, i)) := fun e => by
              injection e with e1 e2
              exact n2 (by rw [e1, e2])
            simp only [viewV, List.mem_cons, hne, false_or]
        · rfl
      · by_cases hnk' : newId = k'
        · subst hnk'
          simp only [rdv, hhp', List.getElem?_set_self (show newId < (s.heap.set k _).length by simpa using hnl), hn]
        · simp only [rdv, hhp', List.getElem?_set_ne hnk', List.getElem?_set_ne hkk]
  have r5 : rdv hp' (.o k i 0) = some { ct := .box (rowO k i (fun q0 => decide ((q0, i) ∈ (q + 1, i) :: st)) gs cs 1 (rows.getD i (dfl (rowsTy cs)))), gen := 0, frozen := false } :=
    rdv_o.2 ⟨{ tb with ct := .tab cs rows ((q + 1, i) :: st) gs }, cs, rows, _, gs, rdv_l.1 r3, rfl, hlt, by simp only [viewV, objCt_box (slO_noMap hsl)]⟩
  have r6 : rdv s.heap (.o k i 0) = some { ct := .box (rowO k i (fun q0 => decide ((q0, i) ∈ st)) gs cs 1 (rows.getD i (dfl (rowsTy cs)))), gen := 0, frozen := false } :=
    rdv_o.2 ⟨tb, cs, rows, _, gs, htb', htct, hlt, by simp only [viewV, objCt_box (slO_noMap hsl)]⟩
  have hgen : p.gen = gs.getD (q + 1) 0 := hpg
  have hl : LLe L (addL (addL L (.o k i (q + 1)) { p with gen := p.gen + 1, virt := true }) (.l newId) { p with gen := 0 }) := by
    refine LLe.trans (addL_le (id := .o k i (q + 1)) (p := { p with gen := p.gen + 1, virt := true }) (fun x hx => ?_) (fun hb => hb)) (addL_le (fun x hx => ?_) (fun hb => hb))
    · rw [hp] at hx
      injection hx with hx
      subst hx
      exact ⟨rfl, Nat.lt_succ_self _⟩
    · simp only [addL, hLn] at hx
      cases hx
  have aL : ∀ r, r ≠ .l newId → r ≠ .o k i (q + 1) → addL (addL L (.o k i (q + 1)) { p with gen := p.gen + 1, virt := true }) (.l newId) { p with gen := 0 } r = L r := by
    intro r n1 n2
    simp only [addL, if_neg n1, if_neg n2]
  have aL1 : addL (addL L (.o k i (q + 1)) { p with gen := p.gen + 1, virt := true }) (.l newId) { p with gen := 0 } (.l newId) = some { p with gen := 0 } := by simp [addL]
  have aL2 : addL (addL L (.o k i (q + 1)) { p with gen := p.gen + 1, virt := true }) (.l newId) { p with gen := 0 } (.o k i (q + 1)) = some { p with gen := p.gen + 1, virt := true } := by simp [addL]
  generalize addL (addL L (.o k i (q + 1)) { p with gen := p.gen + 1, virt := true }) (.l newId) { p with gen := 0 } = L' at *
  refine h.turn hl (Nat.le_refl _) (IO.refl w) (fun _ _ _ => rfl) (fun hr r x hx => ?_) (fun r x hx => ?_) (fun r x hx hv => ?_) (fun r r' x x' hx hx' hv hv' hbb => ?_)
  · have mono : ∀ {p : Pl} {x : Blk}, BlkOK (c.rc I L w) L w p x → BlkOK (c.rc I L' w) L' w p x := fun hk => hk.mono hr hl (fun _ => rfl) (fun _ _ => rfl)
    by_cases n1 : r = .l newId
    · subst n1
      rw [r1] at hx
      injection hx with hx
      subst hx
      refine ⟨_, aL1, ?_, fun _ => hf rfl⟩
      have := mono (p := p) (x := { ct := .sl t0 y0, gen := gs.getD (q + 1) 0, frozen := false }) ⟨hpg, hk⟩
      exact ⟨rfl, this.2⟩
    by_cases n2 : r = .o k i (q + 1)
    · subst n2
      rw [r2] at hx
      injection hx with hx
      subst hx
      refine ⟨_, aL2, ⟨by rw [← hgen], .inl ⟨rfl, rfl, ?_⟩⟩, fun _ hv => by cases hv⟩
      rcases hk with ⟨_, _, h1⟩ | ⟨_, h1, _⟩
      · exact h1
      · exact h1
    rw [aL r n1 n2]
    by_cases n3 : r = .l k
    · subst n3
      rw [r3] at hx
      injection hx with hx
      subst hx
      obtain ⟨p1, hp1, hk1, hf1⟩ := h.blk (.l k) tb htb
      refine ⟨p1, hp1, ?_, hf1⟩
      unfold BlkOK at hk1 ⊢
      rw [htct] at hk1
      exact hk1
    by_cases n4 : r = .o k i 0
    · subst n4
      rw [r5] at hx
      injection hx with hx
      subst hx
      obtain ⟨p1, hp1, hk1, hf1⟩ := h.blk _ _ r6
      refine ⟨p1, hp1, ?_, hf1⟩
      obtain ⟨g1, g2, g3, cc, T, g4, g5⟩ := mono hk1
      exact ⟨g1, g2, g3, cc, T, g4, rowO_weak (fun q0 hq0 => by simp only [decide_eq_true_eq, List.mem_cons] at hq0 ⊢; exact .inr hq0) g5⟩
    rw [r4 r n1 n2 n3 n4] at hx
    obtain ⟨p1, hp1, hk1, hf1⟩ := h.blk _ _ hx
    exact ⟨p1, hp1, mono hk1, hf1⟩
  · by_cases n1 : r = .l newId
    · subst n1; exact ⟨_, r1⟩
    by_cases n2 : r = .o k i (q + 1)
    · subst n2; exact ⟨_, r2⟩
    by_cases n3 : r = .l k
    · subst n3; exact ⟨_, r3⟩
    by_cases n4 : r = .o k i 0
    · subst n4; exact ⟨_, r5⟩
    rw [aL r n1 n2] at hx
    rw [r4 r n1 n2 n3 n4]
    exact h.dom r x hx
  · by_cases n1 : r = .l newId
    · subst n1
      rw [aL1] at hx
      injection hx with hx
      subst hx
      exact ⟨(h.own _ p hp hv).2, .inr ⟨_, p, hp, hv, rfl⟩⟩
    by_cases n2 : r = .o k i (q + 1)
    · subst n2
      rw [aL2] at hx
      injection hx with hx
      subst hx
      cases hv
    rw [aL r n1 n2] at hx
    exact ⟨(h.own r x hx hv).2, .inr ⟨r, x, hx, hv, rfl⟩⟩
  · have key : ∀ r x, r ≠ .l newId → L' r = some x → x.virt = false → p.virt = false → x.b ≠ p.b := by
      intro r x n1 hx hv hpv hbb
      by_cases n2 : r = .o k i (q + 1)
      · subst n2
        rw [aL2] at hx
        injection hx with hx
        subst hx
        cases hv
      rw [aL r n1 n2] at hx
      exact n2 (h.inj r _ x p hx hp hv hpv hbb)
    by_cases n1 : r = .l newId <;> by_cases n1' : r' = .l newId
    · rw [n1, n1']
    · subst n1
      rw [aL1] at hx
      injection hx with hx
      subst hx
      exact absurd hbb.symm (key r' x' n1' hx' hv' hv)
    · subst n1'
      rw [aL1] at hx'
      injection hx' with hx'
      subst hx'
      exact absurd hbb (key r x n1 hx hv hv')
    · by_cases n2 : r = .o k i (q + 1)
      · subst n2
        rw [aL2] at hx
        injection hx with hx
        subst hx
        cases hv
      by_cases n2' : r' = .o k i (q + 1)
      · subst n2'
        rw [aL2] at hx'
        injection hx' with hx'
        subst hx'
        cases hv'
      rw [aL r n1 n2] at hx
      rw [aL r' n1' n2'] at hx'
      exact h.inj r r' x x' hx hx' hv hv' hbb

end
end Go.Eng

/-
  The abstract machine, part 13: variables made and written.
-/
namespace Go.Eng

section
variable {c : Ctx} {I : Nat → Prop} {L : Ref → Option Pl} {s : St} {a : Act} {w : World} {call : CallF}

theorem heap_push_old {w w' : World} {o : Obj} (e : w'.heap = w.heap.push o) (b : Nat) (h : b < w.heap.size) : w'.heap[b]? = w.heap[b]? := by
  rw [e, Array.getElem?_push_lt h]
  simp [h]

theorem heap_push_new {w w' : World} {o : Obj} (e : w'.heap = w.heap.push o) : w'.heap[w.heap.size]? = some o := by
  rw [e]; simp

theorem free_L (h : Sim c I L s a w) {id : Nat} (hn : s.heap[id]? = some none) : L (.l id) = none := by
  cases hl : L (.l id) with
  | none => rfl
  | some p =>
    obtain ⟨b, hb⟩ := h.dom _ p hl
    have hb := rdv_l.1 hb
    rw [hn] at hb
    injection hb with hb
    cases hb

theorem lt_of_free {hp : List (Option Blk)} {id : Nat} (hn : hp[id]? = some none) : id < hp.length := (List.getElem?_eq_some_iff.1 hn).1

theorem notab_free {hp : List (Option Blk)} {id : Nat} (hn : hp[id]? = some none) : ∀ b, hp[id]? = some (some b) → b.isTab = false := by
  intro b hb
  rw [hn] at hb
  injection hb with hb
  cases hb

/-- A block made. -/
theorem Sim.new (h : Sim c I L s a w) {id : Nat} (hn : s.heap[id]? = some none) {blk : Blk} (hnt : blk.isTab = false) {cs : Array Value} {T : TypeId} {w' : World} (e : w'.heap = w.heap.push (.cells cs T (0, 0))) (hio : IO w w') {p : Pl}
    (hp : p.b = w.heap.size ∧ p.virt = false) (hk : RLe (c.rc I L w) (c.rc I (addL L (.l id) p) w') → LLe L (addL L (.l id) p) → BlkOK (c.rc I (addL L (.l id) p) w') (addL L (.l id) p) w' p blk) :
    Sim c I (addL L (.l id) p) ⟨s.env, s.heap.set id (some blk)⟩ a w' := by
  have hL := free_L h hn
  refine h.upd (lt_of_free hn) (notab_free hn) hnt (fun q hq => by rw [hL] at hq; cases hq) (fun _ => ⟨by rw [hp.1, e]; simp, .inl (by rw [hp.1]; exact Nat.le_refl _)⟩) (by rw [e]; simp) hio (fun b hb _ => heap_push_old e b hb) hk ?_
  intro _ _ hI
  have := h.imm _ hI
  rw [hp.1] at this
  omega

theorem OpOK.new (h : Sim c I L s a w) {o : Oper} {newId : Nat} (hn : s.heap[newId]? = some none) {x : AV} {v : Value} {blk : Blk} (hnt : blk.isTab = false) {cs : Array Value} {T : TypeId} {w' : World}
    (e : (execOp a.eval o).run c.P w = .ok (.value v) w') (eh : w'.heap = w.heap.push (.cells cs T (0, 0))) (hio : IO w w') {p : Pl} (hp : p.b = w.heap.size ∧ p.virt = false)
    (hk : RLe (c.rc I L w) (c.rc I (addL L (.l newId) p) w') → LLe L (addL L (.l newId) p) → BlkOK (c.rc I (addL L (.l newId) p) w') (addL L (.l newId) p) w' p blk) (hx : Rep (c.rc I (addL L (.l newId) p) w') (addL L (.l newId) p) x v) :
    OpOK c s a w o { x := x, wr := [(.l newId, blk)] } := by
  intro K Q hK
  unfold Oper.wp
  rw [e, Oper.upon_value]
  have := (h.new hn hnt eh hio hp hk).put o.dst hx
  exact hK _ _ _ _ this

theorem op_alloc (h : Sim c I L s a w) (hE : EnvOK c.P c.E) {t : TypeId} {o : Oper} (ho : o.op = .alloc t) (hkd : c.E.kind t = none) {newId : Nat} (hn : s.heap[newId]? = some none) {δ : Dl} {rs : List Nat}
    (e : (aop c.E (aeval s.env) newId o.op).run call s.rd = some (δ, rs)) : OpOK c s a w o δ := by
  rw [ho] at e
  simp only [aop, hkd] at e
  split at e
  · rename_i ti hty
    obtain ⟨d, i, z, hT⟩ := hE.ty _ ti hty
    obtain ⟨rfl, rfl⟩ := HM.run_ret e
    refine OpOK.new h hn rfl (v := .pointer (some ⟨w.heap.size, 0, none⟩)) (cs := z.cells) (T := t) (w' := { w with heap := w.heap.push (.cells z.cells t) }) (p := ⟨w.heap.size, 0, 0, 0, 0, false⟩) ?_ rfl ⟨rfl, rfl, rfl⟩ ⟨rfl, rfl⟩ ?_ ?_
    · simp only [execOp, ho]
      simp [Instr.alloc, hT.run_zero, newVar, newRow]
    · intro hr hl
      exact ⟨rfl, rfl, rfl, z.cells, t, heap_push_new rfl, hT.zeroL _ _⟩
    · simp only [Rep]
      exact ⟨⟨w.heap.size, 0, 0, 0, 0, false⟩, by simp [addL], Nat.le_refl _, _, rfl, fun _ => by simp⟩
  · cases e

theorem op_box (h : Sim c I L s a w) {t : TypeId} {x : Operand} {o : Oper} (ho : o.op = .box t x) (hkd : c.E.kind t = none) {newId : Nat} (hn : s.heap[newId]? = some none) {δ : Dl} {rs : List Nat}
    (e : (aop c.E (aeval s.env) newId o.op).run call s.rd = some (δ, rs)) : OpOK c s a w o δ := by
  rw [ho] at e
  simp only [aop, hkd] at e
  have hx := h.eval x
  split at e
  · rename_i ti cs hty hcs
    split at e
    · obtain ⟨rfl, rfl⟩ := HM.run_ret e
      refine OpOK.new h hn rfl (v := .pointer (some ⟨w.heap.size, 0, none⟩)) (cs := (a.eval x).cells) (T := t) (w' := { w with heap := w.heap.push (.cells (a.eval x).cells t) }) (p := ⟨w.heap.size, 0, 0, 0, 0, false⟩) ?_ rfl ⟨rfl, rfl, rfl⟩ ⟨rfl, rfl⟩ ?_ ?_
      · simp only [execOp, ho]
        simp [Instr.box, newVar, newRow]
      · intro hr hl
        exact ⟨rfl, rfl, rfl, _, t, heap_push_new rfl, (cells_sound hcs hx).mono hr hl⟩
      · simp only [Rep]
        exact ⟨⟨w.heap.size, 0, 0, 0, 0, false⟩, by simp [addL], Nat.le_refl _, _, rfl, fun _ => by simp⟩
    · cases e
  · cases e

/-- cells written -/
theorem run_storeCells {P : Program} {b o : Nat} {T : TypeId} : ∀ (vs : List Value) (i : Nat) (w : World) (cs : Array Value), w.heap[b]? = some (.cells cs T (0, 0)) → o + i + vs.length ≤ cs.size → (∀ v, v ∈ vs → v.oneCell' = true) →
    ∃ w', (storeCells ⟨b, o, none⟩ vs i).run P w = .ok () w' ∧ w'.heap.size = w.heap.size ∧ w'.heap[b]? = some (.cells (wrAt cs (o + i) vs) T (0, 0)) ∧ (∀ k, k ≠ b → w'.heap[k]? = w.heap[k]?) ∧ IO w w'
  | [], i, w, cs, hh, _, _ => ⟨w, rfl, rfl, hh, fun _ _ => rfl, IO.refl w⟩
  | v :: r, i, w, cs, hh, hle, hv => by
    simp only [List.length_cons] at hle
    have hc : w.cell? ⟨b, o + i, none⟩ = some cs[o + i] := by
      rw [cell?_cells hh]
      simp
    have hf : w.frozen? ⟨b, o + i, none⟩ = false := by simp [World.frozen?, hh]
    have hst : (store ⟨b, o + i, none⟩ v).run P w = .ok () (w.setCell ⟨b, o + i, none⟩ v) := by
      rw [run_store P w _ v .plain (hv v (by simp)), hc, hf]
      rfl
    have h1 := heap_setCell_same w b (o + i) cs T v hh
    obtain ⟨w', e, hs, hb, hk, hio⟩ := run_storeCells (P := P) (o := o) r (i + 1) (w.setCell ⟨b, o + i, none⟩ v) _ h1 (by simp; omega) (fun u hu => hv u (by simp [hu]))
    refine ⟨w', ?_, ?_, ?_, ?_, hio⟩
    · simp only [storeCells, Sem.run_bind, addr_add, hst, Result.andThen_ok]
      exact e
    · rw [hs]
      simp [World.setCell]
    · rw [hb]
      simp only [wrAt]
      rfl
    · intro k hne
      rw [hk k hne]
      exact heap_setCell_other w _ k v hne

theorem OpOK.skip {o : Oper} {wr : List (Ref × Blk)} {w' : World} (e : (execOp a.eval o).run c.P w = .ok .skip w') {I' : Nat → Prop} {L' : Ref → Option Pl}
    (hs : Sim c I' L' ⟨s.env, putAll s.heap wr⟩ a w') : OpOK c s a w o { x := .v (.tuple #[]), wr := wr } := by
  intro K Q hK
  unfold Oper.wp
  rw [e, Oper.upon_skip]
  exact hK _ _ _ _ (hs.put o.dst (x := .v (.tuple #[])) (v := undef) (by simp [Rep, undef]))

theorem RepL.mem_cell {R : RC} {L : Ref → Option Pl} : ∀ {l : List AV} {ys : List Value}, RepL R L l ys → l.all AV.isCell = true → ∀ v, v ∈ ys → v.oneCell' = true
  | [], ys, h, _, v, hv => by simp only [RepL] at h; subst h; cases hv
  | x :: r, ys, h, ha, v, hv => by
    simp only [RepL] at h
    obtain ⟨y, t, rfl, hy, ht⟩ := h
    simp only [List.all_cons, Bool.and_eq_true] at ha
    rcases List.mem_cons.1 hv with rfl | hv
    · exact isCell_sound ha.1 hy
    · exact ht.mem_cell ha.2 v hv

theorem op_storeBox (h : Sim c I L s a w) (hE : EnvOK c.P c.E) {t : TypeId} {x y : Operand} {o : Oper} (ho : o.op = .store t x y) {ti : TyI} (hty : c.E.ty t = some ti) {id j g : Nat} (hav : aeval s.env x = .lptr (.l id) 0 j g)
    {b : Blk} (hb : s.rd (.l id) = some b) (hg : g = b.gen) (hz : b.frozen = false) {row cs : List AV} (hct : b.ct = .box row) (hcs : (aeval s.env y).cells = some cs) (hall : cs.all AV.isCell = true) (hsz : cs.length = ti.size) (hle : j + cs.length ≤ row.length) :
    OpOK c s a w o { x := .v (.tuple #[]), wr := [(.l id, { b with ct := .box (setRow row j cs) })] } := by
  obtain ⟨d, i, z, hT⟩ := hE.ty _ ti hty
  have hx := h.eval x
  have hy := h.eval y
  rw [hav] at hx
  simp only [Rep] at hx
  obtain ⟨p, hp, hge, q, hq, hcur⟩ := hx
  obtain ⟨⟨hpg, hk⟩, hf⟩ := h.get hp hb
  have hb' := rdv_l.1 (show rdv s.heap (.l id) = some b from hb)
  have hid : id < s.heap.length := (List.getElem?_eq_some_iff.1 hb').1
  rw [hct] at hk
  obtain ⟨hv, hpo, cells, T, hh, hrow⟩ := hk
  have hqq := hcur (by rw [hpg, hg])
  simp only [hpo, Nat.zero_mul, Nat.zero_add, Nat.add_zero] at hqq
  have hcl := cells_sound hcs hy
  have hlen := hcl.length
  have hrl := hrow.length
  have hsize : cells.size = row.length := by simpa using hrl
  obtain ⟨w', erun, hs, hnew, hoth, hio⟩ := run_storeCells (P := c.P) (o := j) (a.eval y).cells.toList 0 w cells hh (by rw [hlen, hsize]; omega) (hcl.mem_cell hall)
  refine OpOK.skip (w' := w') ?_ (I' := I) (L' := addL L (.l id) p) ?_
  · simp only [execOp, ho]
    rw [hq, hqq]
    have hsz' : (a.eval y).cells.size = ti.size := by
      have : (a.eval y).cells.toList.length = ti.size := by rw [hlen, hsz]
      simpa using this
    simp [Instr.storeAt, Instr.sureAddr, storeVar, hT.run_size, hsz', erun]
  · simp only [putAll, putH]
    refine h.upd hid (fun x hx => by rw [hb'] at hx; injection hx with hx; injection hx with hx; subst hx; simp [Blk.isTab, hct]) rfl (fun q hq => by rw [hp] at hq; injection hq with hq; exact ⟨by rw [hq], .inl hq⟩) (fun _ => ⟨by rw [hs]; exact (h.own _ p hp hv).2, .inr ⟨p, hp, hv, rfl⟩⟩) (by rw [hs]; exact Nat.le_refl _) hio ?_ ?_ (fun _ _ => hf hz hv)
    · intro k _ hk
      by_cases e : k = p.b
      · exact absurd (hk p hp hv e) (by rw [e]; exact hf hz hv)
      · exact hoth k e
    · intro hr hl
      refine ⟨hpg, hv, hpo, _, T, hnew, ?_⟩
      have := setRow_sound (j := j) (hrow.mono hr hl) (hcl.mono hr hl)
      simpa using this

theorem freezeAll_sound {s : St} : ∀ {ids : List Ref} {fz : List (Ref × Blk)} {rs : List Nat}, (freezeAll ids).run call s.rd = some (fz, rs) → (∀ r, r ∈ ids → ∀ b, s.rd r = some b → b.isTab = false) → ∀ (h : List (Option Blk)), (∀ id, .l id ∈ ids → id < h.length) →
    (∀ id b, .l id ∈ ids → h[id]? = some (some b) → b.isTab = false) →
    (putAll h fz).length = h.length ∧ (∀ r, r ∉ ids → rdv (putAll h fz) r = rdv h r ∧ rdH (putAll h fz) r = rdH h r) ∧ (∀ r, r ∈ ids → ∃ id b, r = .l id ∧ s.rd r = some b ∧ rdv (putAll h fz) r = some { b with frozen := true }) ∧ fz.map (·.1) = ids ∧
      (∀ id, .l id ∉ ids → (putAll h fz)[id]? = h[id]?)
  | [], fz, rs, e, _, h, _, _ => by
    obtain ⟨rfl, rfl⟩ := HM.run_ret e
    exact ⟨rfl, fun _ _ => ⟨rfl, rfl⟩, (fun k hk => by cases hk), rfl, fun _ _ => rfl⟩
  | .o _ _ _ :: _, fz, rs, e, _, h, _, _ => by cases e
  | .l id :: r, fz, rs, e, ht, h, hl, hn => by
    simp only [freezeAll] at e
    obtain ⟨b, l', hb, e1, rfl⟩ := HM.run_rd e
    obtain ⟨l, l1, l2, e2, e3, rfl⟩ := HM.run_bind e1
    obtain ⟨rfl, rfl⟩ := HM.run_ret e3
    have hbt : b.isTab = false := ht (.l id) (by simp) b hb
    have hbt' : ({ b with frozen := true } : Blk).isTab = false := hbt
    obtain ⟨h1, h2, h3, h4, h5⟩ := freezeAll_sound e2 (fun r' hr' => ht r' (by simp [hr'])) (h.set id (some { b with frozen := true })) (fun k hk => by simpa using hl k (by simp [hk])) (fun k x hk hx => by
      by_cases e : id = k
      · subst e
        rw [List.getElem?_set_self (hl id (by simp))] at hx
        injection hx with hx
        injection hx with hx
        subst hx
        exact hbt'
      · rw [List.getElem?_set_ne e] at hx
        exact hn k x (by simp [hk]) hx)
    simp only [putAll, putH]
    refine ⟨by simpa using h1, fun k hk => ?_, fun k hk => ?_, by simp [h4], fun k hk => ?_⟩
    · simp only [List.mem_cons, not_or] at hk
      obtain ⟨g1, g2⟩ := h2 k hk.2
      rw [g1, g2]
      refine ⟨rdv_set (fun x hx => hn id x (by simp) hx) (fun x hx => by injection hx with hx; subst hx; exact hbt') hk.1, rdH_set (fun x hx => hn id x (by simp) hx) (fun x hx => by injection hx with hx; subst hx; exact hbt') hk.1⟩
    · by_cases hr : k ∈ r
      · exact h3 k hr
      · simp only [List.mem_cons] at hk
        rcases hk with rfl | hk
        · exact ⟨id, b, rfl, hb, by rw [(h2 _ hr).1, rdv_set_self (hl id (by simp))]⟩
        · exact absurd hk hr
    · simp only [List.mem_cons, not_or] at hk
      rw [h5 k hk.2, List.getElem?_set_ne (fun e => hk.1 (by rw [e]))]

/-- the blocks of these are held for good -/
def heldBy (I : Nat → Prop) (L : Ref → Option Pl) (ids : List Ref) : Nat → Prop := fun b => I b ∨ ∃ id p, id ∈ ids ∧ L id = some p ∧ p.virt = false ∧ b = p.b

theorem lt_of_rd {hp : List (Option Blk)} {id : Nat} {b : Blk} (h : rdv hp (.l id) = some b) : id < hp.length := (List.getElem?_eq_some_iff.1 (rdv_l.1 h)).1

/-- what is known of blocks that were handed out -/
def Told (L : Ref → Option Pl) (s : St) (ids : List Ref) : Prop := ∀ id, id ∈ ids → ∃ p, L id = some p ∧ ∃ b, s.rd id = some b ∧ b.isTab = false

theorem Told.lt {ids : List Ref} (ht : Told L s ids) {id : Nat} (hm : .l id ∈ ids) : id < s.heap.length := by
  obtain ⟨p, hp, b, hb, _⟩ := ht _ hm
  exact lt_of_rd hb

theorem Told.notab {ids : List Ref} (ht : Told L s ids) {id : Nat} {x : Blk} (hm : .l id ∈ ids) (hx : s.heap[id]? = some (some x)) : x.isTab = false := by
  obtain ⟨p, hp, b, hb, hn⟩ := ht _ hm
  have hb := rdv_l.1 (show rdv s.heap (.l id) = some b from hb)
  rw [hb] at hx
  injection hx with hx
  injection hx with hx
  subst hx
  exact hn

theorem Told.mem {ids : List Ref} (ht : Told L s ids) {r : Ref} (hm : r ∈ ids) {x : Blk} (hx : s.rd r = some x) : x.isTab = false := by
  obtain ⟨p, hp, b, hb, hn⟩ := ht _ hm
  rw [hb] at hx
  injection hx with hx
  subst hx
  exact hn

theorem Told.freeze {ids : List Ref} (ht : Told L s ids) {fz : List (Ref × Blk)} {rs : List Nat} (e : (freezeAll ids).run call s.rd = some (fz, rs)) :
    (putAll s.heap fz).length = s.heap.length ∧ (∀ r, r ∉ ids → rdv (putAll s.heap fz) r = rdv s.heap r ∧ rdH (putAll s.heap fz) r = rdH s.heap r) ∧ (∀ r, r ∈ ids → ∃ id b, r = .l id ∧ s.rd r = some b ∧ rdv (putAll s.heap fz) r = some { b with frozen := true }) ∧ fz.map (·.1) = ids ∧
      (∀ id, .l id ∉ ids → (putAll s.heap fz)[id]? = s.heap[id]?) :=
  freezeAll_sound e (fun _ hm _ hx => ht.mem hm hx) s.heap (fun _ hm => ht.lt hm) (fun _ _ hm hx => ht.notab hm hx)

theorem Sim.freezeAll (h : Sim c I L s a w) {ids : List Ref} {fz : List (Ref × Blk)} {rs : List Nat} (e : (freezeAll ids).run call s.rd = some (fz, rs)) (ht : Told L s ids) :
    Sim c (heldBy I L ids) L ⟨s.env, putAll s.heap fz⟩ a w := by
  obtain ⟨h1, h2, h3, _⟩ := ht.freeze e
  refine h.freeze (fun b hb => .inl hb) (fun b hb => ?_) (fun id b' hb' => ?_) (fun id b hb => ?_)
  · rcases hb with hb | ⟨id, p, hid, hp, hv, rfl⟩
    · exact .inl hb
    · refine .inr ⟨id, p, hp, hv, rfl, fun b' hb' => ?_⟩
      obtain ⟨_, b, _, _, hb⟩ := h3 id hid
      rw [hb] at hb'
      simp only [Option.some.injEq] at hb'
      rw [← hb']
  · by_cases hid : id ∈ ids
    · obtain ⟨k, b, rfl, hb, hb2⟩ := h3 id hid
      rw [hb2] at hb'
      simp only [Option.some.injEq] at hb'
      subst hb'
      exact ⟨b, hb, rfl, rfl, fun hf => by cases hf⟩
    · rw [(h2 id hid).1] at hb'
      exact ⟨b', hb', rfl, rfl, fun hf => hf⟩
  · by_cases hid : id ∈ ids
    · obtain ⟨_, b, _, hb, hb2⟩ := h3 id hid
      exact ⟨_, hb2⟩
    · exact ⟨b, by rw [(h2 id hid).1]; exact hb⟩

theorem putAll_append : ∀ (l m : List (Ref × Blk)) (h : List (Option Blk)), putAll h (l ++ m) = putAll (putAll h l) m
  | [], _, _ => rfl
  | (i, b) :: r, m, h => by simp only [List.cons_append, putAll]; exact putAll_append r m _

theorem wrAt_out : ∀ (vs : List Value) (cs : Array Value) (j m : Nat), (m < j ∨ j + vs.length ≤ m) → (wrAt cs j vs)[m]? = cs[m]?
  | [], _, _, _, _ => rfl
  | v :: r, cs, j, m, h => by
    simp only [List.length_cons] at h
    simp only [wrAt]
    rw [wrAt_out r _ (j + 1) m (by omega)]
    exact Array.getElem?_setIfInBounds_ne (by omega)

theorem wrAt_in : ∀ (vs : List Value) (cs : Array Value) (j k : Nat), k < vs.length → j + k < cs.size → (wrAt cs j vs)[j + k]? = vs[k]?
  | [], _, _, _, h, _ => by simp at h
  | v :: r, cs, j, k, h, hs => by
    simp only [List.length_cons] at h
    simp only [wrAt]
    cases k with
    | zero =>
      rw [wrAt_out r _ (j + 1) (j + 0) (by omega)]
      simp at hs
      simp [hs]
    | succ k =>
      have := wrAt_in r (cs.setIfInBounds j v) (j + 1) k (by omega) (by simp; omega)
      rw [show j + (k + 1) = j + 1 + k from by omega, this]
      rfl

theorem op_storeSl (h : Sim c I L s a w) (hE : EnvOK c.P c.E) {t : TypeId} {x y : Operand} {o : Oper} (ho : o.op = .store t x y) {ti : TyI} (hty : c.E.ty t = some ti) {id : Ref} {i j g : Nat} (hav : aeval s.env x = .lptr id i j g)
    {b : Blk} (hb : s.rd id = some b) (hg : g = b.gen) (hz : b.frozen = false) {u : Ty} {l : List (Val u)} (hct : b.ct = .sl u l) (hlt : i < l.length) {y' : AV} {ids : List Ref} {r1 r2 : List Nat} {fz : List (Ref × Blk)}
    (e1 : (exportN 8 (aeval s.env y)).run call s.rd = some ((y', ids), r1)) (e2 : (Go.Eng.freezeAll ids).run call s.rd = some (fz, r2)) {cs : List AV} (hcs : y'.cells = some cs) (hall : cs.all AV.isCell = true) (hsz : cs.length = ti.size)
    (hle : j + cs.length ≤ u.size) (hno : ids.contains id = false) {z : Val u} (hdec : decT c.E.toNames u (setRow (cellsT u (l.getD i (dfl u))) j cs) = some (z, [])) :
    OpOK c s a w o { x := .v (.tuple #[]), wr := fz ++ [(id, { b with ct := .sl u (l.set i z) })] } := by
  obtain ⟨d, ii, zz, hT⟩ := hE.ty _ ti hty
  have hx := h.eval x
  rw [hav] at hx
  obtain ⟨g1, g2⟩ := exportN_sound h 8 e1 (h.eval y)
  have ht : Told L s ids := fun r hr => (g1 r hr).2
  have hF := h.freezeAll e2 ht
  obtain ⟨f1, f2, f3, _⟩ := ht.freeze e2
  have hidn : id ∉ ids := by
    intro hm
    have : ids.contains id = true := by simpa using hm
    rw [this] at hno
    cases hno
  have hb' : (⟨s.env, putAll s.heap fz⟩ : St).rd id = some b := by
    show rdH (putAll s.heap fz) id = _
    rw [(f2 id hidn).2]
    exact hb
  simp only [Rep] at hx
  obtain ⟨p, hp, hge, q, hq, hcur⟩ := hx
  obtain ⟨⟨hpg, hk⟩, hf⟩ := hF.get hp hb'
  rw [hct] at hk
  rcases hk with ⟨_, rfl, _⟩ | ⟨hv, hpw, cells, T, hh, hps, hsize, hrow⟩
  · simp at hlt
  have hrep := g2 (heldBy I L ids) (fun b hb => .inl hb) (fun id hid p hp hv => .inr ⟨id, p, hid, hp, hv, rfl⟩)
  have hqq := hcur (by rw [hpg, hg])
  have hcl := cells_sound hcs hrep
  have hlen := hcl.length
  obtain ⟨dd, hd, hat⟩ := hrow i hlt
  have hdl := hd.length
  have hrows : (i + 1) * p.w ≤ l.length * p.w := Nat.mul_le_mul_right _ (by omega)
  rw [Nat.add_mul, Nat.one_mul] at hrows
  obtain ⟨w', erun, hs, hnew, hoth, hio⟩ := run_storeCells (P := c.P) (o := p.o + i * p.w + j) (a.eval y).cells.toList 0 w cells hh (by rw [hlen]; omega) (hcl.mem_cell hall)
  refine OpOK.skip (w' := w') ?_ (I' := heldBy I L ids) (L' := L) ?_
  · simp only [execOp, ho]
    rw [hq, hqq]
    have hsz' : (a.eval y).cells.size = ti.size := by
      have : (a.eval y).cells.toList.length = ti.size := by rw [hlen, hsz]
      simpa using this
    simp [Instr.storeAt, Instr.sureAddr, storeVar, hT.run_size, hsz', erun]
  · rw [putAll_append]
    simp only [putAll]
    have hnI := hf hz hv
    refine hF.updIn hp hb' hct (l' := l.set i z) (by simp) hs hio (fun k hk => hoth k (hk hv)) (fun _ => hnI) hz ?_
    · intro hr
      refine ⟨hpg, .inr ⟨hv, hpw, _, T, hnew, by rw [wrAt_size]; exact hps, by simpa using hsize, fun k hk => ?_⟩⟩
      simp only [List.length_set] at hk
      -- the cells of the block after the writing
      have hcell : ∀ m, (c.rc (heldBy I L ids) L w').C p.b m = (wrAt cells (p.o + i * p.w + j + 0) (a.eval y).cells.toList)[m]? := fun m => cell?_cells hnew
      have hold : ∀ m, (c.rc (heldBy I L ids) L w).C p.b m = cells[m]? := fun m => cell?_cells hh
      by_cases hki : k = i
      · subst hki
        rw [List.getD_eq_getElem?_getD, List.getElem?_set_self hlt]
        have hrowL : RepL (c.rc (heldBy I L ids) L w) Go.Eng.noL (setRow (cellsT u (l.getD k (dfl u))) j cs) (wrAt dd.toArray j (a.eval y).cells.toList).toList :=
          setRow_sound (RepL.ofT u (by simpa using hd)) hcl
        obtain ⟨c1, c2, hc12, hz1, hz2⟩ := decT_sound u hdec hrowL
        simp only [RepL] at hz2
        subst hz2
        refine ⟨_, (by simpa [← hc12] using hz1.mono hr), ?_⟩
        intro m v hm
        rw [hcell, Nat.add_zero]
        have hc12' : (wrAt dd.toArray j (a.eval y).cells.toList).toList = c1 := by simpa using hc12
        rw [← hc12'] at hm
        have hm' : (wrAt dd.toArray j (a.eval y).cells.toList)[m]? = some v := by simpa using hm
        have hdl' : dd.toArray.size = u.size := by simpa using hdl
        have hmlt : m < u.size := by
          rcases Nat.lt_or_ge m u.size with hl | hl
          · exact hl
          · rw [Array.getElem?_eq_none (by rw [wrAt_size, hdl']; exact hl)] at hm'; cases hm'
        by_cases hin : j ≤ m ∧ m < j + (a.eval y).cells.toList.length
        · obtain ⟨q, rfl⟩ := Nat.exists_eq_add_of_le hin.1
          rw [wrAt_in _ _ j q (by omega) (by rw [hdl']; exact hmlt)] at hm'
          rw [show p.o + k * p.w + (j + q) = p.o + k * p.w + j + q from by omega, wrAt_in _ _ _ q (by omega) (by omega)]
          exact hm'
        · rw [wrAt_out _ _ j m (by omega)] at hm'
          rw [wrAt_out _ _ _ _ (by omega)]
          have := hat m v (by simpa using hm')
          rw [hold] at this
          exact this
      · rw [List.getD_eq_getElem?_getD, List.getElem?_set_ne (Ne.symm hki), ← List.getD_eq_getElem?_getD]
        obtain ⟨d2, hd2, hat2⟩ := hrow k hk
        refine ⟨d2, hd2.mono hr, fun m v hm => ?_⟩
        rw [hcell, Nat.add_zero]
        have := hat2 m v hm
        rw [hold] at this
        have hmlt : m < u.size := by
          rcases Nat.lt_or_ge m u.size with hl | hl
          · exact hl
          · rw [List.getElem?_eq_none (by rw [hd2.length]; exact hl)] at hm; cases hm
        rw [wrAt_out _ _ _ _ ?_]
        · exact this
        · rcases Nat.lt_or_gt_of_ne hki with hlt' | hgt'
          · have h1 : (k + 1) * p.w ≤ i * p.w := Nat.mul_le_mul_right _ (by omega)
            rw [Nat.add_mul, Nat.one_mul] at h1
            omega
          · have h1 : (i + 1) * p.w ≤ k * p.w := Nat.mul_le_mul_right _ (by omega)
            rw [Nat.add_mul, Nat.one_mul] at h1
            omega

end
end Go.Eng

/-
  The abstract machine, part 14: slices made, written out, appended to, copied.
-/
namespace Go.Eng

section
variable {c : Ctx} {I : Nat → Prop} {L : Ref → Option Pl} {s : St} {a : Act} {w : World} {call : CallF}

/-- nothings, one after the other -/
theorem zeros_get (z : Array Value) (n size i j : Nat) (hz : z.size = size) (hi : i < n) (hj : j < size) : ((Array.range (n * size)).map (z[· % z.size]!))[i * size + j]? = z[j]? := by
  have h1 : i * size + j < n * size := by
    have : (i + 1) * size ≤ n * size := Nat.mul_le_mul_right _ hi
    rw [Nat.add_mul, Nat.one_mul] at this
    omega
  have h2 : (i * size + j) % size = j := by
    rw [Nat.add_comm, Nat.add_mul_mod_self_right, Nat.mod_eq_of_lt hj]
  rw [Array.getElem?_map, Array.getElem?_range]
  simp only [h1, if_true, Option.map_some]
  rw [hz, h2]
  have h3 : j < z.size := by omega
  simp [h3]

theorem op_makeSlice (h : Sim c I L s a w) (hE : EnvOK c.P c.E) {t : TypeId} {x y : Operand} {o : Oper} (ho : o.op = .makeSlice t x y) {newId : Nat} (hn : s.heap[newId]? = some none) {δ : Dl} {rs : List Nat}
    (e : (aop c.E (aeval s.env) newId o.op).run call s.rd = some (δ, rs)) : OpOK c s a w o δ := by
  rw [ho] at e
  simp only [aop] at e
  split at e
  · rename_i ei k1 n k2 m hel hix hiy
    unfold elemT at hel
    split at hel
    · rename_i ti hty
      obtain ⟨d, i, z, hT⟩ := hE.ty _ ti hty
      have hd := hT.desc
      split at hel
      · rename_i et htd
        rw [htd] at hd
        obtain rfl := descOf_slice hd
        obtain ⟨d2, i2, z2, hT2⟩ := hE.ty _ ei hel
        have hvx := int?_sound hix (h.eval x)
        have hvy := int?_sound hiy (h.eval y)
        split at e
        · rename_i u hu
          obtain ⟨c1, e2⟩ := HM.run_chk e
          obtain ⟨c2, e3⟩ := HM.run_chk e2
          obtain ⟨c3, e4⟩ := HM.run_chk e3
          obtain ⟨rfl, rfl⟩ := HM.run_ret e4
          have c1 := of_decide_eq_true c1
          have c2 := of_decide_eq_true c2
          have c3 := of_decide_eq_true c3
          have hmost : (most : Int) = 1099511627776 := rfl
          rw [hmost] at c3
          have hm : m ≤ 1099511627776 := by
            have h1 : m * 1 ≤ m * ((ei.bytes : Int) + 1) := Int.mul_le_mul_of_nonneg_left (by omega) (by omega)
            omega
          have hmb : m * (ei.bytes : Int) ≤ 1099511627776 := by
            have : m * ((ei.bytes : Int) + 1) = m * ei.bytes + m := by rw [Int.mul_add, Int.mul_one]
            omega
          have wn : IntKind.i64.wrap n = n := by unfold IntKind.wrap; simp [IntKind.bits, IntKind.signed]; omega
          have wm : IntKind.i64.wrap m = m := by unfold IntKind.wrap; simp [IntKind.bits, IntKind.signed]; omega
          obtain ⟨husz, _⟩ := hT2.ty u hu
          have hzs : z2.cells.size = ei.size := by
            have := (hT2.zeroL (c.rc I L w) L).length
            rw [hT2.len] at this
            simpa using this
          obtain ⟨zc, hzc⟩ : ∃ zc : Array Value, zc = if m.toNat * ei.size = 0 then (#[] : Array Value) else z2.cells := ⟨_, rfl⟩
          have hzc0 : m.toNat * ei.size ≠ 0 → zc = z2.cells := fun h0 => by rw [hzc, if_neg h0]
          let cs : Array Value := (Array.range (m.toNat * ei.size)).map fun k => zc[k % zc.size]!
          have hcs : cs.size = m.toNat * ei.size := by simp [cs]
          refine OpOK.new h hn rfl (v := .slice (some ⟨w.heap.size, 0, none⟩) n.toNat m.toNat) (cs := cs) (T := et) (w' := { w with heap := w.heap.push (.cells cs et) }) (p := ⟨w.heap.size, 0, u.size, 0, cs.size, false⟩) ?_ rfl ⟨rfl, rfl, rfl⟩ ⟨rfl, rfl⟩ ?_ ?_
          · simp only [execOp, ho]
            rw [hvx, hvy]
            have hb : i2.bytes = ei.bytes := hT2.bytes
            have hbm : ¬ (281474976710656 < (ei.bytes : Int) * m) := by rw [Int.mul_comm]; omega
            have hbn : ¬ (m < n) := by omega
            have hm0 : ¬ m < 0 := by omega
            have hn0 : ¬ n < 0 := by omega
            simp only [Instr.makeSlice, Sem.run_bind, hT.run_u, Result.andThen_ok, asInt, asIntOf, Sem.run_pure, hT2.run_info, hb, wn, wm]
            rw [if_neg (by simp [hm0, hn0, hbn, hbm])]
            simp only [Sem.run_bind, run_askRoom, Result.andThen_ok, hT2.run_size]
            by_cases h0 : m.toNat * ei.size = 0
            · rw [if_pos h0] at hzc ⊢
              simp only [Sem.run_bind, Sem.run_pure, Result.andThen_ok, newRow, run_newObj, cs, hzc]
            · rw [if_neg h0] at hzc ⊢
              simp only [Sem.run_bind, Sem.run_pure, Result.andThen_ok, newRow, run_newObj, cs, hzc, hT2.run_zero]
          · intro hr hl
            refine ⟨rfl, .inr ⟨rfl, rfl, cs, et, heap_push_new rfl, rfl, ?_, fun k hk => ?_⟩⟩
            · simp only [List.length_replicate]
              rw [hcs, husz]
              have : n.toNat * ei.size ≤ m.toNat * ei.size := Nat.mul_le_mul_right _ (by omega)
              omega
            · simp only [List.length_replicate] at hk
              refine ⟨z2.cells.toList, ?_, ?_⟩
              · have : (List.replicate n.toNat (dfl u)).getD k (dfl u) = dfl u := by simp [List.getD_eq_getElem?_getD, hk]
                rw [this]
                exact hT2.zeroT hu rfl
              · intro j v hj
                have hjlt : j < ei.size := by
                  rcases Nat.lt_or_ge j ei.size with hl | hl
                  · exact hl
                  · rw [List.getElem?_eq_none (by simpa [hzs] using hl)] at hj; cases hj
                have hne : ¬ (m.toNat * ei.size = 0) := by
                  have : 0 < m.toNat * ei.size := Nat.mul_pos (by omega) (by omega)
                  omega
                show World.cell? _ _ = _
                rw [cell?_cells (heap_push_new rfl)]
                simp only [cs, hzc0 hne, Nat.zero_add, husz]
                rw [zeros_get z2.cells m.toNat ei.size k j hzs (by omega) hjlt]
                simpa using hj
          · simp only [Rep]
            refine ⟨⟨w.heap.size, 0, u.size, 0, cs.size, false⟩, by simp [addL], rfl, Nat.le_refl _, some ⟨w.heap.size, 0, none⟩, m.toNat, rfl, by omega, fun _ => rfl, fun _ => .inr ⟨rfl, by simp, ?_⟩⟩
            simp only [Nat.zero_add]
            rw [hcs, husz]
            exact Nat.le_refl _
        · cases e
      · cases hel
    · cases hel
  · cases e


theorem decA_sound {R : RC} {L : Ref → Option Pl} {t : Ty} {x : AV} {y : Val t} {v : Value} (e : decA R.T.N t x = some y) (hx : Rep R L x v) : RepT R t y v.cells.toList := by
  unfold decA at e
  split at e
  · rename_i cs hcs
    split at e
    · rename_i y' hd
      injection e with e
      subst e
      obtain ⟨d, r, h1, h2, h3⟩ := decT_sound t hd (cells_sound hcs hx)
      simp only [RepL] at h3
      subst h3
      rw [h1]
      simpa using h2
    · cases e
  · cases e

theorem fill_parts {R : RC} {t : Ty} : ∀ (ips : List (Nat × AV)) (vps : List (Nat × Value)) (i : Nat) (l : List (Val t)) (cells : Array Value), partsA R.T.N t i ips = some l → ips.map (·.1) = vps.map (·.1) →
    RepL R noL (ips.map (·.2)) (vps.map (·.2)) → (i + l.length) * t.size ≤ cells.size →
    ∃ out, Instr.fill (fun i => some (i * t.size, t.size)) cells vps = some out ∧ out.size = cells.size ∧ (∀ m, m < i * t.size → out[m]? = cells[m]?) ∧
      ∀ k, k < l.length → ∃ d, RepT R t (l.getD k (dfl t)) d ∧ ∀ j v, d[j]? = some v → out[(i + k) * t.size + j]? = some v
  | [], vps, i, l, cells, e, h1, h2, hs => by
    have : vps = [] := by cases vps <;> simp at h1 ⊢
    subst this
    simp only [partsA, Option.some.injEq] at e
    subst e
    exact ⟨cells, rfl, rfl, fun _ _ => rfl, fun k hk => by simp at hk⟩
  | (j0, x) :: r, vps, i, l, cells, e, h1, h2, hs => by
    cases vps with
    | nil => simp at h1
    | cons pv vrest =>
      obtain ⟨j1, v⟩ := pv
      simp only [List.map_cons, List.cons.injEq] at h1
      obtain ⟨rfl, h1⟩ := h1
      simp only [List.map_cons, RepL] at h2
      obtain ⟨y0, t0, hyt, hy, ht⟩ := h2
      simp only [List.cons.injEq] at hyt
      obtain ⟨rfl, rfl⟩ := hyt
      simp only [partsA] at e
      split at e
      · rename_i y l' hdec hrest
        split at e
        · rename_i hij
          subst hij
          injection e with e
          subst e
          have hT := decA_sound hdec hy
          have hlen := hT.length
          have hvsz : v.cells.size = t.size := by simpa using hlen
          simp only [List.length_cons] at hs
          have hmul : (j0 + 1) * t.size ≤ (j0 + (l'.length + 1)) * t.size := Nat.mul_le_mul_right _ (by omega)
          rw [Nat.add_mul, Nat.one_mul] at hmul
          obtain ⟨out, ho, hosz, hlow, hrow⟩ := fill_parts r vrest (j0 + 1) l' (wrAt cells (j0 * t.size) v.cells.toList) hrest h1 ht (by rw [wrAt_size, show j0 + 1 + l'.length = j0 + (l'.length + 1) from by omega]; exact hs)
          rw [wrAt_size] at hosz
          refine ⟨out, ?_, hosz, fun m hm => ?_, fun k hk => ?_⟩
          · simp only [Instr.fill, hvsz, ne_eq, not_true_eq_false, decide_false, Bool.false_or, decide_eq_true_eq]
            rw [if_neg (by simp; omega)]
            have hf := wrAt_fold v.cells.toList cells (j0 * t.size) 0
            rw [Nat.add_zero] at hf
            rw [← ho, ← hf]
            congr 1
            rw [← Array.foldl_toList]
            simp
          · rw [hlow m (by rw [Nat.add_mul, Nat.one_mul]; omega), wrAt_out _ _ _ _ (.inl hm)]
          · cases k with
            | zero =>
              refine ⟨v.cells.toList, by simpa using hT, fun j u hj => ?_⟩
              have hjlt : j < t.size := by
                rcases Nat.lt_or_ge j t.size with hl | hl
                · exact hl
                · rw [List.getElem?_eq_none (by rw [hlen]; exact hl)] at hj; cases hj
              rw [Nat.add_zero, hlow _ (by rw [Nat.add_mul, Nat.one_mul]; omega), wrAt_in _ _ _ j (by rw [hlen]; exact hjlt) (by omega)]
              exact hj
            | succ k =>
              simp only [List.length_cons] at hk
              obtain ⟨d, hd, hat⟩ := hrow k (by omega)
              refine ⟨d, by simpa using hd, fun j u hj => ?_⟩
              rw [show j0 + (k + 1) = j0 + 1 + k from by omega]
              exact hat j u hj
        · cases e
      · cases e

theorem op_buildSlice (h : Sim c I L s a w) (hE : EnvOK c.P c.E) {t : TypeId} {n : Nat} {parts : Array (Nat × Operand)} {o : Oper} (ho : o.op = .buildSlice t n parts) {newId : Nat} (hn : s.heap[newId]? = some none) {δ : Dl} {rs : List Nat}
    (e : (aop c.E (aeval s.env) newId o.op).run call s.rd = some (δ, rs)) : OpOK c s a w o δ := by
  rw [ho] at e
  simp only [aop] at e
  split at e
  · rename_i ei hel
    unfold elemT at hel
    split at hel
    · rename_i ti hty
      obtain ⟨d, i, z, hT⟩ := hE.ty _ ti hty
      have hd := hT.desc
      split at hel
      · rename_i et htd
        rw [htd] at hd
        obtain rfl := descOf_slice hd
        obtain ⟨d2, i2, z2, hT2⟩ := hE.ty _ ei hel
        unfold buildA at e
        split at e
        · cases e
        · rename_i u hu
          have husz := hT2.part hu
          obtain ⟨⟨ys, ids⟩, r1, r2, e1, e2, rfl⟩ := HM.run_bind e
          obtain ⟨fz, r3, r4, e3, e4, rfl⟩ := HM.run_bind e2
          have hrep : RepL (c.rc I L w) L ((parts.toList.map fun (i, x) => (i, aeval s.env x)).map (·.2)) ((parts.toList.map fun (i, x) => (i, a.eval x)).map (·.2)) := by
            have := h.evalL (parts.toList.map (·.2))
            simpa [Function.comp_def] using this
          obtain ⟨g1, g2⟩ := exportL_sound h 8 e1 hrep
          have ht : Told L s ids := fun r hr => (g1 r hr).2
          have hF := h.freezeAll e3 ht
          obtain ⟨f1, f2, f3, _, f5⟩ := ht.freeze e3
          have hrep2 := g2 (heldBy I L ids) (fun b hb => .inl hb) (fun id hid p hp hv => .inr ⟨id, p, hid, hp, hv, rfl⟩)
          have hlen := hrep2.length
          split at e4
          · rename_i l hl
            split at e4
            · rename_i hc
              obtain ⟨hln, hbig⟩ := hc
              obtain ⟨rfl, rfl⟩ := HM.run_ret e4
              have hnid : .l newId ∉ ids := by
                intro hm
                obtain ⟨p, hp, _⟩ := (g1 _ hm).2
                rw [free_L h hn] at hp
                cases hp
              have hn' : (⟨s.env, putAll s.heap fz⟩ : St).heap[newId]? = some none := by
                show (putAll s.heap fz)[newId]? = _
                rw [f5 newId hnid]; exact hn
              have hzs : z2.cells.size = ei.size := by
                have := (hT2.zeroL (c.rc I L w) L).length
                rw [hT2.len] at this
                simpa using this
              obtain ⟨zc, hzc⟩ : ∃ zc : Array Value, zc = if n * ei.size = 0 then (#[] : Array Value) else z2.cells := ⟨_, rfl⟩
              let cs0 : Array Value := (Array.range (n * ei.size)).map fun k => zc[k % zc.size]!
              have hcs0 : cs0.size = n * ei.size := by simp [cs0]
              have hfst : ((((parts.toList.map fun (i, x) => (i, aeval s.env x)).map (·.1)).zip ys).map (·.1)) = ((parts.toList.map fun (i, x) => (i, a.eval x)).map (·.1)) := by
                rw [List.map_fst_zip (by simpa using Nat.le_of_eq (by simpa using hlen))]
                simp
              have hsnd : ((((parts.toList.map fun (i, x) => (i, aeval s.env x)).map (·.1)).zip ys).map (·.2)) = ys := by
                exact List.map_snd_zip (by simpa using Nat.le_of_eq (by simpa using hlen.symm))
              obtain ⟨out, hfill, hosz, _, hrow⟩ := fill_parts (R := c.rc (heldBy I L ids) L w) _ _ 0 l cs0 hl hfst (by rw [hsnd]; exact hrep2) (by rw [hcs0, hln, husz, Nat.zero_add]; exact Nat.le_refl _)
              rw [husz] at hfill
              have key := OpOK.new (o := o) hF hn' rfl (a := a) (v := .slice (some ⟨w.heap.size, 0, none⟩) n n) (x := .lsl u (.l newId) 0 n 0) (blk := { ct := .sl u l, gen := 0, frozen := false }) (cs := out) (T := et) (w' := { w with heap := w.heap.push (.cells out et) }) (p := ⟨w.heap.size, 0, u.size, 0, out.size, false⟩) ?_ rfl ⟨rfl, rfl, rfl⟩ ⟨rfl, rfl⟩ ?_ ?_
              · intro K Q hK
                refine key K Q fun I' L' a' w' hs => hK I' L' a' w' ?_
                have : putAll s.heap (fz ++ [(.l newId, { ct := .sl u l, gen := 0, frozen := false })]) = putAll (putAll s.heap fz) [(.l newId, { ct := .sl u l, gen := 0, frozen := false })] := putAll_append _ _ _
                simp only [St.app] at hs ⊢
                rw [this]
                exact hs
              · simp only [execOp, ho]
                simp only [Instr.buildSlice, Sem.run_bind, hT.run_u, Result.andThen_ok, hT2.run_size]
                rw [if_neg (by omega)]
                have hfill' : Instr.fill (fun i => some (i * ei.size, ei.size)) ((Array.range (n * ei.size)).map fun k => zc[k % zc.size]!) (parts.map fun (i, x) => (i, a.eval x)).toList = some out := by
                  rw [Array.toList_map]; exact hfill
                by_cases h0 : n * ei.size = 0
                · rw [if_pos h0] at hzc ⊢
                  rw [hzc] at hfill'
                  simp only [Sem.run_bind, Sem.run_pure, Result.andThen_ok, hfill', newRow, run_newObj]
                · rw [if_neg h0] at hzc ⊢
                  rw [hzc] at hfill'
                  simp only [Sem.run_bind, Sem.run_pure, Result.andThen_ok, hT2.run_zero, hfill', newRow, run_newObj]
              · intro hr hl'
                refine ⟨rfl, .inr ⟨rfl, rfl, out, et, heap_push_new rfl, rfl, ?_, fun k hk => ?_⟩⟩
                · rw [hosz, hcs0, hln, husz]; simp
                · obtain ⟨dd, hd, hat⟩ := hrow k hk
                  refine ⟨dd, hd.mono hr, fun j v hj => ?_⟩
                  show World.cell? _ _ = _
                  rw [cell?_cells (heap_push_new rfl)]
                  have := hat j v hj
                  rw [Nat.zero_add] at this
                  simpa using this
              · simp only [Rep]
                refine ⟨⟨w.heap.size, 0, u.size, 0, out.size, false⟩, by simp [addL], rfl, Nat.le_refl _, some ⟨w.heap.size, 0, none⟩, n, rfl, Nat.le_refl _, fun _ => rfl, fun _ => .inr ⟨rfl, by simp, ?_⟩⟩
                simp only [Nat.zero_add]
                rw [hosz, hcs0, husz]
                exact Nat.le_refl _
            · cases e4
          · cases e4
      · cases hel
    · cases hel
  · cases e

end
end Go.Eng
