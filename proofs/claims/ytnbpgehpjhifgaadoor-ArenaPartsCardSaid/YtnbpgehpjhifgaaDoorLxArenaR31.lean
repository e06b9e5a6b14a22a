/-
  slices.DeleteFunc at a slice of pointers, with a closure that holds a pointer's variable.
-/
import Derived.Test.YtnbpgehpjhifgaaDoorProg
import Derived.Test.YtnbpgehpjhifgaaDoorLxLstA
import Derived.KernelRfl
import Derived.WalkKit
import Derived.LaidEqlPtr
import Derived.Shelf.SlicesE.DeleteFunc
namespace Go.Proofs.LxLst.R31
open Go Go.Eng Go.RowKit Go.Lib Go.Sort Go.Shelf Go.Proofs

def ren : Ren := ⟨fun | 6 => 43 | 10 => 31 | n => n, fun | 0 => 0 | 3 => 3 | 4 => 4 | 22 => 57 | 23 => 60 | 25 => 79 | n => n, fun n => n⟩

theorem lays : SlLaysH.n10 Tryd.prog ren where
  mixed := by kernel_rfl
  f6 := ⟨Tryd.f43.name, by kernel_rfl, by kernel_rfl⟩
  f10 := ⟨Tryd.f31.name, by kernel_rfl, by kernel_rfl⟩
  t0 := by kernel_rfl
  a0 := Tryd.isAgg0
  z0 := Tryd.sizeOf0
  v0 := Tryd.zeroValue0
  t3 := by kernel_rfl
  a3 := Tryd.isAgg3
  z3 := Tryd.sizeOf3
  v3 := Tryd.zeroValue3
  t4 := by kernel_rfl
  a4 := Tryd.isAgg4
  z4 := Tryd.sizeOf4
  v4 := Tryd.zeroValue4
  t22 := by kernel_rfl
  a22 := Tryd.isAgg57
  z22 := Tryd.sizeOf57
  v22 := Tryd.zeroValue57
  a23 := Tryd.isAgg60
  z23 := Tryd.sizeOf60
  t25 := by kernel_rfl
  a25 := Tryd.isAgg79
  z25 := Tryd.sizeOf79
  v25 := Tryd.zeroValue79

theorem underP : Tryd.prog.underlying 60 = some (.pointer 64) := by kernel_rfl
theorem infoP : ∃ j, Tryd.prog.info? 64 = some j ∧ j.size ≠ 0 := by
  have h : (Tryd.prog.info? 64).map (·.size) = some 4 := by kernel_rfl
  cases hj : Tryd.prog.info? 64 with
  | none => rw [hj] at h; cases h
  | some j =>
    rw [hj] at h
    injection h with h
    have h : j.size = 4 := h
    exact ⟨j, rfl, by omega⟩

/-- the pointers' equality -/
theorem eql_ptr {W : World} {x y : Value} (hx : PtrAt W x) (hy : PtrAt W y) : (binOp .eql 60 x y).run Tryd.prog W = .ok (.bool (Eng.ptrEq x y)) W := by
  obtain ⟨j, hj, hs⟩ := infoP
  have none_some : ∀ a : Addr, (binOp .eql 60 (.pointer none) (.pointer (some a))).run Tryd.prog W = .ok (.bool false) W := fun a => by
    have h : ∀ d : Nat, (Op.equalIn (d + 1) 60 (.pointer none) (.pointer (some a))).run Tryd.prog W = .ok false W := fun d => by
      simp [Op.equalIn, run_underlying underP, sizeOf, typeInfo, hj]
    simp only [binOp]
    simp [Op.equal, Op.maxDepth, h 9999]
  have some_none : ∀ a : Addr, (binOp .eql 60 (.pointer (some a)) (.pointer none)).run Tryd.prog W = .ok (.bool false) W := fun a => by
    have h : ∀ d : Nat, (Op.equalIn (d + 1) 60 (.pointer (some a)) (.pointer none)).run Tryd.prog W = .ok false W := fun d => by
      simp [Op.equalIn, run_underlying underP, sizeOf, typeInfo, hj]
    simp only [binOp]
    simp [Op.equal, Op.maxDepth, h 9999]
  have none_none : (binOp .eql 60 (.pointer none) (.pointer none)).run Tryd.prog W = .ok (.bool true) W := by
    have h : ∀ d : Nat, (Op.equalIn (d + 1) 60 (.pointer none) (.pointer none)).run Tryd.prog W = .ok true W := fun d => by
      simp [Op.equalIn, run_underlying underP, sizeOf, typeInfo, hj]
    simp only [binOp]
    simp [Op.equal, Op.maxDepth, h 9999]
  rcases hx with rfl | ⟨b, cs, T, rfl, hb⟩ <;> rcases hy with rfl | ⟨b', cs', T', rfl, hb'⟩
  · exact none_none
  · exact none_some _
  · exact some_none _
  · by_cases e : b = b'
    · subst e
      rw [run_eql_ptr_same (P := Tryd.prog) W ⟨b, 0, none⟩ underP hj]
      simp [Eng.ptrEq]
    · rw [run_eql_ptr_other (P := Tryd.prog) (ca := cs) (cb := cs') (ta := T) (tb := T') W underP hj hs (by intro h; injection h with h; exact e h) hb hb']
      have : b.beq b' = false := by
        cases h : b.beq b' with
        | true => exact absurd (Nat.eq_of_beq_eq_true h) e
        | false => rfl
      simp [Eng.ptrEq, this]

set_option maxHeartbeats 1000000 in
/-- the closure -/
theorem closure {W : World} {bb : Nat} {csb : Array Value} {Tb : TypeId} {x xv : Value} (hb : W.heap[bb]? = some (.cells csb Tb (0, 0))) (h0 : csb[0]? = some xv) (hx : PtrAt W x) (hy : PtrAt W xv) :
    Calls Tryd.prog 32 (#[x] ++ #[.pointer (some ⟨bb, 0, none⟩)]) W fun e w' => e = .returned (.bool (Eng.ptrEq x xv)) ∧ ∃ q, w' = W.drewN q := by
  have mixed : Tryd.prog.follows .mixedOrders = true := by kernel_rfl
  have hc : W.cell? ⟨bb, 0, none⟩ = some xv := by rw [cell?_cells hb]; exact h0
  have heq := eql_ptr hx hy
  have hg : ∀ op o1 o2, (eqGuard op 60 o1 o2 x xv) = pure () := fun op o1 o2 => by
    rcases hx with rfl | ⟨_, _, _, rfl, _⟩ <;> cases op <;> rfl
  clear hb h0 hx hy
  generalize Eng.ptrEq x xv = r at *
  show Calls _ _ #[x, .pointer (some ⟨bb, 0, none⟩)] _ _
  go_enter Tryd.func32, Tryd.ntmps32
  go_wp2
  go_ret
  exact ⟨rfl, 0, rfl⟩

theorem heap_putRow_other {α : Type} [Inhabited α] (enc : α → Value) (w : World) (q blk off : Nat) (d : Array α) (k : Nat) (hk : k ≠ blk) : (putRow enc (Sort.ahead w q) blk off d).heap[k]? = w.heap[k]? := by
  simp only [putRow, mapBlock, Array.getElem?_modify]
  rw [if_neg (fun e => hk e.symm)]
  rfl

theorem heap_putRow_same {α : Type} [Inhabited α] (enc : α → Value) (w : World) (q blk off : Nat) (d : Array α) {cs : Array Value} {T : TypeId} (h : w.heap[blk]? = some (.cells cs T (0, 0))) :
    (putRow enc (Sort.ahead w q) blk off d).heap[blk]? = some (.cells (putCells enc off d cs) T (0, 0)) := by
  simp only [putRow, mapBlock, Array.getElem?_modify, if_true]
  show Option.map _ w.heap[blk]? = _
  rw [h]
  rfl

set_option maxHeartbeats 4000000 in
set_option maxRecDepth 100000 in
theorem ok : LstOK Tryd.prog 31 (.fil 32 1) := by
  intro w n ad cap F bb csb Tb xv hrow hn hmax hF hxv hbb h0 hap
  obtain ⟨hnc, hFl, hF1, hpl⟩ := hrow
  rcases hpl with hz | ⟨b, off, cs, T, rfl, hh, hroom, hat⟩
  · omega
  rw [Nat.mul_one] at hFl hroom
  obtain ⟨hne, hav⟩ := hap b off rfl (by omega)
  -- the pointers that there may be
  let Q : Value → Prop := fun v => PtrAt w v ∧ v ≠ .pointer (some ⟨b, 0, none⟩)
  have hin : Inhabited {v : Value // Q v} := ⟨⟨.pointer none, .inl rfl, by intro e; cases e⟩⟩
  let enc : {v : Value // Q v} → Value := fun v => v.1
  have hQ : ∀ v, v ∈ F → Q v := fun v hv => ⟨hF v hv, hav v (.inl hv)⟩
  have hQx : Q xv := ⟨hxv, hav xv (.inr rfl)⟩
  let d : Array {v : Value // Q v} := (F.attach.map fun v => ⟨v.1, hQ v.1 v.2⟩).toArray
  have hds : d.size = n := by simp [d, hFl]
  have hdm : d.toList.map enc = F := by simp [d, enc]
  have hdj : ∀ j, j < n → F[j]? = some (enc d[j]!) := fun j hj => by
    rw [← hdm, List.getElem?_map, getElem!_pos d j (by omega)]
    simp [Array.getElem?_toList, Array.getElem?_eq_getElem (show j < d.size by omega)]
  let p : {v : Value // Q v} → Bool := fun v => Eng.ptrEq v.1 xv
  have hO : OneCell enc := fun v => by
    obtain ⟨v, hv, _⟩ := v
    rcases hv with rfl | ⟨_, _, _, rfl, _⟩ <;> rfl
  have hbw : b < w.heap.size := (Array.getElem?_eq_some_iff.1 hh).1
  have hbbw : bb < w.heap.size := (Array.getElem?_eq_some_iff.1 hbb).1
  have gives : ∀ (W : World) (x : {v : Value // Q v}), (∀ k, k < w.heap.size → k ≠ b → W.heap[k]? = w.heap[k]?) → FnGives Tryd.prog 32 #[.pointer (some ⟨bb, 0, none⟩)] #[enc x] (.bool (p x)) W := by
    intro W x hW
    have at' : ∀ v, Q v → PtrAt W v := fun v hv => by
      obtain ⟨hv, hvb⟩ := hv
      rcases hv with rfl | ⟨b', cs', T', rfl, hb'⟩
      · exact .inl rfl
      · refine .inr ⟨b', cs', T', rfl, ?_⟩
        rw [hW b' (Array.getElem?_eq_some_iff.1 hb').1 (fun e => hvb (by rw [e]))]
        exact hb'
    exact closure (by rw [hW bb hbbw (fun e => hne e.symm)]; exact hbb) h0 (at' _ x.2) (at' _ hQx)
  have hpred : PredAt Tryd.prog 32 #[.pointer (some ⟨bb, 0, none⟩)] enc p w := fun W x hb => gives W x fun k hk _ => hb.block k hk
  have hover : PredOver Tryd.prog 32 #[.pointer (some ⟨bb, 0, none⟩)] enc p b off d.size w := fun m os dk x _ => gives _ x fun k hk hkb => by
    unfold sortWorld
    rw [Sort.heap_grow_old _ _ (by show k < _; simp; exact hk)]
    exact heap_putRow_other enc w m b off dk k hkb
  have hH : Holds enc w b off d := fun j hj => by
    rw [hds] at hj
    refine ⟨?_, frozen_no hh⟩
    rw [cell?_cells hh]
    exact hat j _ (hdj j hj)
  have hcall := AnyE.slices_DeleteFunc lays enc hO p 32 #[.pointer (some ⟨bb, 0, none⟩)] (Bears.enters (P := Tryd.prog) (B := Tryd.f32) ⟨Tryd.f32.name, by kernel_rfl, by kernel_rfl⟩ rfl) ⟨.pointer none, .inl rfl, by intro e; cases e⟩ Tryd.zeroValue60 b off cap d w hpred hover hH (by omega) (by omega)
  rw [hds] at hcall
  obtain ⟨kept, hkept⟩ : ∃ kept, kept = d.toList.filter fun x => !p x := ⟨_, rfl⟩
  rw [← hkept] at hcall
  have hkF : kept.map enc = F.filter fun v => !Eng.ptrEq v xv := by
    rw [hkept, ← hdm]
    generalize d.toList = l
    rw [List.filter_map]
    rfl
  have hkl : kept.length = (F.filter fun v => !Eng.ptrEq v xv).length := by rw [← hkF, List.length_map]
  have hkn : kept.length ≤ n := by rw [hkl, ← hFl]; exact List.length_filter_le _ _
  refine hcall.mono ?_
  rintro e w' ⟨rfl, q, rfl⟩
  have hsz : (kept ++ List.replicate (n - kept.length) (⟨.pointer none, .inl rfl, by intro e; cases e⟩ : {v : Value // Q v})).toArray.size = n := by simp; omega
  refine ⟨_, rfl, ⟨rfl, rfl, rfl⟩, by rw [Nat.mul_one], cap, by omega, .inl ⟨b, off, cs, _, T, rfl, hh, ?_, Nat.le_refl _, by omega, ?_, heap_putRow_same enc w q b off _ hh, by simp [putCells], fun k hk => heap_putRow_other enc w q b off _ k hk, fun j x hj => ?_⟩⟩
  · rw [hkl]
  · simp [putRow, mapBlock, Sort.ahead]
  · have hjl := (List.getElem?_eq_some_iff.1 hj).1
    rw [← hkl] at hjl
    simp only [putCells, Array.getElem?_mapIdx]
    have hcs : off + j < cs.size := by omega
    rw [Array.getElem?_eq_getElem hcs, Option.map_some, if_pos (by rw [hsz]; omega), show off + j - off = j by omega]
    rw [← hkF, List.getElem?_map, List.getElem?_eq_getElem hjl, Option.map_some] at hj
    injection hj with hj
    rw [← hj, getElem!_pos _ j (by rw [hsz]; omega)]
    congr 1
    simp [List.getElem_append_left hjl]

end Go.Proofs.LxLst.R31
