/-
  Layer 5: strconv's errors: whatever they hold, they are no nil; nothing that was there has turned.
-/
import Derived.Test.YtjgoahlkodbemaaDoorChecked
import Derived.Lib.Strings
import Derived.Lib.Walk
import Derived.Lib.BufferWrite
import Derived.Lib.UnsafeStr
import Derived.Laws.MakeOwn
import Derived.WalkKit
import Derived.RegionTactic
import Derived.Deep.RegionWith
import Derived.BigCall
namespace Go.Eng.L05
open Go.Proofs Go.RowKit

theorem comp67 : (Tryd.prog.info? 67).map (·.comparable) = some true := by kernel_rfl

theorem eq67 (w : World) (a b : Int) : (Op.equal 54 (.iface 67 (.int .i64 a)) (.iface 67 (.int .i64 b))).run Tryd.prog w = .ok (a == b) w := by
  obtain ⟨it, hi, hc⟩ : ∃ it, Tryd.prog.info? 67 = some it ∧ it.comparable = true := by
    have := comp67
    cases e : Tryd.prog.info? 67 with
    | none => rw [e] at this; cases this
    | some it => rw [e] at this; exact ⟨it, rfl, by simpa using this⟩
  unfold Op.equal
  rw [show Op.maxDepth = (Op.maxDepth - 2) + 1 + 1 from rfl]
  rw [Op.equalIn]
  simp only [Sem.run_bind, run_underlying Tryd.underlying54, Result.andThen_ok, ne_eq, not_true_eq_false, if_false, typeInfo, run_program, hi, Sem.run_pure, hc, Bool.not_true, Bool.false_eq_true]
  rw [Op.equalIn]
  simp only [Sem.run_bind, run_underlying Tryd.underlying67, Result.andThen_ok, if_true, Sem.run_pure]

theorem eqb67 (w : World) (a b : Int) : (binOp .eql 54 (.iface 67 (.int .i64 a)) (.iface 67 (.int .i64 b))).run Tryd.prog w = .ok (.bool (a == b)) w := by
  simp [binOp, eq67]

theorem info5 : (Tryd.prog.info? 5).map (fun i => (i.zero, i.size, i.bytes)) = some (some (.int .u8 0), 1, 1) := by kernel_rfl

set_option maxHeartbeats 4000000 in
set_option maxRecDepth 100000 in
theorem clone (s : ByteArray) (w : World) (hlim : s.size ≤ 281474976710656) :
    Calls Tryd.prog 55 #[.string s] w fun e w' => e = .returned (.string s) ∧ Below w.heap.size w w' := by
  by_cases h0 : s.size = 0
  · have hs : s = ⟨#[]⟩ := by
      apply ByteArray.ext
      exact Array.eq_empty_of_size_eq_zero h0
    subst hs
    go_enter Tryd.func55, Tryd.ntmps55
    go_wp2
    go_ret
    exact ⟨rfl, Below.refl _ _⟩
  · obtain ⟨i0, hi, hz0, hz1, hz2⟩ := info_parts info5
    have hinfo : (Tryd.prog.info? 5).map (·.size) = some 1 := by rw [hi]; simp [hz1]
    have hco : Tryd.prog.cellsOf 5 = 1 := by simp [Program.cellsOf, hi, hz1]
    obtain ⟨M, hM⟩ : ∃ M, M = madeCells (Value.int .u8 0).cells (((s.size : Nat) : Int).toNat * i0.size) := ⟨_, rfl⟩
    have hMs : M.size = s.size := by rw [hM, size_madeCells, hz1]; simp
    have hmk : ∀ W : World, (Instr.makeSlice 34 (.int .i64 (s.size : Int)) (.int .i64 (s.size : Int))).run Tryd.prog W = .ok (.slice (some ⟨W.heap.size, 0, none⟩) s.size s.size) (W.alloc (.cells M 5)) := fun W => by
      have h := run_make (P := Tryd.prog) W 34 5 i0 (.int .u8 0) Tryd.underlying34 hi hz0 .i64 .i64 (s.size : Int) (s.size : Int) (by omega) (by omega) (by rw [hz2]; omega) (by omega)
      rw [← hM] at h
      simpa using h
    clear hM
    have hcp := Lib.run_copy_row_string (P := Tryd.prog) (w.alloc (.cells M 5)) 34 9 3 5 w.heap.size 0 s.size s.size s M 5 Tryd.underlying34 hinfo (heap_alloc_new w _) (Nat.le_refl _) (by omega)
    obtain ⟨Y, hY⟩ : ∃ Y, Y = (M.toList.take 0 ++ Lib.byteCells s.data.toList ++ M.toList.drop (0 + s.size)).toArray := ⟨_, rfl⟩
    rw [← hY] at hcp
    have hYl : Y.toList = Lib.byteCells s.data.toList := by
      rw [hY, List.toList_toArray, List.take_zero, List.nil_append, List.drop_of_length_le (by rw [Array.length_toList]; omega), List.append_nil]
    have hYs : Y.size = s.size := by rw [← Array.length_toList, hYl, Lib.byteCells_length, ← Lib.size_eq]
    have hgY : ((w.alloc (.cells M 5)).setRow w.heap.size Y).heap[w.heap.size]? = some (.cells Y 5 (0, 0)) := setRow_heap _ _ M _ 5 (0, 0) (heap_alloc_new w _)
    have hne : s.data.toList ≠ [] := fun e => h0 (by rw [Lib.size_eq, e]; rfl)
    have hUS := Lib.run_unsafeString_row (P := Tryd.prog) ((w.alloc (.cells M 5)).setRow w.heap.size Y) 97 3 9 5 Tryd.underlying97 hco w.heap.size Y.size (by unfold World.shape?; rw [hgY]) s.data.toList hne (by rw [← Lib.size_eq]; omega) (by rw [← Lib.size_eq]; omega)
      (fun j x hx => Lib.cells_of_row hgY Y.size j _ (by rw [List.take_of_length_le (by rw [Array.length_toList]; exact Nat.le_refl _), hYl]; simp [Lib.byteCells, hx]))
    rw [← Lib.size_eq] at hUS
    clear hY
    go_enter Tryd.func55, Tryd.ntmps55
    go_wp2
    go_ret
    have hb1 : Below w.heap.size w (w.alloc (.cells M 5)) := (Below.refl _ w).alloc (Nat.le_refl _) _
    have hb2 : Below w.heap.size (w.alloc (.cells M 5)) ((w.alloc (.cells M 5)).setRow w.heap.size Y) := ⟨rfl, rfl, rfl, by simp, fun k hk => setRow_other _ _ _ _ (by omega)⟩
    exact ⟨rfl, Lib.below_freeze (hb1.trans hb2) (p := ⟨w.heap.size, 0, none⟩) (Nat.le_refl _) _⟩


set_option maxHeartbeats 6400000 in
set_option maxRecDepth 100000 in
theorem syntaxErr (fn s : ByteArray) (te : TypeId) (pe : Value) (w : World) (hlim : s.size ≤ 281474976710656) (hv : w.cell? ⟨1, 0, none⟩ = some (.iface te pe)) :
    Calls Tryd.prog 40 #[.string fn, .string s] w fun e w' => ∃ N, e = .returned (.pointer (some ⟨N, 0, none⟩)) ∧ Below w.heap.size w w' := by
  have hG : 1 < w.heap.size := World.block_lt_of_cell? w ⟨1, 0, none⟩ hv
  have hvd : w.drew.cell? ⟨1, 0, none⟩ = some _ := hv
  go_enter Tryd.func40, Tryd.ntmps40
  go_wp2
  go_region_with (
    go_at_call 55
    refine (clone s _ hlim).mono ?_
    rintro e w2 ⟨rfl, hbel⟩
    have hv2 : w2.cell? ⟨1, 0, none⟩ = some _ := (hbel.cell (show (⟨1, 0, none⟩ : Addr).block < w.drew.heap.size from hG)).trans hvd)
  all_goals (
    go_wp2
    go_ret
    have hs2 : w.heap.size ≤ w2.heap.size := hbel.size
    exact ⟨_, rfl, ((Below.drew (Below.refl _ w)).trans hbel).alloc hs2 _⟩)

set_option maxHeartbeats 6400000 in
set_option maxRecDepth 100000 in
theorem rangeErr (fn s : ByteArray) (te : TypeId) (pe : Value) (w : World) (hlim : s.size ≤ 281474976710656) (hv : w.cell? ⟨2, 0, none⟩ = some (.iface te pe)) :
    Calls Tryd.prog 41 #[.string fn, .string s] w fun e w' => ∃ N, e = .returned (.pointer (some ⟨N, 0, none⟩)) ∧ Below w.heap.size w w' := by
  have hG : 2 < w.heap.size := World.block_lt_of_cell? w ⟨2, 0, none⟩ hv
  have hvd : w.drew.cell? ⟨2, 0, none⟩ = some _ := hv
  go_enter Tryd.func41, Tryd.ntmps41
  go_wp2
  go_region_with (
    go_at_call 55
    refine (clone s _ hlim).mono ?_
    rintro e w2 ⟨rfl, hbel⟩
    have hv2 : w2.cell? ⟨2, 0, none⟩ = some _ := (hbel.cell (show (⟨2, 0, none⟩ : Addr).block < w.drew.heap.size from hG)).trans hvd)
  all_goals (
    go_wp2
    go_ret
    have hs2 : w.heap.size ≤ w2.heap.size := hbel.size
    exact ⟨_, rfl, ((Below.drew (Below.refl _ w)).trans hbel).alloc hs2 _⟩)

set_option maxHeartbeats 6400000 in
set_option maxRecDepth 100000 in
theorem toErr2 (fn s : ByteArray) (base bits : Int) (te : TypeId) (pe : Value) (w : World) (hlim : s.size ≤ 281474976710656) (hv : w.cell? ⟨1, 0, none⟩ = some (.iface te pe)) :
    Calls Tryd.prog 33 #[.string fn, .string s, .int .i64 base, .int .i64 bits, .iface 67 (.int .i64 2)] w fun e w' => (∃ t u, e = .returned (.iface t u)) ∧ Below w.heap.size w w' := by
  have q1 : ∀ W, (binOp .eql 54 (.iface 67 (.int .i64 1)) (.iface 67 (.int .i64 2))).run Tryd.prog W = .ok (.bool false) W := fun W => eqb67 W 1 2
  have q2 : ∀ W, (binOp .eql 54 (.iface 67 (.int .i64 2)) (.iface 67 (.int .i64 2))).run Tryd.prog W = .ok (.bool true) W := fun W => eqb67 W 2 2
  have q3 : ∀ W, (binOp .eql 54 (.iface 67 (.int .i64 1)) (.iface 67 (.int .i64 1))).run Tryd.prog W = .ok (.bool true) W := fun W => eqb67 W 1 1
  go_enter Tryd.func33, Tryd.ntmps33
  go_wp2_with (first
    | (go_at_call 40; refine (syntaxErr fn s te pe w hlim hv).mono ?_; rintro e w' ⟨N, rfl, hb⟩)
    | (go_at_call 41; skip))
  all_goals go_ret
  all_goals exact ⟨⟨_, _, rfl⟩, hb⟩

set_option maxHeartbeats 6400000 in
set_option maxRecDepth 100000 in
theorem toErr1 (fn s : ByteArray) (base bits : Int) (te : TypeId) (pe : Value) (w : World) (hlim : s.size ≤ 281474976710656) (hv : w.cell? ⟨2, 0, none⟩ = some (.iface te pe)) :
    Calls Tryd.prog 33 #[.string fn, .string s, .int .i64 base, .int .i64 bits, .iface 67 (.int .i64 1)] w fun e w' => (∃ t u, e = .returned (.iface t u)) ∧ Below w.heap.size w w' := by
  have q1 : ∀ W, (binOp .eql 54 (.iface 67 (.int .i64 1)) (.iface 67 (.int .i64 2))).run Tryd.prog W = .ok (.bool false) W := fun W => eqb67 W 1 2
  have q2 : ∀ W, (binOp .eql 54 (.iface 67 (.int .i64 2)) (.iface 67 (.int .i64 2))).run Tryd.prog W = .ok (.bool true) W := fun W => eqb67 W 2 2
  have q3 : ∀ W, (binOp .eql 54 (.iface 67 (.int .i64 1)) (.iface 67 (.int .i64 1))).run Tryd.prog W = .ok (.bool true) W := fun W => eqb67 W 1 1
  go_enter Tryd.func33, Tryd.ntmps33
  go_wp2_with (first
    | (go_at_call 41; refine (rangeErr fn s te pe w hlim hv).mono ?_; rintro e w' ⟨N, rfl, hb⟩)
    | (go_at_call 40; skip))
  all_goals go_ret
  all_goals exact ⟨⟨_, _, rfl⟩, hb⟩

end Go.Eng.L05
