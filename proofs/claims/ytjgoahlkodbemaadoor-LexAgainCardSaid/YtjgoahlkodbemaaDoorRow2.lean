/-
  Layer 5: from the plain law to the row.
-/
import Derived.Test.YtjgoahlkodbemaaDoorOra2
import Derived.Test.YtjgoahlkodbemaaDoorCards
import Derived.Test.YtjgoahlkodbemaaDoorTie
import Derived.ProofKit
import Derived.OpenShut
import Derived.SliceStrings
import Derived.Deep.DeepHandedRow
import Derived.Deep.DeepWitnessRowRef
import Derived.Lib.LaidTab
import Derived.Lib.LaidIn
import Derived.Stop.LaidErr
import Derived.Test.YtjgoahlkodbemaaDoorEe
namespace Go.Eng.L05
open Go.Eng Go.Proofs Go.Proofs.YtjgoahlkodbemaaDoor Go.ChangeShapes Go.WideShapes Go.ChangeAt Go.RowKit
open Go.ChangeMaps (open_string shut_string)

theorem own : ownKnob Tryd.prog.godebug = none := by kernel_rfl
theorem star : "*" ++ "errors.errorString" = "*errors.errorString" := by decide
theorem row98 (u : TypeId) (h : Tryd.prog.typeName? 3 u = some "*errors.errorString") : u = 98 :=
  typeName_ptr_named (nm := "errors.errorString") (by rw [star]; kernel_rfl) (by kernel_rfl) (by decide) u (by rw [star]; exact h)

theorem cells90 : Tryd.prog.cellsOf 90 = 20 := by kernel_rfl
theorem cells61 : Tryd.prog.cellsOf 61 = 1 := by kernel_rfl
theorem cells100 : Tryd.prog.cellsOf 100 = 1 := by kernel_rfl
theorem cells9 : Tryd.prog.cellsOf 9 = 1 := by kernel_rfl

/-- What the three rows list. -/
def laid : List (String × DataW Unit) := [("math/bits.deBruijn32tab", Rows.laid_math_bits_deBruijn32tab), ("math/bits.deBruijn64tab", Rows.laid_math_bits_deBruijn64tab), ("internal/strconv.uint64pow10", Rows.laid_internal_strconv_uint64pow10), ("strconv.ErrRange", Rows.laid_strconv_ErrRange), ("strconv.ErrSyntax", Rows.laid_strconv_ErrSyntax)]

theorem ground {W : World} (h : laidMet Tryd.prog laid W) (hsh : W.ShapedOpen Tryd.prog) : Ground W := by
  have h2 := h.tail.tail
  obtain ⟨a0, s0, hv0, _, _, _⟩ := laid_sentinel (g := 2) h2.tail (by kernel_rfl) (by kernel_rfl) Tryd.underlying54 row98 Tryd.underlying98 Tryd.underlying100 rfl rfl Tryd.underlying9 cells100 cells9
  obtain ⟨a1, s1, hv1, _, _, _⟩ := laid_sentinel (g := 1) h2.tail.tail (by kernel_rfl) (by kernel_rfl) Tryd.underlying54 row98 Tryd.underlying98 Tryd.underlying100 rfl rfl Tryd.underlying9 cells100 cells9
  have r : W.cell? ⟨2, 0, none⟩ = some (.iface 98 (.pointer (some a0))) := by have := World.var?_cell (P := Tryd.prog) (g := 2) (by kernel_rfl) hv0 0; simpa using this
  have s : W.cell? ⟨1, 0, none⟩ = some (.iface 98 (.pointer (some a1))) := by have := World.var?_cell (P := Tryd.prog) (g := 1) (by kernel_rfl) hv1 0; simpa using this
  refine ⟨Tryd.laysM145.s1_3 W hsh, ?_, World.block_lt_of_cell? W ⟨2, 0, none⟩ r, ⟨_, _, s⟩, ⟨_, _, r⟩⟩
  exact Lib.tabIs_of_head (g := 3) (rest := laid.drop 3) (by kernel_rfl) (by kernel_rfl) Tryd.underlying90 Tryd.underlying61 cells61 cells90 h2

/-- All that the first memory holds, as nobody will write it. -/
def I0 (W : World) : Fz := fun b => match W.heap[b]? with
  | some (.cells cs _ _) => cs.toList
  | _ => []

theorem sat0 (W : World) : Sat (I0 W) W := by
  intro b o v h
  unfold I0 at h
  split at h
  · rename_i cs t fz hb
    rw [cell_of_heap hb]
    simpa using h
  · simp at h

/-- A law of one string. -/
theorem calls1 {W : World} (g : Ground W) {f : FuncId} {s : ByteArray} {b : Bool} (h : CI env f [.d (.s s.data.toList)] [] = some (.ret (.d (.b b)) [])) :
    Calls Tryd.prog f #[.string s] W fun e w' => e = .returned (.bool b) ∧ Below W.heap.size W w' := by
  have ok := CI_sound mixed (envOK g) h
  have hr : Rel W 0 (I0 W) (fun _ => none) ⟨[], [], []⟩ #[] W :=
    ⟨Below.refl _ _, sat0 W, rfl, (fun t x hx => by simp [aget] at hx), (fun f t cells hc => by rw [obAt_nil] at hc; cases hc), (fun _ _ _ h => by cases h), (fun _ _ h => by cases h)⟩
  have hs : (Value.string s) = .string ⟨s.data.toList.toArray⟩ := by simp
  refine (ok.go (I0 W) (fun _ => none) W [.string s] hr (fun k b h => by cases h) (by simp only [RTs, RT, RD]; exact ⟨_, [], rfl, hs, rfl⟩)).mono fun e w' he => ?_
  obtain ⟨I', κ', hret, _⟩ := he
  cases e with
  | returned u =>
    obtain ⟨hr', hu⟩ := hret
    have := hu _ rfl
    simp only [RT, RD] at this
    subst this
    exact ⟨rfl, hr'.below⟩
  | _ => exact hret.elim

/-- A memory for the witness: the settled one, the listed variables holding what their initialisers lay. -/
noncomputable def laidWorld (os : Os) : World :=
  let N := (World.settled Tryd.prog os).heap.size
  let w0 := World.holding Tryd.prog os ⟨#[.cells #[.string ⟨#[118, 97, 108, 117, 101, 32, 111, 117, 116, 32, 111, 102, 32, 114, 97, 110, 103, 101]⟩] 100, .cells #[.string ⟨#[105, 110, 118, 97, 108, 105, 100, 32, 115, 121, 110, 116, 97, 120]⟩] 100], #[], []⟩
  let put (h : Array Obj) (g : Nat) (cs : Array Value) : Array Obj := h.modify g fun
    | .cells _ t frozen => .cells cs t frozen
    | o => o
  let h1 := put w0.heap 1 #[.iface 98 (.pointer (some ⟨N + 1, 0, none⟩))]
  let h2 := put h1 2 #[.iface 98 (.pointer (some ⟨N, 0, none⟩))]
  let h3 := put h2 3 (#[1, 10, 100, 1000, 10000, 100000, 1000000, 10000000, 100000000, 1000000000, 10000000000, 100000000000, 1000000000000, 10000000000000, 100000000000000, 1000000000000000, 10000000000000000, 100000000000000000, 1000000000000000000, 10000000000000000000].map (Value.int .u64 ·))
  let h4 := put h3 4 (#[0, 1, 28, 2, 29, 14, 24, 3, 30, 22, 20, 15, 25, 17, 4, 8, 31, 27, 13, 23, 21, 19, 16, 7, 26, 12, 18, 6, 11, 5, 10, 9].map (Value.int .u8 ·))
  let h5 := put h4 5 (#[0, 1, 56, 2, 57, 49, 28, 3, 61, 58, 42, 50, 38, 29, 17, 4, 62, 47, 59, 36, 45, 43, 51, 22, 53, 39, 33, 30, 24, 18, 12, 5, 63, 55, 48, 27, 60, 41, 37, 16, 46, 35, 44, 21, 52, 32, 23, 11, 54, 26, 40, 15, 34, 20, 31, 10, 25, 14, 19, 9, 13, 8, 7, 6].map (Value.int .u8 ·))
  { w0 with heap := h5 }

set_option maxRecDepth 100000 in
theorem laid_met (os : Os) (args : Array Value) : laidMet Tryd.prog laid ((laidWorld os).forCall (fun _ _ => 0) ⟨#[], args, []⟩).memory :=
  laidMet_of_run' 8 (by kernel_rfl) (by kernel_rfl)

/-- A row over one string. -/
theorem contract1 {f : FuncId} {fn : Func} {spec : ChangeSpec} {W : World} (hp : fn.params = #[9]) (hres : fn.resultTypes = #[4]) (hvars : spec.vars = [])
    (hfn : ∀ (H : Type) (l : List UInt8), spec.fn H [.lit (.string l)] = { results := [.lit (.bool true)], args := [.lit (.string l)] })
    (law : ∀ l : List UInt8, (l.length : Int) ≤ 9223372036854775807 → CI env f [.d (.s l)] [] = some (.ret (.d (.b true)) []))
    (H : Type) (enc : TypeId × Value → H) (base : Nat) (args : Array Value) (ds gs : List (DataW H)) (before : List MemPlace)
    (hval : ∀ (j : Nat) t v, fn.params[j]? = some t → args[j]? = some v → Value.okWide Tryd.prog W .any base t v)
    (hW : DataW.Whole enc Tryd.prog fn.params.toList spec.vars false W args.toList ds gs before) (hL : laidMet Tryd.prog laid W) (hsh : W.ShapedOpen Tryd.prog) :
    Calls Tryd.prog f args W fun e W' => ∃ v, e = .returned v ∧ spec.post enc Tryd.prog fn false true false false W args v W' := by
  have hW' := hW
  obtain ⟨p, q, hA0, hV, rfl, hfz, hnd⟩ := hW
  have hA : DataW.TrodAll enc Tryd.prog W 0 (fun _ => true) true fn.params.toList args.toList ds p := hA0
  rw [hp] at hA hval
  obtain ⟨v0, vs0, d0, ds0, p0, q0, hargs, rfl, rfl, h0, r0⟩ := trodAll_cons hA
  obtain ⟨rfl, rfl, rfl⟩ := trodAll_nil r0
  obtain rfl : args = #[v0] := by cases args; simp_all
  rw [hvars] at hV
  obtain ⟨rfl, rfl⟩ := trodVars_none hV
  obtain ⟨s, rfl, rfl, rfl, ws⟩ := open_string Tryd.underlying9 (hval 0 9 v0 rfl rfl) h0
  clear hA0
  simp only [List.append_nil] at hW'
  refine (calls1 (ground hL hsh) (s := s) (law s.data.toList (by unfold maxLen at ws; rw [Lib.size_eq] at ws; omega))).mono fun e W' ⟨he, hb⟩ => ?_
  subst he
  have e1 : spec.fn H ([.lit (.string s.data.toList)] ++ []) = { results := [.lit (.bool true)], args := [.lit (.string s.data.toList)] } := hfn H _
  refine ⟨_, rfl, _, _, _, [], [], [], hW', ?_, ?_, ?_, hb.frame _, fun h => by cases h⟩
  · rw [e1, hres]; exact trodAll_cons_mk (shut_bool Tryd.underlying4 _) trodAll_mk0
  · rw [e1, hp]; exact trodAll_cons_mk (shut_string Tryd.underlying9 ws) trodAll_mk0
  · rw [e1, hvars]; rfl

theorem reads1 {spec : ChangeSpec} {fn : Func} (hp : fn.params.toList = [9]) (hv : spec.vars = []) (os : Os) {H : Type} (enc : TypeId × Value → H) :
    ∃ places, DataW.whole enc Tryd.prog ((laidWorld os).forCall (fun _ _ => 0) ⟨#[], #[.string ⟨#[]⟩], []⟩).memory fn.params.toList spec.vars false #[Value.string ⟨#[]⟩].toList 8 = some ([.lit (.string [])], [], places) := by
  rw [hp, hv]
  exact ⟨[], by kernel_rfl⟩

set_option maxRecDepth 100000 in
theorem lifted3 (law : ∀ l : List UInt8, (l.length : Int) ≤ 9223372036854775807 → CI env 3 [.d (.s l)] [] = some (.ret (.d (.b true)) [])) (os : Os) (started : os.Started) (H : Type) (enc : TypeId × Value → H) (F : Stop.Interp) :
    ReturnsInHanded {} Tryd.checked os 3 .any ((OpenSpec.ofChange Rows.lexStandsSpec).preRow enc Tryd.prog Tryd.f3 Rows.lexStandsRow.domain false Rows.lexStandsRow.laid) (((OpenSpec.ofChange Rows.lexStandsSpec).at F).post enc Tryd.prog Tryd.f3 false true false false) := by
  obtain ⟨places, hx⟩ := reads1 (spec := Rows.lexStandsSpec) (fn := Tryd.f3) rfl rfl os enc
  refine returnsInHanded_of_row (C := Tryd.checked) (s := OpenSpec.ofChange Rows.lexStandsSpec) own started (by kernel_rfl) Tryd.func3
    (witness_row_atRef (enc := enc) (C := Tryd.checked) false (laidWorld os) #[.string ⟨#[]⟩] rfl (by kernel_rfl) (by kernel_rfl) (by kernel_rfl)
      (OpenSpec.preRow_of_cond 8 hx (by kernel_rfl) (fun k hk => by cases hk) (by kernel_rfl) (laid_met os _))) ?_
  intro W base args ds gs before hval hW _ _ _ hL hsh _
  exact contract1 (spec := Rows.lexStandsSpec) Tryd.params3 rfl rfl (fun _ _ => rfl) law H enc base args ds gs before hval hW hL hsh

theorem said3 (law : ∀ l : List UInt8, (l.length : Int) ≤ 9223372036854775807 → CI env 3 [.d (.s l)] [] = some (.ret (.d (.b true)) [])) : Rows.LexStandsSaid :=
  OpenClaim.holds_of_cond 3 Tryd.f3 rfl rfl rfl rfl rfl rfl rfl ⟨rfl, rfl, rfl, rfl, rfl⟩ rfl rfl rfl rfl rfl (by kernel_rfl) Tryd.func3 (by kernel_rfl)
    (of_decide_eq_true (by kernel_rfl)) (by unfold Func.isWrapper; first | (rw [if_pos (by decide +kernel)]; kernel_rfl) | (rw [if_neg (by decide +kernel)]; exact ⟨rfl, rfl⟩))
    (fun os started H enc _ F => by rw [OpenClaim.pre_eq_preRow]; exact lifted3 law os started H enc F)

theorem plain3 (f : FuncId) (fn : Func) (hf : Tryd.pinned.checked.prog.funcNamed "custos/custoslaw05.LexStands" = some f) (hfn : Tryd.pinned.checked.prog.funcs[f]? = some fn) :
    true = Tryd.pinned.checked.prog.looks [] ∧ ∀ (j : Nat) t, fn.params[j]? = some t → Tryd.pinned.checked.prog.wantsStandIn t = false := by
  obtain rfl : f = 3 := Option.some.inj ((show Tryd.prog.funcNamed "custos/custoslaw05.LexStands" = some 3 by kernel_rfl).symm.trans hf) |>.symm
  obtain rfl : fn = Tryd.f3 := (Option.some.inj (Tryd.func3.symm.trans hfn)).symm
  refine ⟨by kernel_rfl, fun j t ht => ?_⟩
  rw [Tryd.params3] at ht
  obtain rfl : t = 9 := by simpa using Array.mem_of_getElem? ht
  exact (show Tryd.prog.wantsStandIn 9 = false by kernel_rfl)

theorem card3 (law : ∀ l : List UInt8, (l.length : Int) ≤ 9223372036854775807 → CI env 3 [.d (.s l)] [] = some (.ret (.d (.b true)) [])) : Rows.LexStandsCardSaid :=
  Claim7.holds_tied_plain_at .later [] _ _ _ _ (said3 law) (fun _ h => by cases h) (by kernel_rfl) (fun _ h => by cases h) lexStands_row_tie rfl ⟨rfl, rfl⟩ (by kernel_rfl) rfl plain3 (by kernel_rfl)

set_option maxRecDepth 100000 in
theorem lifted5 (law : ∀ l : List UInt8, (l.length : Int) ≤ 9223372036854775807 → CI env 5 [.d (.s l)] [] = some (.ret (.d (.b true)) [])) (os : Os) (started : os.Started) (H : Type) (enc : TypeId × Value → H) (F : Stop.Interp) :
    ReturnsInHanded {} Tryd.checked os 5 .any ((OpenSpec.ofChange Rows.lexAheadSpec).preRow enc Tryd.prog Tryd.f5 Rows.lexAheadRow.domain false Rows.lexAheadRow.laid) (((OpenSpec.ofChange Rows.lexAheadSpec).at F).post enc Tryd.prog Tryd.f5 false true false false) := by
  obtain ⟨places, hx⟩ := reads1 (spec := Rows.lexAheadSpec) (fn := Tryd.f5) rfl rfl os enc
  refine returnsInHanded_of_row (C := Tryd.checked) (s := OpenSpec.ofChange Rows.lexAheadSpec) own started (by kernel_rfl) Tryd.func5
    (witness_row_atRef (enc := enc) (C := Tryd.checked) false (laidWorld os) #[.string ⟨#[]⟩] rfl (by kernel_rfl) (by kernel_rfl) (by kernel_rfl)
      (OpenSpec.preRow_of_cond 8 hx (by kernel_rfl) (fun k hk => by cases hk) (by kernel_rfl) (laid_met os _))) ?_
  intro W base args ds gs before hval hW _ _ _ hL hsh _
  exact contract1 (spec := Rows.lexAheadSpec) Tryd.params5 rfl rfl (fun _ _ => rfl) law H enc base args ds gs before hval hW hL hsh

theorem said5 (law : ∀ l : List UInt8, (l.length : Int) ≤ 9223372036854775807 → CI env 5 [.d (.s l)] [] = some (.ret (.d (.b true)) [])) : Rows.LexAheadSaid :=
  OpenClaim.holds_of_cond 5 Tryd.f5 rfl rfl rfl rfl rfl rfl rfl ⟨rfl, rfl, rfl, rfl, rfl⟩ rfl rfl rfl rfl rfl (by kernel_rfl) Tryd.func5 (by kernel_rfl)
    (of_decide_eq_true (by kernel_rfl)) (by unfold Func.isWrapper; first | (rw [if_pos (by decide +kernel)]; kernel_rfl) | (rw [if_neg (by decide +kernel)]; exact ⟨rfl, rfl⟩))
    (fun os started H enc _ F => by rw [OpenClaim.pre_eq_preRow]; exact lifted5 law os started H enc F)

theorem plain5 (f : FuncId) (fn : Func) (hf : Tryd.pinned.checked.prog.funcNamed "custos/custoslaw05.LexAhead" = some f) (hfn : Tryd.pinned.checked.prog.funcs[f]? = some fn) :
    true = Tryd.pinned.checked.prog.looks [] ∧ ∀ (j : Nat) t, fn.params[j]? = some t → Tryd.pinned.checked.prog.wantsStandIn t = false := by
  obtain rfl : f = 5 := Option.some.inj ((show Tryd.prog.funcNamed "custos/custoslaw05.LexAhead" = some 5 by kernel_rfl).symm.trans hf) |>.symm
  obtain rfl : fn = Tryd.f5 := (Option.some.inj (Tryd.func5.symm.trans hfn)).symm
  refine ⟨by kernel_rfl, fun j t ht => ?_⟩
  rw [Tryd.params5] at ht
  obtain rfl : t = 9 := by simpa using Array.mem_of_getElem? ht
  exact (show Tryd.prog.wantsStandIn 9 = false by kernel_rfl)

theorem card5 (law : ∀ l : List UInt8, (l.length : Int) ≤ 9223372036854775807 → CI env 5 [.d (.s l)] [] = some (.ret (.d (.b true)) [])) : Rows.LexAheadCardSaid :=
  Claim7.holds_tied_plain_at .later [] _ _ _ _ (said5 law) (fun _ h => by cases h) (by kernel_rfl) (fun _ h => by cases h) lexAhead_row_tie rfl ⟨rfl, rfl⟩ (by kernel_rfl) rfl plain5 (by kernel_rfl)

end Go.Eng.L05
namespace Go.Eng.L05
open Go.Eng Go.Proofs Go.Proofs.YtjgoahlkodbemaaDoor Go.ChangeShapes Go.WideShapes Go.ChangeAt Go.RowKit

/-- The types of its arguments. -/
def plain4S : List TypeId := [9, 33, 3]
theorem plain4S_ok : plainSet Tryd.prog plain4S = true := by kernel_rfl
theorem und9 : Tryd.prog.underlying 9 = some .string := by kernel_rfl
theorem und33 : Tryd.prog.underlying 33 = some (.slice 3) := by kernel_rfl
theorem und3 : Tryd.prog.underlying 3 = some (.int .i64) := by kernel_rfl
theorem und4 : Tryd.prog.underlying 4 = some .bool := by kernel_rfl
theorem cells3 : Tryd.prog.cellsOf 3 = 1 := by kernel_rfl
theorem par4 : Tryd.f4.params = #[9, 33] := by kernel_rfl

theorem ints {H : Type} {n : Nat} {d : DataW H} {ds : List D} (h : Op Tryd.prog n 33 d ds) : ∃ gs : List Int, ds = [.sl 1 (gs.map fun g => [.i .i64 g])] ∧ (gs.length : Int) ≤ 9223372036854775807 := by
  cases n with
  | zero => exact h.elim
  | succ n =>
    unfold Op at h
    rw [und33] at h
    simp only [cells3] at h
    rcases h with ⟨_, rfl⟩ | ⟨es, sp, rows, _, rfl, hm, hl, hx⟩
    · exact ⟨[], rfl, by simp⟩
    · have key : ∀ (es : List (DataW H)) (rows : List (List D)), es.length = rows.length → (∀ (i : Nat) x r, es[i]? = some x → rows[i]? = some r → r.length = 1 ∧ Op Tryd.prog n 3 x r) → ∃ gs : List Int, rows = gs.map fun g => [.i .i64 g] := by
        intro es
        induction es with
        | nil =>
          intro rows hl _
          cases rows with
          | nil => exact ⟨[], rfl⟩
          | cons r rows => simp at hl
        | cons e es ih =>
          intro rows hl hx
          cases rows with
          | nil => simp at hl
          | cons r rows =>
            obtain ⟨_, h1⟩ := hx 0 e r rfl rfl
            obtain ⟨gs, rfl⟩ := ih rows (by simpa using hl) (fun i x r e1 e2 => hx (i + 1) x r e1 e2)
            cases n with
            | zero => exact h1.elim
            | succ n =>
              unfold Op at h1
              rw [und3] at h1
              obtain ⟨m, _, rfl, _⟩ := h1
              exact ⟨m :: gs, rfl⟩
      obtain ⟨gs, rfl⟩ := key es rows hl hx
      exact ⟨gs, rfl, by unfold maxLen at hm; rw [List.length_map] at hm; omega⟩

theorem args4 {H : Type} {ds : List (DataW H)} {ws : List T} (h : ArgsOK Tryd.prog [9, 33] ds ws) : ∃ (s : List UInt8) (gs : List Int), ws = [.d (.s s), .d (.sl 1 (gs.map fun g => [.i .i64 g]))] ∧ (s.length : Int) ≤ 9223372036854775807 ∧ (gs.length : Int) ≤ 9223372036854775807 := by
  match ds, h with
  | [d1, d2], h =>
    obtain ⟨n, cells, rest, rfl, h1, m, cells', rest', rfl, h2, h3⟩ := h
    obtain rfl : rest' = [] := h3
    obtain ⟨gs, rfl, hg⟩ := ints h2
    cases n with
    | zero => exact h1.elim
    | succ n =>
      unfold Op at h1
      rw [und9] at h1
      obtain ⟨s, _, rfl, hs⟩ := h1
      refine ⟨s, gs, ?_, by unfold maxLen at hs; omega, hg⟩
      unfold argT
      rw [und9, und33]
  | [], h => exact h.elim
  | [_], h => obtain ⟨_, _, _, _, _, h⟩ := h; exact h.elim
  | _ :: _ :: _ :: _, h => obtain ⟨_, _, _, _, _, _, _, _, _, _, h⟩ := h; exact h.elim

/-- What the plain law says. -/
def Law4 : Prop := ∀ (s : List UInt8) (gs : List Int), (s.length : Int) ≤ 9223372036854775807 → (gs.length : Int) ≤ 9223372036854775807 → CI env 4 [.d (.s s), .d (.sl 1 (gs.map fun g => [.i .i64 g]))] [] = some (.ret (.d (.b true)) [])

set_option maxRecDepth 100000 in
theorem lifted4 (law : Law4) (os : Os) (started : os.Started) (H : Type) (enc : TypeId × Value → H) (F : Stop.Interp) :
    ReturnsInHanded {} Tryd.checked os 4 .any ((OpenSpec.ofChange Rows.lexAgainSpec).preRow enc Tryd.prog Tryd.f4 Rows.lexAgainRow.domain false Rows.lexAgainRow.laid) (((OpenSpec.ofChange Rows.lexAgainSpec).at F).post enc Tryd.prog Tryd.f4 false true false false) := by
  have hx : ∃ places, DataW.whole enc Tryd.prog ((laidWorld os).forCall (fun _ _ => 0) ⟨#[], #[.string ⟨#[]⟩, .slice none 0 0], []⟩).memory Tryd.f4.params.toList Rows.lexAgainSpec.vars false #[Value.string ⟨#[]⟩, .slice none 0 0].toList 8 = some ([.lit (.string []), .nil], [], places) := by
    rw [par4, show Rows.lexAgainSpec.vars = [] from rfl]
    exact ⟨[], by kernel_rfl⟩
  obtain ⟨places, hx⟩ := hx
  refine returnsInHanded_of_row (C := Tryd.checked) (s := OpenSpec.ofChange Rows.lexAgainSpec) own started (by kernel_rfl) Tryd.func4
    (witness_row_atRef (enc := enc) (C := Tryd.checked) false (laidWorld os) #[.string ⟨#[]⟩, .slice none 0 0] rfl (by kernel_rfl) (by kernel_rfl) (by kernel_rfl)
      (OpenSpec.preRow_of_cond 8 hx (by kernel_rfl) (fun k hk => by cases hk) (by kernel_rfl) (laid_met os _))) ?_
  intro W base args ds gs before hval hW _ _ _ hL hsh _
  refine law_contract (spec := Rows.lexAgainSpec) plain4S_ok (by kernel_rfl) (by kernel_rfl) (show Tryd.f4.resultTypes = #[4] by kernel_rfl) und4 rfl ?_ hval hW ?_
  · intro ds hl
    rw [par4] at hl
    match ds, hl with
    | [_, _], _ => rfl
  · intro ws hws
    rw [par4] at hws
    obtain ⟨s, gs, rfl, h1, h2⟩ := args4 hws
    exact CI_sound mixed (envOK (ground hL hsh)) (law s gs h1 h2)

theorem said4 (law : Law4) : Rows.LexAgainSaid :=
  OpenClaim.holds_of_cond 4 Tryd.f4 rfl rfl rfl rfl rfl rfl rfl ⟨rfl, rfl, rfl, rfl, rfl⟩ rfl rfl rfl rfl rfl (by kernel_rfl) Tryd.func4 (by kernel_rfl)
    (of_decide_eq_true (by kernel_rfl)) (by unfold Func.isWrapper; first | (rw [if_pos (by decide +kernel)]; kernel_rfl) | (rw [if_neg (by decide +kernel)]; exact ⟨rfl, rfl⟩))
    (fun os started H enc _ F => by rw [OpenClaim.pre_eq_preRow]; exact lifted4 law os started H enc F)

theorem plain4 (f : FuncId) (fn : Func) (hf : Tryd.pinned.checked.prog.funcNamed "custos/custoslaw05.LexAgain" = some f) (hfn : Tryd.pinned.checked.prog.funcs[f]? = some fn) :
    true = Tryd.pinned.checked.prog.looks [] ∧ ∀ (j : Nat) t, fn.params[j]? = some t → Tryd.pinned.checked.prog.wantsStandIn t = false := by
  obtain rfl : f = 4 := Option.some.inj ((show Tryd.prog.funcNamed "custos/custoslaw05.LexAgain" = some 4 by kernel_rfl).symm.trans hf) |>.symm
  obtain rfl : fn = Tryd.f4 := (Option.some.inj (Tryd.func4.symm.trans hfn)).symm
  refine ⟨by kernel_rfl, fun j t ht => ?_⟩
  have hm := Array.mem_of_getElem? ht
  rw [par4] at hm
  have h2 : t = 9 ∨ t = 33 := by simpa using hm
  rcases h2 with rfl | rfl
  · exact (show Tryd.prog.wantsStandIn 9 = false by kernel_rfl)
  · exact (show Tryd.prog.wantsStandIn 33 = false by kernel_rfl)

theorem card4 (law : Law4) : Rows.LexAgainCardSaid :=
  Claim7.holds_tied_plain_at .later [] _ _ _ _ (said4 law) (fun _ h => by cases h) (by kernel_rfl) (fun _ h => by cases h) lexAgain_row_tie rfl ⟨rfl, rfl⟩ (by kernel_rfl) rfl plain4 (by kernel_rfl)

end Go.Eng.L05
