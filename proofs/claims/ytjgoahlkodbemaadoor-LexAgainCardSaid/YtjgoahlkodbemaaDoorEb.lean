/-
  The engine, part I: slices built; all value operations together.
-/
import Derived.Test.YtjgoahlkodbemaaDoorEa
namespace Go.Eng
open Go.RowKit

section
variable {P : Program} {I : Fz} {κ : Km} {w : World} {ρ : Operand → Value} {α : Type} {r : α} {f : Nat}

def catV (us : List Value) : List Value := us.flatMap fun v => v.cells.toList

theorem rows_cells {sz : Nat} (hn : sz ≠ 0) : ∀ {vs : List T} {us : List Value} {rows : List (List D)}, rowsOf sz vs = some rows → RTs I κ w 0 vs us →
    (∀ v ∈ us, v.cells.size = sz) ∧ rows.length = us.length ∧ ∀ I' (pre : List Value), Fz.le I I' → RRows I' sz (pre ++ catV us) pre.length rows
  | [], us, rows, hr, h => by
    simp only [rowsOf, Option.some.injEq] at hr; subst hr
    simp only [RTs] at h; subst h
    exact ⟨by simp, rfl, fun _ _ _ => by simp [RRows]⟩
  | x :: vs, us, rows, hr, h => by
    simp only [rowsOf] at hr
    split at hr
    · rename_i y ys h1 h2
      obtain ⟨hl, hr⟩ := cond_some hr
      simp only [Option.some.injEq] at hr; subst hr
      have hl := nbeq_eq hl
      simp only [RTs] at h
      obtain ⟨u, us, rfl, hu, h⟩ := h
      obtain ⟨k1, k2, k3⟩ := rows_cells hn h2 h
      have tl : ∀ {l : List T} {ds : List D}, toDs l = some ds → ds.length = l.length := by
        intro l
        induction l with
        | nil => intro ds h; simp only [toDs, Option.some.injEq] at h; subst h; rfl
        | cons z l ih =>
          intro ds h
          simp only [toDs] at h
          split at h
          · rename_i a b ha hb
            simp only [Option.some.injEq] at h; subst h
            simp [ih hb]
          · cases h
      have hc := cellsT_sound hu (.inl (by rw [← tl h1, hl]; exact hn))
      have hrc := hc.toDs h1
      have hsz : u.cells.size = sz := by rw [← Array.length_toList, hrc.length, hl]
      refine ⟨?_, by simp [k2], ?_⟩
      · intro v hv
        rcases List.mem_cons.1 hv with rfl | hv
        · exact hsz
        · exact k1 v hv
      · intro I' pre hle
        simp only [RRows]
        refine ⟨hl, ⟨_, hrc.mono hle, ?_⟩, ?_⟩
        · unfold cut catV
          rw [List.drop_left, List.flatMap_cons, List.take_left' (by simpa using hsz)]
        · have := k3 I' (pre ++ u.cells.toList) hle
          simp only [List.length_append, Array.length_toList, hsz, List.append_assoc] at this
          simpa [catV] using this
    · cases hr

theorem fill_seq {sz : Nat} (hn : sz ≠ 0) : ∀ (us : List Value) (k : Nat) (pre rest : List Value), (∀ v ∈ us, v.cells.size = sz) → pre.length = k * sz → rest.length = us.length * sz →
    Instr.fill (fun i => some (i * sz, sz)) ⟨pre ++ rest⟩ ((us.zipIdx k).map fun p => (p.2, p.1)) = some ⟨pre ++ catV us⟩
  | [], k, pre, rest, _, _, hr => by
    have : rest = [] := List.length_eq_zero_iff.1 (by simpa using hr)
    subst this
    simp [Instr.fill, catV]
  | u :: us, k, pre, rest, hu, hp, hr => by
    have hsz := hu u (by simp)
    rw [List.zipIdx_cons, List.map_cons, Instr.fill]
    simp only [List.length_cons, Nat.succ_mul] at hr
    dsimp only
    rw [if_neg (by simp [hsz, hp]; omega)]
    rw [fold_splice _ _ _ (by simp [hsz, hp]; omega)]
    have e : (pre ++ rest).take (k * sz) ++ u.cells.toList ++ (pre ++ rest).drop (k * sz + u.cells.size) = (pre ++ u.cells.toList) ++ rest.drop sz := by
      rw [← hp, List.take_left, hsz, List.drop_append, List.drop_eq_nil_of_le (by omega), List.nil_append, Nat.add_sub_cancel_left]
    simp only [e]
    rw [fill_seq hn us (k + 1) (pre ++ u.cells.toList) (rest.drop sz) (fun v hv => hu v (by simp [hv])) (by simp [hp, hsz, Nat.succ_mul]) (by simp; omega)]
    simp [catV]

def seqParts : Nat → List (Nat × Operand) → List Opd → Bool
  | _, [], [] => true
  | k, (i, a) :: r, x :: l => Nat.beq i k && matchO a x && seqParts (k + 1) r l
  | _, _, _ => false

theorem seqParts_map : ∀ {k : Nat} {parts : List (Nat × Operand)} {xs : List Opd}, seqParts k parts xs = true → parts.map (fun p => (p.1, ρ p.2)) = ((parts.map fun p => ρ p.2).zipIdx k).map (fun p => (p.2, p.1)) ∧ matchOs (parts.map (·.2)) xs = true
  | _, [], [], _ => ⟨rfl, rfl⟩
  | k, (i, a) :: r, x :: l, h => by
    simp only [seqParts, Bool.and_eq_true] at h
    obtain ⟨h1, h2⟩ := seqParts_map (k := k + 1) h.2
    have := nbeq_eq h.1.1
    subst this
    exact ⟨by simp only [List.map_cons, List.zipIdx_cons, h1], by simp only [List.map_cons, matchOs, h.1.2, h2, Bool.and_self]⟩
  | _, [], _ :: _, h => by simp [seqParts] at h
  | _, _ :: _, [], h => by simp [seqParts] at h

theorem matchOs_len : ∀ {as : List Operand} {xs : List Opd}, matchOs as xs = true → as.length = xs.length
  | [], [], _ => rfl
  | _ :: as, _ :: xs, h => by
    simp only [matchOs, Bool.and_eq_true] at h
    simp [matchOs_len h.2]
  | [], _ :: _, h => by simp [matchOs] at h
  | _ :: _, [], h => by simp [matchOs] at h

def bslP (P : Program) (sz n : Nat) (t : TypeId) (parts : List (Nat × Operand)) (xs : List Opd) : Bool :=
  sliceP P t (fun e => sized P sz e && (match P.info? e with | some i => i.zero.isSome | none => false)) && Nat.beq n xs.length && decide (n * sz ≤ 2 ^ 24) && seqParts 0 parts xs

theorem run_bsl {sz n : Nat} {t : TypeId} {parts : Array (Nat × Operand)} {xs : List Opd} (ht : bslP P sz n t parts.toList xs = true) (hu : ∀ v ∈ parts.toList.map (fun p => ρ p.2), v.cells.size = sz) :
    ∃ e, P.underlying t = some (.slice e) ∧ (Instr.buildSlice t n (parts.map fun (i, x) => (i, ρ x))).run P w =
      .ok (.slice (some ⟨w.heap.size, 0, none⟩) n n) { w with heap := w.heap.push (.cells ⟨catV (parts.toList.map fun p => ρ p.2)⟩ e (0, 0)) } := by
  simp only [bslP, Bool.and_eq_true, decide_eq_true_eq] at ht
  obtain ⟨⟨⟨h1, h2⟩, h3⟩, h4⟩ := ht
  obtain ⟨e, he, hp⟩ := sliceP_some h1
  simp only [Bool.and_eq_true] at hp
  obtain ⟨hsz, hn⟩ := sized_some hp.1
  have hn' := nbeq_eq h2
  refine ⟨e, he, ?_⟩
  obtain ⟨m1, m2⟩ := seqParts_map (ρ := ρ) h4
  have hlen : parts.toList.length = n := by
    have := matchOs_len m2
    rw [hn', ← this, List.length_map]
  obtain ⟨i, hi, hz⟩ : ∃ i, P.info? e = some i ∧ i.zero.isSome = true := by
    cases e1 : P.info? e with
    | none => rw [e1] at hp; simp at hp
    | some i => rw [e1] at hp; exact ⟨i, rfl, hp.2⟩
  obtain ⟨z, hz⟩ := Option.isSome_iff_exists.1 hz
  have hfill : ∀ cells : Array Value, cells.size = n * sz → Instr.fill (fun i => some (i * sz, sz)) cells (parts.map fun x => (x.fst, ρ x.snd)).toList = some ⟨catV (parts.toList.map fun p => ρ p.2)⟩ := by
    intro cells hc
    have := fill_seq hn (parts.toList.map fun p => ρ p.2) 0 [] cells.toList hu (by simp) (by simp only [Array.length_toList, hc, List.length_map, hlen])
    rw [← m1] at this
    simpa using this
  have hle : ¬ (n * sz > 2 ^ 24) := by omega
  unfold Instr.buildSlice
  simp only [Sem.run_bind, run_und he, Result.andThen_ok, run_size hsz hn, if_neg hle]
  by_cases h0 : n * sz = 0
  · rw [if_pos h0, Sem.run_bind, Sem.run_pure, Result.andThen_ok]
    have := hfill ((Array.range (n * sz)).map fun x => (#[] : Array Value)[x % (#[] : Array Value).size]!) (by simp)
    rw [this]
    simp [newRow]
  · rw [if_neg h0]
    simp only [Sem.run_bind, zeroValue, typeInfo, run_program, Result.andThen_ok, hi, hz, Sem.run_pure]
    have := hfill ((Array.range (n * sz)).map fun x => z.cells[x % z.cells.size]!) (by simp)
    rw [this]
    simp [newRow]

theorem catV_length {us : List Value} {sz : Nat} (h : ∀ v ∈ us, v.cells.size = sz) : (catV us).length = us.length * sz := by
  induction us with
  | nil => simp [catV]
  | cons u us ih =>
    have := ih (fun v hv => h v (by simp [hv]))
    unfold catV at *
    rw [List.flatMap_cons, List.length_append, this, Array.length_toList, h u (by simp), List.length_cons, Nat.succ_mul, Nat.add_comm]

theorem unfrozen_none (n : Nat) : unfrozen (0, 0) n := fun o _ h => by simp at h

/-- A slice of rows. -/
theorem g_bsl (hs : Sat I w) {y : T → Option α} {sz n : Nat} {vs : List T} {xs : List Opd} (h : (opt (rowsOf sz vs) fun r => y (.own sz r)) = some r) {t : TypeId} {parts : Array (Nat × Operand)} (ht : bslP P sz n t parts.toList xs = true)
    (hv : RTs I κ w 0 vs (parts.toList.map fun p => ρ p.2)) : ∃ u, y u = some r ∧ ∀ o : Oper, o.op = .buildSlice t n parts → Gives P I κ w (execOp ρ o) u := by
  obtain ⟨rows, hr, h⟩ := opt_some h
  have hn : sz ≠ 0 := by
    simp only [bslP, Bool.and_eq_true] at ht
    obtain ⟨e, he, hp⟩ := sliceP_some ht.1.1.1
    simp only [Bool.and_eq_true] at hp
    exact (sized_some hp.1).2
  obtain ⟨k1, k2, k3⟩ := rows_cells hn hr hv
  refine ⟨_, h, fun o ho => ?_⟩
  obtain ⟨e, he, hrun⟩ := run_bsl (P := P) (w := w) (ρ := ρ) ht k1
  have hlen : rows.length = n := by
    simp only [bslP, Bool.and_eq_true] at ht
    have := nbeq_eq ht.1.1.2
    obtain ⟨m1, m2⟩ := seqParts_map (ρ := ρ) ht.2
    have m3 := matchOs_len m2
    rw [List.length_map] at m3
    rw [k2, List.length_map]
    omega
  obtain ⟨g, hown⟩ := own_new hs ⟨catV (parts.toList.map fun p => ρ p.2)⟩ e (0, 0) sz n rows _ (List.prefix_refl _) (by rw [catV_length k1, k2]) (by simp only [List.size_toArray]; rw [catV_length k1, ← k2, hlen]) (Nat.le_of_eq hlen)
    (unfrozen_none _) (fun I' hle => by have := k3 I' [] hle; simpa using this)
  refine ⟨_, _, _, _, ?_, g, by simp only [RT]; exact hown, fun b e => by cases e; exact ⟨Nat.le_refl _, by simp only [Array.size_push]; exact Nat.lt_succ_self _⟩⟩
  unfold execOp
  rw [ho, hlen]
  simp only [Sem.run_bind, hrun, Result.andThen_ok, Sem.run_pure]

theorem bytes_rows : ∀ {vs : List T} {l : List UInt8}, bytesOfDs vs = some l → rowsOf 1 vs = some (l.map byteRow)
  | [], l, h => by simp only [bytesOfDs, Option.some.injEq] at h; subst h; rfl
  | x :: vs, l, h => by
    unfold bytesOfDs at h
    split at h
    · cases ‹_ :: _ = []›
    · rename_i n r e
      simp only [List.cons.injEq] at e
      obtain ⟨rfl, rfl⟩ := e
      obtain ⟨⟨h0, h1⟩, h⟩ := ite_some h
      simp only [Option.map_eq_some_iff] at h
      obtain ⟨m, hm, rfl⟩ := h
      have ih := bytes_rows hm
      have e1 : toDs (cellsT (.d (.i .u8 n))) = some [.i .u8 n] := rfl
      simp only [rowsOf, e1, ih]
      have : ((UInt8.ofNat n.toNat).toNat : Int) = n := by
        rw [UInt8.toNat_ofNat', Nat.mod_eq_of_lt (by omega)]
        omega
      simp only [List.length_cons, List.length_nil, Nat.zero_add, Nat.beq_refl, cond_true, List.map_cons, byteRow, this]
    · cases h

theorem g_bslb (hs : Sat I w) {y : T → Option α} {n : Nat} {vs : List T} {xs : List Opd} (h : (opt (bytesOfDs vs) fun r => y (.ownb r)) = some r) {t : TypeId} {parts : Array (Nat × Operand)} (ht : bslP P 1 n t parts.toList xs = true)
    (hv : RTs I κ w 0 vs (parts.toList.map fun p => ρ p.2)) : ∃ u, y u = some r ∧ ∀ o : Oper, o.op = .buildSlice t n parts → Gives P I κ w (execOp ρ o) u := by
  obtain ⟨l, hl, h⟩ := opt_some h
  refine ⟨_, h, fun o ho => ?_⟩
  obtain ⟨u, hu, k⟩ := g_bsl (α := T) (r := .own 1 (l.map byteRow)) hs (y := fun u => some u) (by rw [bytes_rows hl]; rfl) ht hv
  simp only [Option.some.injEq] at hu
  subst hu
  obtain ⟨v, w', I', bo, h1, h2, h3, h4⟩ := k o ho
  exact ⟨v, w', I', bo, h1, h2, by simpa only [RT] using h3, h4⟩

end
end Go.Eng
namespace Go.Eng
open Go.RowKit

/-- One block has other cells. -/
structure Wrote (w : World) (b : Nat) (c : Array Value) (ty : TypeId) (fz : Nat × Nat) (w' : World) : Prop where
  os : w'.os = w.os
  tape : w'.tape = w.tape
  output : w'.output = w.output
  size : w'.heap.size = w.heap.size
  here : w'.heap[b]? = some (.cells c ty fz)
  other : ∀ k, k ≠ b → w'.heap[k]? = w.heap[k]?

theorem Wrote.below {w w' u : World} {b B : Nat} {c : Array Value} {ty : TypeId} {fz : Nat × Nat} (h : Wrote w b c ty fz w') (k : Below B u w) (hb : B ≤ b) : Below B u w' :=
  k.trans ⟨h.os, h.tape, h.output, Nat.le_of_eq h.size.symm, fun i hi => h.other i (by omega)⟩

theorem oneC_eq (v : Value) (h : oneC v = true) : v.oneCell' = true := by cases v <;> first | rfl | cases h

section
variable {P : Program}

theorem run_storeCells : ∀ (vs : List Value) (w : World) (b o i : Nat) (cs : Array Value) (ty : TypeId) (fz : Nat × Nat), w.heap[b]? = some (.cells cs ty fz) → (∀ j, o + i ≤ j → j < o + i + vs.length → ¬(fz.1 ≤ j ∧ j < fz.2)) →
    o + i + vs.length ≤ cs.size → (∀ v ∈ vs, oneC v = true) →
    ∃ w' c, (storeCells ⟨b, o, none⟩ vs i).run P w = .ok () w' ∧ Wrote w b c ty fz w' ∧ c.size = cs.size ∧ ∀ j, c[j]? = if o + i ≤ j ∧ j < o + i + vs.length then vs[j - (o + i)]? else cs[j]?
  | [], w, b, o, i, cs, ty, fz, hb, _, _, _ => by
    refine ⟨w, cs, rfl, ⟨rfl, rfl, rfl, rfl, hb, fun _ _ => rfl⟩, rfl, fun j => ?_⟩
    rw [if_neg (by simp)]
  | v :: vs, w, b, o, i, cs, ty, fz, hb, hf, hl, ho => by
    simp only [List.length_cons] at hf hl
    have hlt : o + i < cs.size := by omega
    have hcell : w.cell? ⟨b, o + i, none⟩ = some cs[o + i] := by rw [cell_of_heap hb]; exact Array.getElem?_eq_getElem hlt
    have hfr : w.frozen? ⟨b, o + i, none⟩ = false := by
      have := hf (o + i) (Nat.le_refl _) (by omega)
      simp only [World.frozen?, hb]
      simpa using this
    have hbs : b < w.heap.size := (Array.getElem?_eq_some_iff.1 hb).1
    have hw1 : (w.setCell ⟨b, o + i, none⟩ v).heap[b]? = some (.cells (cs.setIfInBounds (o + i) v) ty fz) := by
      simp only [World.setCell, Array.getElem?_modify, if_true]
      rw [hb]
      rfl
    obtain ⟨w', c, h1, h2, h3, h4⟩ := run_storeCells vs (w.setCell ⟨b, o + i, none⟩ v) b o (i + 1) (cs.setIfInBounds (o + i) v) ty fz hw1 (fun j h1 h2 => hf j (by omega) (by omega)) (by simp; omega) (fun u hu => ho u (by simp [hu]))
    refine ⟨w', c, ?_, ⟨h2.os, h2.tape, h2.output, by rw [h2.size]; simp [World.setCell], h2.here, fun k hk => ?_⟩, by rw [h3]; simp, fun j => ?_⟩
    · rw [storeCells]
      simp only [Sem.run_bind, add_none, run_store P w _ v .plain (oneC_eq v (ho v (by simp))), hcell, hfr, Bool.false_eq_true, if_false, Result.andThen_ok]
      exact h1
    · rw [h2.other k hk]
      simp only [World.setCell, Array.getElem?_modify]
      rw [if_neg (by omega)]
    · rw [h4 j]
      simp only [List.length_cons]
      by_cases hj : o + i = j
      · subst hj
        rw [if_neg (by omega), if_pos (by omega), Nat.sub_self, Array.getElem?_setIfInBounds_self_of_lt hlt]
        rfl
      · by_cases h5 : o + (i + 1) ≤ j ∧ j < o + (i + 1) + vs.length
        · rw [if_pos h5, if_pos (by omega)]
          have : j - (o + i) = (j - (o + (i + 1))) + 1 := by omega
          rw [this, List.getElem?_cons_succ]
        · rw [if_neg h5, if_neg (by omega), Array.getElem?_setIfInBounds_ne (by omega)]

theorem run_storeVar {w : World} {t : TypeId} {n b o : Nat} {v : Value} {cs : Array Value} {ty : TypeId} {fz : Nat × Nat} (ht : P.cellsOf t = n) (hn : n ≠ 0) (hv : v.cells.size = n) (hb : w.heap[b]? = some (.cells cs ty fz))
    (hf : ∀ j, o ≤ j → j < o + n → ¬(fz.1 ≤ j ∧ j < fz.2)) (hl : o + n ≤ cs.size) (ho : ∀ u ∈ v.cells.toList, oneC u = true) :
    ∃ w' c, (storeVar t ⟨b, o, none⟩ v).run P w = .ok () w' ∧ Wrote w b c ty fz w' ∧ c.size = cs.size ∧ ∀ j, c[j]? = if o ≤ j ∧ j < o + n then v.cells.toList[j - o]? else cs[j]? := by
  have hlen : v.cells.toList.length = n := by rw [Array.length_toList, hv]
  obtain ⟨w', c, h1, h2, h3, h4⟩ := run_storeCells (P := P) v.cells.toList w b o 0 cs ty fz hb (by rw [hlen]; exact hf) (by rw [hlen]; exact hl) ho
  refine ⟨w', c, ?_, h2, h3, fun j => by have := h4 j; rw [hlen] at this; exact this⟩
  unfold storeVar
  simp only [Sem.run_bind, run_size ht hn, Result.andThen_ok]
  rw [if_neg (by simpa using hv)]
  exact h1

theorem run_loadVar {w : World} {t : TypeId} {n b o : Nat} {agg : Bool} {us : List Value} (ht : P.cellsOf t = n) (hn : n ≠ 0) (ha : aggOf P t = some agg) (hl : n ≤ us.length) (h : ∀ (j : Nat) (v : Value), us[j]? = some v → w.cell? ⟨b, o + j, none⟩ = some v) :
    ∃ v, (loadVar t ⟨b, o, none⟩).run P w = .ok v w ∧ (agg = true → v = .agg ⟨us.take n⟩) ∧ (agg = false → us[0]? = some v) := by
  cases agg with
  | true =>
    refine ⟨_, ?_, fun _ => rfl, fun e => by cases e⟩
    have := run_loadCells_list (P := P) w ⟨b, o, none⟩ (us.take n) (fun j v hv => by
      rw [add_none]
      rw [List.getElem?_take] at hv
      split at hv
      · exact h j v hv
      · cases hv)
    rw [List.length_take, Nat.min_eq_left hl] at this
    unfold loadVar
    simp only [Sem.run_bind, run_agg ha, Result.andThen_ok, if_true, run_size ht hn, this, Sem.run_pure]
  | false =>
    obtain ⟨u, hu⟩ : ∃ u, us[0]? = some u := ⟨_, List.getElem?_eq_getElem (by omega)⟩
    refine ⟨u, ?_, fun e => (by cases e), fun _ => hu⟩
    have := h 0 u hu
    simp only [Nat.add_zero] at this
    unfold loadVar
    simp only [Sem.run_bind, run_agg ha, Result.andThen_ok, Bool.false_eq_true, if_false, run_load, this]

end

def nextV : Next → Option Value
  | .value v => some v
  | .skip => some undef
  | _ => none

/-- An operation does what the plain step does. -/
def StepOK (P : Program) (w0 : World) (n : Nat) (o : Oper) (st st' : St) : Prop :=
  ∀ I κ tm w, Rel w0 n I κ st tm w → ∃ nx v w' I' κ', (execOp (⟨tm, []⟩ : Act).eval o).run P w = .ok nx w' ∧ nextV nx = some v ∧ Rel w0 n I' κ' st' (putA tm o.dst v) w' ∧ Ext I κ w I' κ' w'

theorem StepOK.of_gives {P : Program} {w0 : World} {n : Nat} {o : Oper} {st : St} {x : T} (hd : ∀ d, o.dst = some d → d < n)
    (h : ∀ I κ tm w, Rel w0 n I κ st tm w → Gives P I κ w (execOp (⟨tm, []⟩ : Act).eval o) x) : StepOK P w0 n o st (st.put o.dst x) := by
  intro I κ tm w hr
  obtain ⟨v, w', I', bo, h1, g, hx, hb⟩ := h I κ tm w hr
  obtain ⟨κ', k1, k2⟩ := hr.put g hd hx hb
  exact ⟨_, v, w', I', κ', h1, rfl, k1, k2⟩

section
variable {P : Program} {w0 : World} {n : Nat}

theorem speaks_sound {t : Nat} : ∀ {x : T}, speaks t x = false → ∀ {I : Fz} {κ κ' : Km} {w : World} {bo : Option Nat} {v : Value}, (∀ f u, (f ≠ 0 ∨ u ≠ t) → κ' ⟨f, 0, u, 0⟩ = κ ⟨f, 0, u, 0⟩) →
    RT I κ w 0 bo x v → RT I κ' w 0 bo x v := by
  intro x
  induction x using T.rec (motive_2 := fun l => speaksL t l = false → ∀ {I : Fz} {κ κ' : Km} {w : World} {vs : List Value}, (∀ f u, (f ≠ 0 ∨ u ≠ t) → κ' ⟨f, 0, u, 0⟩ = κ ⟨f, 0, u, 0⟩) → RTs I κ w 0 l vs → RTs I κ' w 0 l vs) with
  | d x => intro _ I κ κ' w bo v _ h; simpa only [RT] using h
  | nl _ => intro _ I κ κ' w bo v _ h; simpa only [RT] using h
  | nlb => intro _ I κ κ' w bo v _ h; simpa only [RT] using h
  | own _ _ => intro _ I κ κ' w bo v _ h; simpa only [RT] using h
  | ownb _ => intro _ I κ κ' w bo v _ h; simpa only [RT] using h
  | agt l ih =>
    intro hs I κ κ' w bo v hk h
    simp only [RT] at *
    obtain ⟨vs, rfl, h, ho⟩ := h
    exact ⟨vs, rfl, ih (by simpa only [speaks] using hs) hk h, ho⟩
  | loc u off =>
    intro hs I κ κ' w bo v hk h
    simp only [RT] at *
    obtain ⟨b, hb, rfl⟩ := h
    exact ⟨b, by rw [hk 0 u (.inr (nbeq_of (by simpa only [speaks] using hs)))]; exact hb, rfl⟩
  | out f u off =>
    intro hs I κ κ' w bo v hk h
    simp only [RT] at *
    obtain ⟨b, hb, rfl⟩ := h
    exact ⟨b, by rw [hk _ u (.inl (by omega))]; exact hb, rfl⟩
  | ro _ _ => intro _ I κ κ' w bo v _ h; simpa only [RT] using h
  | fn f l ih =>
    intro hs I κ κ' w bo v hk h
    simp only [RT] at *
    obtain ⟨vs, rfl, h⟩ := h
    exact ⟨vs, rfl, ih (by simpa only [speaks] using hs) hk h⟩
  | tup l ih =>
    intro hs I κ κ' w bo v hk h
    simp only [RT] at *
    obtain ⟨vs, rfl, h⟩ := h
    exact ⟨vs, rfl, ih (by simpa only [speaks] using hs) hk h⟩
  | nil => rename_i h; simpa only [RTs] using h
  | cons x l ih1 ih2 =>
    rename_i hs I κ κ' w vs hk h
    simp only [speaksL, Bool.or_eq_false_iff] at hs
    simp only [RTs] at *
    obtain ⟨v, ws, rfl, hv, h⟩ := h
    exact ⟨v, ws, rfl, ih1 hs.1 hk hv, ih2 hs.2 hk h⟩

theorem speaks_L {t : Nat} : ∀ {l : List T}, speaksL t l = false → ∀ x ∈ l, speaks t x = false
  | [], _, _, hx => by simp at hx
  | y :: l, h, x, hx => by
    simp only [speaksL, Bool.or_eq_false_iff] at h
    rcases List.mem_cons.1 hx with rfl | hx
    · exact h.1
    · exact speaks_L h.2 x hx

theorem speaks_cells {t : Nat} {x : T} (h : speaks t x = false) : ∀ y ∈ cellsT x, speaks t y = false := by
  intro y hy
  unfold cellsT at hy
  split at hy
  · obtain ⟨d, _, rfl⟩ := List.mem_map.1 hy
    rfl
  · exact speaks_L (by simpa only [speaks] using h) y hy
  · simp at hy
  · rw [List.mem_singleton] at hy; subst hy; exact h

theorem speaks_laid {t : Nat} {x : T} (h : speaks t x = false) : speaks t (laid x) = false := by
  unfold laid
  split <;> first | rfl | exact h

theorem laid_sound {I : Fz} {κ : Km} {w : World} {f : Nat} {x : T} {v : Value} (h : RT I κ w f none x v) : RT I κ w f none (laid x) v := by
  unfold laid
  split
  · simp only [RT] at h; subst h; simp only [RT]; exact .inl ⟨rfl, rfl, rfl⟩
  · simp only [RT] at h; subst h; simp only [RT]; exact .inl ⟨rfl, rfl, rfl⟩
  · exact h

theorem tmFree_get {d : Nat} : ∀ {l : List (Nat × T)} {t : Nat} {x : T}, tmFree d l = true → aget l t = some x → t ≠ d → speaks d x = false
  | [], _, _, _, h, _ => by simp [aget] at h
  | (k, y) :: l, t, x, hf, h, hn => by
    simp only [tmFree, Bool.and_eq_true, Bool.or_eq_true, Bool.not_eq_true'] at hf
    simp only [aget] at h
    cases hk : Nat.beq k t with
    | true =>
      rw [hk] at h
      simp only [cond_true, Option.some.injEq] at h
      subst h
      have := nbeq_eq hk
      subst this
      rcases hf.1 with h1 | h1
      · exact absurd (nbeq_eq h1) hn
      · exact h1
    | false =>
      rw [hk] at h
      exact tmFree_get hf.2 (by simpa using h) hn

theorem obFree_get {d : Nat} : ∀ {l : Ob} {t : Nat} {cells : List T}, obFree d l = true → aget l t = some cells → t ≠ d → ∀ x ∈ cells, speaks d x = false
  | [], _, _, _, h, _ => by simp [aget] at h
  | (k, y) :: l, t, x, hf, h, hn => by
    simp only [obFree, Bool.and_eq_true, Bool.or_eq_true] at hf
    simp only [aget] at h
    cases hk : Nat.beq k t with
    | true =>
      rw [hk] at h
      simp only [cond_true, Option.some.injEq] at h
      subst h
      have := nbeq_eq hk
      subst this
      rcases hf.1 with h1 | h1
      · exact absurd (nbeq_eq h1) hn
      · intro z hz
        have := List.all_eq_true.1 h1 z hz
        simpa using this
    | false =>
      rw [hk] at h
      exact obFree_get hf.2 (by simpa using h) hn

/-- A new variable of the call's own. -/
theorem Rel.newObj {I : Fz} {κ : Km} {st : St} {tm : Array Value} {w : World} (h : Rel w0 n I κ st tm w) {d : Nat} (hd : d < n) (h1 : tmFree d st.tm = true) (h2 : obFree d st.ob = true) {cells : List T} {us : List Value} (hl : us.length = cells.length)
    (hc : ∀ (j : Nat) (x : T), cells[j]? = some x → speaks d x = false ∧ ∃ v, us[j]? = some v ∧ oneC v = true ∧ RT I κ w 0 none x v) (ty : TypeId) :
    ∃ κ', Rel w0 n I κ' { st with tm := aset d (.loc d 0) st.tm, ob := aset d cells st.ob } (tm.setIfInBounds d (.pointer (some ⟨w.heap.size, 0, none⟩))) { w with heap := w.heap.push (.cells ⟨us⟩ ty (0, 0)) } ∧
      Ext I κ w I κ' { w with heap := w.heap.push (.cells ⟨us⟩ ty (0, 0)) } := by
  have g0 := Gr.alloc h.sat ⟨us⟩ ty (0, 0) [] List.nil_prefix
  have hI : I.set w.heap.size [] = I := by
    funext b
    unfold Fz.set
    split
    · rename_i e; subst e; exact (h.sat.lt (Nat.le_refl _)).symm
    · rfl
  rw [hI] at g0
  have hr := h.grow g0
  generalize hw' : ({ w with heap := w.heap.push (.cells ⟨us⟩ ty (0, 0)) } : World) = w' at *
  have hnew : w'.heap[w.heap.size]? = some (.cells ⟨us⟩ ty (0, 0)) := by rw [← hw']; simp
  have hsz : w'.heap.size = w.heap.size + 1 := by rw [← hw']; simp
  let κ' : Km := fun q => if q = ⟨0, 0, d, 0⟩ then some w.heap.size else if q.fr = 0 ∧ q.k = 2 ∧ q.t = d then none else κ q
  have ko : ∀ f u, (f ≠ 0 ∨ u ≠ d) → κ' ⟨f, 0, u, 0⟩ = κ ⟨f, 0, u, 0⟩ := by
    intro f u hu
    show (if _ then _ else _) = _
    rw [if_neg (by simp only [Key.mk.injEq]; omega), if_neg (by simp)]
  have kt : ∀ t, κ' ⟨0, 1, t, 0⟩ = κ ⟨0, 1, t, 0⟩ := by
    intro t
    show (if _ then _ else _) = _
    rw [if_neg (by simp), if_neg (by simp)]
  have kc : ∀ f t j, (f ≠ 0 ∨ t ≠ d) → κ' ⟨f, 2, t, j⟩ = κ ⟨f, 2, t, j⟩ := by
    intro f t j hh
    show (if _ then _ else _) = _
    rw [if_neg (by simp), if_neg (by simp only; omega)]
  have kd : ∀ j, κ' ⟨0, 2, d, j⟩ = none := by
    intro j
    show (if _ then _ else _) = _
    rw [if_neg (by simp), if_pos ⟨rfl, rfl, rfl⟩]
  have ks : κ' ⟨0, 0, d, 0⟩ = some w.heap.size := by
    show (if _ then _ else _) = _
    rw [if_pos rfl]
  have kold : ∀ q b, κ' q = some b → q = ⟨0, 0, d, 0⟩ ∧ b = w.heap.size ∨ κ q = some b := by
    intro q b hq
    have hq' : (if q = ⟨0, 0, d, 0⟩ then some w.heap.size else if q.fr = 0 ∧ q.k = 2 ∧ q.t = d then none else κ q) = some b := hq
    split at hq'
    · rename_i e; left; exact ⟨e, by cases hq'; rfl⟩
    · split at hq'
      · cases hq'
      · exact .inr hq'
  refine ⟨κ', ⟨hr.below, hr.sat, by simpa using h.size, fun t x hx => ?_, fun f t cs hcs => ?_, ?_, ?_⟩, ⟨Fz.le_refl I, by omega, fun q h3 h4 => ?_, fun b hb _ => ⟨g0.below.block b hb, rfl⟩, fun q b hq hb => ?_⟩⟩
  · simp only [aget_aset] at hx
    split at hx
    · rename_i e; subst e
      cases hx
      exact ⟨_, by rw [Array.getElem?_setIfInBounds_self_of_lt (by rw [h.size]; exact hd)], by simp only [RT]; exact ⟨_, ks, rfl⟩⟩
    · rename_i e
      obtain ⟨v, e1, e2⟩ := hr.tms t x hx
      refine ⟨v, by rw [Array.getElem?_setIfInBounds_ne (by omega)]; exact e1, ?_⟩
      rw [kt]
      exact speaks_sound (tmFree_get h1 hx e) ko e2
  · by_cases e : f = 0 ∧ t = d
    · obtain ⟨rfl, rfl⟩ := e
      have : cells = cs := by
        have hcs' : aget (aset t cells st.ob) t = some cs := hcs
        rw [aget_aset, if_pos rfl] at hcs'
        exact Option.some.inj hcs'
      subst this
      refine ⟨_, ⟨us⟩, ty, ks, h.sat.lt (Nat.le_refl _), hnew, by simpa using hl, fun j x hx => ?_⟩
      obtain ⟨e0, v, e1, e2, e3⟩ := hc j x hx
      refine ⟨v, by simpa using e1, e2, ?_⟩
      rw [kd]
      exact speaks_sound e0 ko (e3.grow h.sat g0 (fun _ e => by cases e))
    · have hcs' : obAt st.ob st.ou f t = some cs := by
        cases f with
        | zero =>
          have hcs' : aget (aset d cells st.ob) t = some cs := hcs
          rw [aget_aset, if_neg (by omega)] at hcs'
          exact hcs'
        | succ f => exact hcs
      obtain ⟨b, c, ty', e1, e2, e3, e4, e5⟩ := hr.objs f t cs hcs'
      refine ⟨b, c, ty', by rw [ko f t (by omega)]; exact e1, e2, e3, e4, fun j x hx => ?_⟩
      obtain ⟨v, e6, e7, e8⟩ := e5 j x hx
      refine ⟨v, e6, e7, ?_⟩
      rw [kc f t j (by omega)]
      cases f with
      | zero => exact speaks_sound (obFree_get h2 hcs' (by omega) x (List.mem_of_getElem? hx)) ko e8
      | succ f => exact e8.key (fun g t => ko _ t (.inl (by omega)))
  · intro q q' b hq hq'
    rcases kold q b hq with ⟨e1, e2⟩ | e1 <;> rcases kold q' b hq' with ⟨e3, e4⟩ | e3
    · rw [e1, e3]
    · have := (h.own q' b e3).2; omega
    · have := (h.own q b e1).2; omega
    · exact h.inj q q' b e1 e3
  · intro q b hq
    rcases kold q b hq with ⟨e1, e2⟩ | e1
    · have := h.below.size; omega
    · have := h.own q b e1; omega
  · show (if _ then _ else _) = _
    rw [if_neg (by rintro rfl; simp at h3), if_neg (by omega)]
  · rcases kold q b hq with ⟨e1, e2⟩ | e1
    · omega
    · exact .inl e1

/-- A variable is written. -/
theorem Rel.wrote {I : Fz} {κ κ' : Km} {st st' : St} {tm : Array Value} {w w' : World} (h : Rel w0 n I κ st tm w) {f t b : Nat} {c : Array Value} {ty : TypeId} {cells : List T} (hb : κ ⟨f, 0, t, 0⟩ = some b) (hI : I b = []) (hw : Wrote w b c ty (0, 0) w')
    (hst : st'.tm = st.tm) (hob : ∀ f' t' cs, obAt st'.ob st'.ou f' t' = some cs → (f' = f ∧ t' = t ∧ cs = cells) ∨ ((f' ≠ f ∨ t' ≠ t) ∧ obAt st.ob st.ou f' t' = some cs))
    (ka : ∀ q : Key, q.k = 0 → κ' q = κ q) (kb : ∀ f' t' j, (f' ≠ f ∨ t' ≠ t) → κ' ⟨f', 2, t', j⟩ = κ ⟨f', 2, t', j⟩) (kc : ∀ t' x v, aget st.tm t' = some x → RT I κ w 0 (κ ⟨0, 1, t', 0⟩) x v → RT I κ w 0 (κ' ⟨0, 1, t', 0⟩) x v)
    (hc : c.size = cells.length) (kd : ∀ (j : Nat) (x : T), cells[j]? = some x → ∃ v, c[j]? = some v ∧ oneC v = true ∧ RT I κ w f (κ' ⟨f, 2, t, j⟩) x v) (inj : ∀ q q' b, κ' q = some b → κ' q' = some b → q = q')
    (old : ∀ q b', κ' q = some b' → κ q = some b' ∨ ∃ q', κ q' = some b' ∧ ¬(1 ≤ q'.fr ∧ q'.k = 1)) (kk : ∀ q : Key, 1 ≤ q.fr → q.k ≠ 2 → κ' q = κ q) :
    Rel w0 n I κ' st' tm w' ∧ Ext I κ w I κ' w' := by
  have hkb : κ' ⟨f, 0, t, 0⟩ = some b := by rw [ka _ rfl]; exact hb
  have keep : ∀ {f' : Nat} {q : Key} {x : T} {v : Value}, q.k ≠ 0 → RT I κ w f' (κ' q) x v → RT I κ' w' f' (κ' q) x v := by
    intro f' q x v hq hx
    refine RT.mono (Fz.le_refl I) (fun g t => ka _ rfl) (fun b' e => ⟨hw.other b' ?_, rfl⟩) hx
    rintro rfl
    have := inj _ _ _ e hkb
    rw [this] at hq
    exact hq rfl
  have rng : ∀ q b', κ' q = some b' → w0.heap.size ≤ b' ∧ b' < w.heap.size := by
    intro q b' hq
    rcases old q b' hq with h1 | ⟨q', h1, _⟩
    · exact h.own _ _ h1
    · exact h.own _ _ h1
  refine ⟨⟨hw.below h.below (h.own _ _ hb).1, ?_, h.size, fun t' x hx => ?_, fun f' t' cs hcs => ?_, inj, fun q b' hq => by rw [hw.size]; exact rng q b' hq⟩,
    ⟨Fz.le_refl I, Nat.le_of_eq hw.size.symm, kk, fun b' hlt hp => ⟨hw.other b' ?_, rfl⟩, fun q b' hq hlt => ?_⟩⟩
  · intro b' o v e
    have hne : b' ≠ b := by rintro rfl; rw [hI] at e; simp at e
    rw [← h.sat b' o v e]
    simp only [World.cell?, hw.other b' hne]
  · rw [hst] at hx
    obtain ⟨v, e1, e2⟩ := h.tms t' x hx
    exact ⟨v, e1, keep (by simp) (kc t' x v hx e2)⟩
  · rcases hob f' t' cs hcs with ⟨rfl, rfl, rfl⟩ | ⟨hne, hcs⟩
    · refine ⟨b, c, ty, hkb, hI, hw.here, hc, fun j x hx => ?_⟩
      obtain ⟨v, e1, e2, e3⟩ := kd j x hx
      exact ⟨v, e1, e2, keep (by simp) e3⟩
    · obtain ⟨b', c', ty', e1, e2, e3, e4, e5⟩ := h.objs f' t' cs hcs
      have hne' : b' ≠ b := by
        rintro rfl
        have := h.inj _ _ _ e1 hb
        simp only [Key.mk.injEq] at this
        omega
      refine ⟨b', c', ty', by rw [ka _ rfl]; exact e1, e2, by rw [hw.other b' hne']; exact e3, e4, fun j x hx => ?_⟩
      obtain ⟨v, e6, e7, e8⟩ := e5 j x hx
      exact ⟨v, e6, e7, keep (by simp) (by rw [kb f' t' j hne]; exact e8)⟩
  · rintro rfl
    have := hp _ hb
    simp at this
  · rcases old q b' hq with h1 | ⟨q', h1, h2⟩
    · exact .inl h1
    · exact .inr fun hp => h2 (hp q' h1)

end
end Go.Eng
namespace Go.Eng
open Go.RowKit

section
variable {P : Program} {w0 : World} {n : Nat}

theorem matchK_speaks {d : Nat} {v : Value} {x : T} (h : matchK v x = true) : speaks d x = false := by
  unfold matchK at h
  split at h <;> first | rfl | cases h

theorem matchKs_get {I : Fz} {κ : Km} {w : World} {f d : Nat} : ∀ {vs : List Value} {l : List T} {j : Nat} {x : T}, matchKs vs l = true → l[j]? = some x → speaks d x = false ∧ ∃ v, vs[j]? = some v ∧ oneC v = true ∧ RT I κ w f none x v
  | [], [], j, x, _, h => by simp at h
  | v :: vs, y :: l, j, x, hm, h => by
    simp only [matchKs, Bool.and_eq_true] at hm
    cases j with
    | zero => simp at h; subst h; exact ⟨matchK_speaks hm.1, v, rfl, matchK_oneC hm.1, matchK_sound hm.1⟩
    | succ j => simpa using matchKs_get (j := j) hm.2 (by simpa using h)
  | [], _ :: _, _, _, hm, _ => by simp [matchKs] at hm
  | _ :: _, [], _, _, hm, _ => by simp [matchKs] at hm

theorem matchKs_len : ∀ {vs : List Value} {l : List T}, matchKs vs l = true → vs.length = l.length
  | [], [], _ => rfl
  | v :: vs, y :: l, hm => by simp only [matchKs, Bool.and_eq_true] at hm; simp [matchKs_len hm.2]
  | [], _ :: _, hm => by simp [matchKs] at hm
  | _ :: _, [], hm => by simp [matchKs] at hm

def allocP (P : Program) (t : TypeId) (z : List T) : Bool := match P.info? t with
  | some it => match it.zero with
    | some v => matchKs v.cells.toList z
    | none => false
  | none => false

theorem s_alloc {o : Oper} {st : St} {t : TypeId} {z : List T} {d : Nat} (ho : o.op = .alloc t) (hdst : o.dst = some d) (hd : d < n) (ht : allocP P t z = true) (h1 : tmFree d st.tm = true) (h2 : obFree d st.ob = true) :
    StepOK P w0 n o st { st with tm := aset d (.loc d 0) st.tm, ob := aset d (z.map laid) st.ob } := by
  intro I κ tm w hr
  unfold allocP at ht
  split at ht
  · rename_i it hi
    split at ht
    · rename_i v hz
      obtain ⟨κ', k1, k2⟩ := hr.newObj hd h1 h2 (cells := z.map laid) (us := v.cells.toList) (by rw [List.length_map]; exact matchKs_len ht) (fun j x hx => by
        rw [List.getElem?_map, Option.map_eq_some_iff] at hx
        obtain ⟨y, hy, rfl⟩ := hx
        obtain ⟨e1, u, e2, e3, e4⟩ := matchKs_get (I := I) (κ := κ) (w := w) (f := 0) (d := d) ht hy
        exact ⟨speaks_laid e1, u, e2, e3, laid_sound e4⟩) t
      refine ⟨.value (.pointer (some ⟨w.heap.size, 0, none⟩)), _, _, I, κ', ?_, rfl, by rw [hdst]; exact k1, k2⟩
      unfold execOp
      rw [ho]
      simp [Instr.alloc, zeroValue, typeInfo, hi, hz, newVar, newRow]
    · cases ht
  · cases ht

theorem s_box {o : Oper} {st : St} {t : TypeId} {a : Operand} {x : Opd} {v : T} {m d : Nat} (ho : o.op = .box t a) (hdst : o.dst = some d) (hd : d < n) (hm : matchO a x = true) (hv : st.opd x = some v) (hl : (cellsT v).length = m) (hm0 : m ≠ 0)
    (h1 : tmFree d st.tm = true) (h2 : obFree d st.ob = true) (h3 : speaks d v = false) : StepOK P w0 n o st { st with tm := aset d (.loc d 0) st.tm, ob := aset d ((cellsT v).map laid) st.ob } := by
  intro I κ tm w hr
  have hx := hr.opd hm hv
  obtain ⟨c1, c2⟩ := cellsT_sound0 hx (.inl (by omega))
  obtain ⟨κ', k1, k2⟩ := hr.newObj hd h1 h2 (cells := (cellsT v).map laid) (us := ((⟨tm, []⟩ : Act).eval a).cells.toList) (by rw [List.length_map, c1.length]) (fun j y hy => by
    rw [List.getElem?_map, Option.map_eq_some_iff] at hy
    obtain ⟨z, hz, rfl⟩ := hy
    obtain ⟨u, e1, e2⟩ := c1.get hz
    exact ⟨speaks_laid (speaks_cells h3 z (List.mem_of_getElem? hz)), u, e1, c2 u (List.mem_of_getElem? e1), laid_sound e2⟩) t
  refine ⟨.value (.pointer (some ⟨w.heap.size, 0, none⟩)), _, _, I, κ', ?_, rfl, by rw [hdst]; exact k1, k2⟩
  unfold execOp
  rw [ho]
  simp [Instr.box, newVar, newRow]

/-- Of a value that speaks of no variable it doesn't matter from where it is seen. -/
theorem still_frame {I : Fz} {κ κ' : Km} {w : World} {f f' : Nat} {bo : Option Nat} {x : T} {v : Value} (h : still x = true) (k : RT I κ w f bo x v) : RT I κ' w f' bo x v := by
  cases x <;> first | (simp [still] at h; done) | simpa only [RT] using k

theorem obAt_set0 {ob : Ob} {ou : List Ob} {t : Nat} {c : List T} {f' t' : Nat} {cs : List T} (h : obAt (aset t c ob) ou f' t' = some cs) : (f' = 0 ∧ t' = t ∧ cs = c) ∨ ((f' ≠ 0 ∨ t' ≠ t) ∧ obAt ob ou f' t' = some cs) := by
  cases f' with
  | zero =>
    have h' : aget (aset t c ob) t' = some cs := h
    rw [aget_aset] at h'
    split at h'
    · exact .inl ⟨rfl, ‹_›, by cases h'; rfl⟩
    · exact .inr ⟨.inr ‹_›, h'⟩
  | succ f' => exact .inr ⟨.inl (by omega), h⟩

theorem lset_get : ∀ {ou : List Ob} {f t : Nat} {c : List T} {g : Nat} {o : Ob}, (lsetOb ou f t c)[g]? = some o → (g = f ∧ ∃ o', ou[g]? = some o' ∧ o = aset t c o') ∨ (g ≠ f ∧ ou[g]? = some o)
  | [], _, _, _, _, _, h => by simp [lsetOb] at h
  | x :: ou, 0, t, c, g, o, h => by
    cases g with
    | zero => simp [lsetOb] at h; exact .inl ⟨rfl, x, rfl, h.symm⟩
    | succ g => simp [lsetOb] at h; exact .inr ⟨by omega, by simpa using h⟩
  | x :: ou, f + 1, t, c, g, o, h => by
    cases g with
    | zero => simp [lsetOb] at h; exact .inr ⟨by omega, by simp [h]⟩
    | succ g =>
      simp only [lsetOb, List.getElem?_cons_succ] at h
      rcases lset_get h with ⟨e, o', h1, h2⟩ | ⟨e, h1⟩
      · exact .inl ⟨by omega, o', by simpa using h1, h2⟩
      · exact .inr ⟨by omega, by simpa using h1⟩

theorem obAt_setS {ob : Ob} {ou : List Ob} {f t : Nat} {c : List T} {f' t' : Nat} {cs : List T} (h : obAt ob (lsetOb ou f t c) f' t' = some cs) : (f' = f + 1 ∧ t' = t ∧ cs = c) ∨ ((f' ≠ f + 1 ∨ t' ≠ t) ∧ obAt ob ou f' t' = some cs) := by
  cases f' with
  | zero => exact .inr ⟨.inl (by omega), h⟩
  | succ g =>
    simp only [obAt] at h
    split at h
    · rename_i o ho
      rcases lset_get ho with ⟨e, o', h1, rfl⟩ | ⟨e, h1⟩
      · subst e
        rw [aget_aset] at h
        split at h
        · exact .inl ⟨rfl, ‹_›, by cases h; rfl⟩
        · refine .inr ⟨.inr ‹_›, ?_⟩
          simp only [obAt, h1]; exact h
      · refine .inr ⟨.inl (by omega), ?_⟩
        simp only [obAt, h1]; exact h
    · cases h

/-- Where an address of a variable leads. -/
theorem addr_sound {I : Fz} {κ : Km} {st : St} {tm : Array Value} {w : World} (hr : Rel w0 n I κ st tm w) {f t : Nat} {cells : List T} (hc : obAt st.ob st.ou f t = some cells) :
    ∃ b cs ty, κ ⟨f, 0, t, 0⟩ = some b ∧ I b = [] ∧ w.heap[b]? = some (.cells cs ty (0, 0)) ∧ Cells I κ w f t cells cs := hr.objs f t cells hc

theorem splice_get {cells xs : List T} {off : Nat} (h : off + xs.length ≤ cells.length) (j : Nat) : (splice cells off xs)[j]? = if off ≤ j ∧ j < off + xs.length then xs[j - off]? else cells[j]? := by
  unfold splice
  have ht : (cells.take off).length = off := by rw [List.length_take]; omega
  by_cases h1 : j < off
  · rw [if_neg (by omega), List.append_assoc, List.getElem?_append_left (by omega), List.getElem?_take, if_pos h1]
  · by_cases h2 : j < off + xs.length
    · rw [if_pos ⟨by omega, h2⟩, List.append_assoc, List.getElem?_append_right (by omega), ht, List.getElem?_append_left (by omega)]
    · rw [if_neg (by omega), List.append_assoc, List.getElem?_append_right (by omega), ht, List.getElem?_append_right (by omega), List.getElem?_drop]
      congr 1
      omega

theorem splice_length {cells xs : List T} {off : Nat} (h : off + xs.length ≤ cells.length) : (splice cells off xs).length = cells.length := by
  unfold splice
  simp only [List.length_append, List.length_take, List.length_drop]
  omega

theorem RTs.get' {I : Fz} {κ : Km} {w : World} {f : Nat} : ∀ {l : List T} {vs : List Value} {i : Nat} {x : T}, RTs I κ w f l vs → l[i]? = some x → ∃ v, vs[i]? = some v ∧ RT I κ w f none x v
  | [], _, _, _, _, h => by simp at h
  | y :: l, vs, i, x, h, hi => by
    simp only [RTs] at h
    obtain ⟨v, ws, rfl, hv, h⟩ := h
    cases i with
    | zero => simp at hi; subst hi; exact ⟨v, rfl, hv⟩
    | succ i =>
      obtain ⟨u, h1, h2⟩ := RTs.get' (l := l) (i := i) h (by simpa using hi)
      exact ⟨u, by simpa using h1, h2⟩

/-- Plain values written into a variable. -/
theorem write_sound {I : Fz} {κ : Km} {st st' : St} {tm : Array Value} {w : World} (hr : Rel w0 n I κ st tm w) {f t off : Nat} {cells xs : List T} (hc : obAt st.ob st.ou f t = some cells) (hl : off + xs.length ≤ cells.length)
    (hst : st'.tm = st.tm) (hob : ∀ f' t' cs, obAt st'.ob st'.ou f' t' = some cs → (f' = f ∧ t' = t ∧ cs = splice cells off (xs.map laid)) ∨ ((f' ≠ f ∨ t' ≠ t) ∧ obAt st.ob st.ou f' t' = some cs))
    {ty : TypeId} {m : Nat} {v : Value} (ht : P.cellsOf ty = m) (hm : m ≠ 0) (hx : RTs I κ w f xs v.cells.toList) (ho : ∀ u ∈ v.cells.toList, oneC u = true) (hxm : xs.length = m) {b : Nat} (hb : κ ⟨f, 0, t, 0⟩ = some b) :
    ∃ w' κ', (storeVar ty ⟨b, off, none⟩ v).run P w = .ok () w' ∧ Rel w0 n I κ' st' tm w' ∧ Ext I κ w I κ' w' := by
  obtain ⟨b', cs, ty', e1, e2, e3, e4⟩ := addr_sound hr hc
  have e5 := e4.2
  rw [hb] at e1
  cases e1
  have hsz : v.cells.size = m := by rw [← Array.length_toList, hx.length, hxm]
  obtain ⟨w', c, h1, h2, h3, h4⟩ := run_storeVar (P := P) ht hm hsz e3 (o := off) (by intro j _ _; simp) (by rw [e4.1]; omega) ho
  refine ⟨w', fun q => if q.fr = f ∧ q.k = 2 ∧ q.t = t ∧ off ≤ q.j ∧ q.j < off + m then none else κ q, h1, ?_⟩
  have kk : ∀ q : Key, q.k ≠ 2 → (if q.fr = f ∧ q.k = 2 ∧ q.t = t ∧ off ≤ q.j ∧ q.j < off + m then none else κ q) = κ q := by
    intro q hq
    rw [if_neg (by omega)]
  have hsub : ∀ (q : Key) (b : Nat), (if q.fr = f ∧ q.k = 2 ∧ q.t = t ∧ off ≤ q.j ∧ q.j < off + m then none else κ q) = some b → κ q = some b := by
    intro q b hq
    split at hq
    · cases hq
    · exact hq
  refine hr.wrote hb e2 h2 hst hob (fun q hq => kk q (by omega)) (fun f' t' j hne => ?_) (fun t' x v _ h => by rw [kk _ (by simp)]; exact h) ?_ (fun j x hx' => ?_) (fun q q' b hq hq' => hr.inj q q' b (hsub q b hq) (hsub q' b hq')) (fun q b hq => .inl (hsub q b hq))
    (fun q _ hq => kk q hq)
  · show (if _ then _ else _) = _
    rw [if_neg (by simp only; omega)]
  · rw [h3, e4.1, splice_length (by simpa using hl)]
  · rw [splice_get (by simpa using hl)] at hx'
    rw [h4]
    simp only [List.length_map, hxm] at hx'
    split at hx'
    · rename_i hj
      rw [List.getElem?_map, Option.map_eq_some_iff] at hx'
      obtain ⟨y, hy, rfl⟩ := hx'
      obtain ⟨u, g1, g2⟩ := hx.get' hy
      refine ⟨u, by rw [if_pos hj]; exact g1, ho u (List.mem_of_getElem? g1), ?_⟩
      rw [if_pos ⟨rfl, rfl, rfl, hj⟩]
      exact laid_sound g2
    · rename_i hj
      obtain ⟨u, g1, g2, g3⟩ := e5 j x hx'
      refine ⟨u, by rw [if_neg hj]; exact g1, g2, ?_⟩
      rw [if_neg (by simp only; omega)]
      exact g3
theorem still_frames {I : Fz} {κ κ' : Km} {w : World} {f f' : Nat} : ∀ {l : List T} {vs : List Value}, l.all still = true → RTs I κ w f l vs → RTs I κ' w f' l vs
  | [], vs, _, h => by simpa only [RTs] using h
  | x :: l, vs, ha, h => by
    simp only [List.all_cons, Bool.and_eq_true] at ha
    simp only [RTs] at *
    obtain ⟨v, ws, rfl, hv, h⟩ := h
    exact ⟨v, ws, rfl, still_frame ha.1 hv, still_frames ha.2 h⟩

theorem s_store {o : Oper} {st st' : St} {t : TypeId} {a b : Operand} {x y : Opd} {p v : T} {m : Nat} (ho : o.op = .store t a b) (hd : ∀ d, o.dst = some d → d < n) (h1 : matchO a x = true) (h2 : matchO b y = true) (hp : st.opd x = some p) (hv : st.opd y = some v)
    (hl : (cellsT v).length = m) (hm : m ≠ 0) (ht : P.cellsOf t = m) (hw : st.wr p (cellsT v) = some st') : StepOK P w0 n o st (st'.put o.dst (.tup [])) := by
  intro I κ tm w hr
  have rp := hr.opd h1 hp
  have rv := hr.opd h2 hv
  obtain ⟨c1, c2⟩ := cellsT_sound0 rv (.inl (by omega))
  have fin : ∀ (bb off : Nat) (w' : World) (κ' : Km), (⟨tm, []⟩ : Act).eval a = .pointer (some ⟨bb, off, none⟩) → (storeVar t ⟨bb, off, none⟩ ((⟨tm, []⟩ : Act).eval b)).run P w = .ok () w' → Rel w0 n I κ' st' tm w' → Ext I κ w I κ' w' →
      ∃ nx v w' I' κ', (execOp (⟨tm, []⟩ : Act).eval o).run P w = .ok nx w' ∧ nextV nx = some v ∧ Rel w0 n I' κ' (st'.put o.dst (.tup [])) (putA tm o.dst v) w' ∧ Ext I κ w I' κ' w' := by
    intro bb off w' κ' e1 e2 e3 e4
    obtain ⟨κ'', g1, g2⟩ := e3.put (Gr.refl e3.sat) hd (x := .tup []) (v := undef) (bo := none) (by simp only [RT, RTs]; exact ⟨[], rfl, rfl⟩) (fun _ e => by cases e)
    refine ⟨.skip, undef, w', I, κ'', ?_, rfl, g1, e4.trans g2⟩
    unfold execOp
    rw [ho]
    simp only [Instr.storeAt, Instr.sureAddr, e1, Sem.run_bind, Sem.run_pure, Result.andThen_ok, e2]
  unfold St.wr at hw
  split at hw
  · rename_i t' off
    split at hw
    · rename_i cells hc
      obtain ⟨hle, hw⟩ := cond_some hw
      simp only [Option.some.injEq] at hw
      simp only [RT] at rp
      obtain ⟨bb, hb, ev⟩ := rp
      obtain ⟨w', κ', k1, k2, k3⟩ := write_sound (P := P) hr (f := 0) (t := t') (off := off) (cells := cells) (xs := cellsT v) (st' := st') hc (Nat.le_of_ble_eq_true hle) (by rw [← hw]) (fun f' t'' cs h => by
        rw [← hw] at h; exact obAt_set0 h) ht hm c1 c2 hl hb
      exact fin bb off w' κ' ev k1 k2 k3
    · cases hw
  · rename_i f t' off
    split at hw
    · rename_i ob hob
      split at hw
      · rename_i cells hc
        obtain ⟨hle, hw⟩ := cond_some hw
        simp only [Bool.and_eq_true] at hle
        simp only [Option.some.injEq] at hw
        simp only [RT] at rp
        obtain ⟨bb, hb, ev⟩ := rp
        have e0 : 0 + 1 + f = f + 1 := by omega
        rw [e0] at hb
        obtain ⟨w', κ', k1, k2, k3⟩ := write_sound (P := P) hr (f := f + 1) (t := t') (off := off) (cells := cells) (xs := cellsT v) (st' := st') (by simp only [obAt, hob]; exact hc) (Nat.le_of_ble_eq_true hle.1) (by rw [← hw]) (fun f' t'' cs h => by
          rw [← hw] at h; exact obAt_setS h) ht hm (still_frames hle.2 c1) c2 hl hb
        exact fin bb off w' κ' ev k1 k2 k3
      · cases hw
    · cases hw
  · cases hw

end
end Go.Eng
namespace Go.Eng
open Go.RowKit

section
variable {P : Program} {w0 : World} {n : Nat}

/-- The values behind an address, from the address on, as seen from here. -/
theorem at_sound {I : Fz} {κ : Km} {st : St} {tm : Array Value} {w : World} (hr : Rel w0 n I κ st tm w) {p : T} {v : Value} {cells : List T} (hp : RT I κ w 0 none p v) (hc : st.at p = some cells) :
    ∃ b o us, v = .pointer (some ⟨b, o, none⟩) ∧ PW I κ w 0 cells us ∧ ∀ (j : Nat) (u : Value), us[j]? = some u → w.cell? ⟨b, o + j, none⟩ = some u := by
  unfold St.at at hc
  split at hc
  · rename_i t off
    simp only [Option.map_eq_some_iff] at hc
    obtain ⟨cs0, hc, rfl⟩ := hc
    simp only [RT] at hp
    obtain ⟨b, hb, rfl⟩ := hp
    obtain ⟨b', cs, ty, e1, e2, e3, e4, e5⟩ := addr_sound hr (f := 0) (t := t) hc
    rw [hb] at e1
    cases e1
    have hpw : PW I κ w 0 cs0 cs.toList := ⟨by simpa using e4, fun j x hx => by
      obtain ⟨u, g1, g2, g3⟩ := e5 j x hx
      exact ⟨u, _, by simpa using g1, g2, g3⟩⟩
    refine ⟨b, off, cs.toList.drop off, rfl, hpw.drop off, fun j u hu => ?_⟩
    rw [List.getElem?_drop] at hu
    rw [cell_of_heap e3]
    simpa using hu
  · rename_i f t off
    split at hc
    · rename_i ob hob
      split at hc
      · rename_i cs0 hcs
        simp only [RT] at hp
        obtain ⟨b, hb, rfl⟩ := hp
        have e0 : 0 + 1 + f = f + 1 := by omega
        rw [e0] at hb
        obtain ⟨b', cs, ty, e1, e2, e3, e4, e5⟩ := addr_sound hr (f := f + 1) (t := t) (cells := cs0) (by simp only [obAt, hob]; exact hcs)
        rw [hb] at e1
        cases e1
        have len : ∀ {m : Nat} {l ys : List T}, shs m l = some ys → ys.length = l.length := by
          intro m l
          induction l with
          | nil => intro ys h; simp only [shs, Option.some.injEq] at h; subst h; rfl
          | cons x l ih =>
            intro ys h
            simp only [shs] at h
            split at h
            · simp only [Option.some.injEq] at h; subst h; simp [ih ‹_›]
            · cases h
        have get : ∀ {m : Nat} {l ys : List T} {j : Nat} {y : T}, shs m l = some ys → ys[j]? = some y → ∃ x, l[j]? = some x ∧ sh m x = some y := by
          intro m l
          induction l with
          | nil => intro ys j y h hy; simp only [shs, Option.some.injEq] at h; subst h; simp at hy
          | cons x l ih =>
            intro ys j y h hy
            simp only [shs] at h
            split at h
            · rename_i y' ys' h1 h2
              simp only [Option.some.injEq] at h; subst h
              cases j with
              | zero => simp at hy; subst hy; exact ⟨x, rfl, h1⟩
              | succ j => obtain ⟨z, g1, g2⟩ := ih (j := j) h2 (by simpa using hy); exact ⟨z, by simpa using g1, g2⟩
            · cases h
        refine ⟨b, off, cs.toList.drop off, rfl, ⟨by rw [len hc]; simp [e4], fun j y hy => ?_⟩, fun j u hu => ?_⟩
        · obtain ⟨x, g1, g2⟩ := get hc hy
          rw [List.getElem?_drop] at g1
          obtain ⟨u, k1, k2, k3⟩ := e5 _ x g1
          refine ⟨u, none, by rw [List.getElem?_drop]; simpa using k1, k2, ?_⟩
          have k4 : RT I (fun q => κ ⟨q.fr + (f + 1), q.k, q.t, q.j⟩) w 0 (κ ⟨f + 1, 2, t, off + j⟩) x u := RT.mono (Fz.le_refl I) (fun g t => by simp only [Nat.zero_add]; rw [Nat.add_comm]) (fun _ _ => ⟨rfl, rfl⟩) k3
          exact sh_sound (κ' := κ) (fun g t => rfl) k4 g2
        · rw [List.getElem?_drop] at hu
          rw [cell_of_heap e3]
          simpa using hu
      · cases hc
    · cases hc
  · rename_i row off
    simp only [Option.some.injEq] at hc
    subst hc
    simp only [RT] at hp
    obtain ⟨b, o, vs, rfl, h1, h2⟩ := hp
    refine ⟨b, o + off, vs.drop off, rfl, by rw [List.map_drop]; exact (PW.of_cells h1).drop off, fun j u hu => ?_⟩
    apply hr.sat
    rw [List.getElem?_drop] at hu
    rw [← h2] at hu
    unfold cut at hu
    rw [List.getElem?_take] at hu
    split at hu
    · rw [List.getElem?_drop] at hu
      rw [Nat.add_assoc]; exact hu
    · cases hu
  · cases hc

theorem s_load {o : Oper} {st : St} {t : TypeId} {a : Operand} {x : Opd} {p v : T} {m : Nat} {agg : Bool} {cells : List T} (ho : o.op = .load t a) (hd : ∀ d, o.dst = some d → d < n) (h1 : matchO a x = true) (hp : st.opd x = some p) (hm : m ≠ 0) (ht : P.cellsOf t = m)
    (hagg : aggOf P t = some agg) (hone : agg = false → m = 1) (hc : st.at p = some cells) (hv : asVal cells m agg = some v) : StepOK P w0 n o st (st.put o.dst v) := by
  refine StepOK.of_gives hd fun I κ tm w hr => ?_
  obtain ⟨b, o', us, e1, e2, e3⟩ := at_sound hr (hr.opd h1 hp) hc
  have hle : m ≤ us.length := by
    cases agg with
    | true => exact (asVal_agg e2 hv).1
    | false =>
      obtain ⟨u, hu, _⟩ := asVal_one e2 hv
      have := (List.getElem?_eq_some_iff.1 hu).1
      rw [hone rfl]; omega
  obtain ⟨u, g1, g2, g3⟩ := run_loadVar (P := P) ht hm hagg hle e3
  refine .same hr.sat (v := u) ?_ ?_
  · unfold execOp
    rw [ho]
    simp only [Instr.loadAt, Instr.sureAddr, e1, Sem.run_bind, Sem.run_pure, Result.andThen_ok, g1]
  · cases agg with
    | true => rw [g2 rfl]; exact (asVal_agg e2 hv).2
    | false =>
      obtain ⟨u', hu, _, hx⟩ := asVal_one e2 hv
      have := g3 rfl
      rw [hu] at this
      cases this
      exact hx

/-- Whoever holds no array needs no block's name. -/
def notOwn : T → Bool
  | .own .. | .ownb _ => false
  | _ => true

theorem RT.free {I : Fz} {κ : Km} {w : World} {f : Nat} {bo bo' : Option Nat} {x : T} {v : Value} (hx : notOwn x = true) (h : RT I κ w f bo x v) : RT I κ w f bo' x v := by
  cases x <;> simp [notOwn] at hx <;> simpa only [RT] using h

theorem cp_notOwn (x : T) : notOwn (cp x) = true := by cases x <;> rfl

/-- A slot keeps its value, but not the right to append. -/
theorem Rel.weaken {I : Fz} {κ : Km} {st : St} {tm : Array Value} {w : World} (hr : Rel w0 n I κ st tm w) {t : Nat} {x : T} (hx : aget st.tm t = some x) : Rel w0 n I κ { st with tm := aset t (cp x) st.tm } tm w :=
  { below := hr.below, sat := hr.sat, size := hr.size,
    tms := fun u y hy => by
      simp only [aget_aset] at hy
      split at hy
      · rename_i e; subst e
        cases hy
        obtain ⟨v, e1, e2⟩ := hr.tms _ x hx
        exact ⟨v, e1, RT.free (cp_notOwn x) (cp_sound e2)⟩
      · exact hr.tms u y hy,
    objs := hr.objs, inj := hr.inj, own := hr.own }

/-- A name that nobody needs any more. -/
theorem Rel.unkey {I : Fz} {κ : Km} {st : St} {tm : Array Value} {w : World} (hr : Rel w0 n I κ st tm w) {k : Key} (hk : k.k ≠ 0) (h1 : ∀ t x, k = ⟨0, 1, t, 0⟩ → aget st.tm t = some x → notOwn x = true)
    (h2 : ∀ f t j cells x, k = ⟨f, 2, t, j⟩ → obAt st.ob st.ou f t = some cells → cells[j]? = some x → notOwn x = true) : Rel w0 n I (κ.set k none) st tm w := by
  have ko : ∀ f t, (κ.set k none) ⟨f, 0, t, 0⟩ = κ ⟨f, 0, t, 0⟩ := fun f t => Km.set_ne _ _ (by rintro rfl; exact hk rfl)
  have sub : ∀ q b, (κ.set k none) q = some b → κ q = some b := by
    intro q b h
    unfold Km.set at h
    split at h
    · cases h
    · exact h
  refine ⟨hr.below, hr.sat, hr.size, fun t x hx => ?_, fun f t cells hc => ?_, fun q q' b h h' => hr.inj q q' b (sub q b h) (sub q' b h'), fun q b h => hr.own q b (sub q b h)⟩
  · obtain ⟨v, e1, e2⟩ := hr.tms t x hx
    refine ⟨v, e1, ?_⟩
    by_cases e : (⟨0, 1, t, 0⟩ : Key) = k
    · exact RT.free (h1 t x e.symm hx) (e2.key (fun g t => ko _ t))
    · rw [Km.set_ne _ _ e]
      exact e2.key (fun g t => ko _ t)
  · obtain ⟨b, cs, ty, e1, e2, e3, e4, e5⟩ := hr.objs f t cells hc
    refine ⟨b, cs, ty, by rw [ko]; exact e1, e2, e3, e4, fun j x hx => ?_⟩
    obtain ⟨v, g1, g2, g3⟩ := e5 j x hx
    refine ⟨v, g1, g2, ?_⟩
    by_cases e : (⟨f, 2, t, j⟩ : Key) = k
    · exact RT.free (h2 f t j cells x e.symm hc hx) (g3.key (fun g t => ko _ t))
    · rw [Km.set_ne _ _ e]
      exact g3.key (fun g t => ko _ t)

theorem laid_any {I : Fz} {κ : Km} {w : World} {f : Nat} {bo : Option Nat} {x : T} {v : Value} (h : RT I κ w f bo x v) (hb : notOwn x = true → bo = none) : RT I κ w f bo (laid x) v := by
  cases x with
  | nl sz => rw [hb rfl] at h ⊢; exact laid_sound h
  | nlb => rw [hb rfl] at h ⊢; exact laid_sound h
  | _ => exact h

/-- The right to append goes from one name to a slot. -/
theorem Rel.hand {I : Fz} {κ : Km} {st' : St} {tm : Array Value} {w : World} {k : Key} (hr : Rel w0 n I (κ.set k none) st' tm w) {d : Nat} (hd : d < n) {x : T} {v : Value} (inj : ∀ q q' b, κ q = some b → κ q' = some b → q = q') (own : ∀ b, κ k = some b → w0.heap.size ≤ b ∧ b < w.heap.size)
    (hx : RT I (κ.set k none) w 0 (κ k) x v) : Rel w0 n I ((κ.set k none).set ⟨0, 1, d, 0⟩ (κ k)) { st' with tm := aset d x st'.tm } (tm.setIfInBounds d v) w :=
  hr.set hd hx fun b e => ⟨own b e, fun q hq => by
    unfold Km.set at hq
    split at hq
    · cases hq
    · exact absurd (inj q k b hq e) ‹_›⟩

theorem Ext.hand {I : Fz} {κ : Km} {w : World} {k q0 : Key} (h1 : k.fr = 0 ∧ k.k = 1 ∨ k.k = 2) (h2 : q0.fr = 0 ∧ q0.k = 1 ∨ q0.k = 2) : Ext I κ w I ((κ.set k none).set q0 (κ k)) w := by
  refine ⟨Fz.le_refl I, Nat.le_refl _, fun q h3 h4 => ?_, fun _ _ _ => ⟨rfl, rfl⟩, fun q b hq hb => ?_⟩
  · rw [Km.set_ne _ _ (by rintro rfl; omega), Km.set_ne _ _ (by rintro rfl; omega)]
  · unfold Km.set at hq
    split at hq
    · exact .inr fun hp => by have := hp k hq; omega
    · split at hq
      · cases hq
      · exact .inl hq

theorem Ext.unkey {I : Fz} {κ : Km} {w : World} {k : Key} (h1 : k.fr = 0 ∧ k.k = 1 ∨ k.k = 2) : Ext I κ w I (κ.set k none) w := by
  refine ⟨Fz.le_refl I, Nat.le_refl _, fun q h3 h4 => Km.set_ne _ _ (by rintro rfl; omega), fun _ _ _ => ⟨rfl, rfl⟩, fun q b hq hb => ?_⟩
  unfold Km.set at hq
  split at hq
  · cases hq
  · exact .inl hq

theorem laid_own {x : T} (h : notOwn x = false) : laid x = x := by cases x <;> simp [notOwn] at h <;> rfl
theorem cp_free {x : T} (h : notOwn x = true) : cp x = x := by cases x <;> simp [notOwn] at h <;> rfl

theorem s_movO {o : Oper} {st : St} {t d : Nat} {v : T} (ho : o.op = .move (.tmp t) ∨ o.op = .assign (.tmp t)) (hdst : o.dst = some d) (hd : d < n) (htd : t ≠ d) (hv : aget st.tm t = some v) :
    StepOK P w0 n o st { st with tm := aset d (laid v) (aset t (cp v) st.tm) } := by
  intro I κ tm w hr
  obtain ⟨u, e1, e2⟩ := hr.tms t v hv
  have hρ : (⟨tm, []⟩ : Act).eval (.tmp t) = u := by
    show tm.getD t undef = u
    simp [Array.getD_eq_getD_getElem?, e1]
  have run : (execOp (⟨tm, []⟩ : Act).eval o).run P w = .ok (.value u) w := by
    unfold execOp
    rcases ho with ho | ho <;> rw [ho] <;> simp only [hρ] <;> rfl
  have hw := hr.weaken hv
  cases hn : notOwn v with
  | true =>
    refine ⟨_, u, w, I, _, run, rfl, by rw [hdst]; exact hw.set hd (x := laid v) (v := u) (bo := none) (laid_sound (RT.free hn e2)) (fun b e => by cases e), Ext.set (fun b e => by cases e)⟩
  | false =>
    have hu : Rel w0 n I (κ.set ⟨0, 1, t, 0⟩ none) { st with tm := aset t (cp v) st.tm } tm w := hw.unkey (by simp) (fun t' x e h => by
      simp only [Key.mk.injEq, true_and, and_true] at e
      subst e
      have h' : aget (aset t (cp v) st.tm) t = some x := h
      rw [aget_aset, if_pos rfl] at h'
      cases h'
      exact cp_notOwn v) (fun f t' j cells x e => by simp at e)
    have hx : RT I (κ.set ⟨0, 1, t, 0⟩ none) w 0 (κ ⟨0, 1, t, 0⟩) (laid v) u := by
      rw [laid_own hn]
      exact e2.key (fun g t' => Km.set_ne _ _ (by simp))
    exact ⟨_, u, w, I, _, run, rfl, by rw [hdst]; exact hu.hand hd hr.inj (fun b e => hr.own _ b e) hx, Ext.hand (by simp) (by simp)⟩

/-- A cell keeps its value, but not the right to append. -/
theorem Rel.weakenC {I : Fz} {κ : Km} {st st' : St} {tm : Array Value} {w : World} (hr : Rel w0 n I κ st tm w) {f t j : Nat} {cells : List T} {x : T} (hc : obAt st.ob st.ou f t = some cells) (hx : cells[j]? = some x) (hst : st'.tm = st.tm)
    (hob : ∀ f' t' cs, obAt st'.ob st'.ou f' t' = some cs → (f' = f ∧ t' = t ∧ cs = cells.set j (cp x)) ∨ ((f' ≠ f ∨ t' ≠ t) ∧ obAt st.ob st.ou f' t' = some cs)) : Rel w0 n I κ st' tm w :=
  { below := hr.below, sat := hr.sat, size := hr.size, tms := fun u y hy => hr.tms u y (by rw [← hst]; exact hy),
    objs := fun f' t' cs hcs => by
      rcases hob f' t' cs hcs with ⟨rfl, rfl, rfl⟩ | ⟨_, h⟩
      · obtain ⟨b, c, ty, e1, e2, e3, e4, e5⟩ := hr.objs _ _ cells hc
        refine ⟨b, c, ty, e1, e2, e3, by simpa using e4, fun i y hy => ?_⟩
        rw [List.getElem?_set] at hy
        split at hy
        · rename_i e; subst e
          split at hy
          · cases hy
            obtain ⟨v, g1, g2, g3⟩ := e5 _ x hx
            exact ⟨v, g1, g2, RT.free (cp_notOwn x) (RT.cp' g3)⟩
          · cases hy
        · exact e5 i y hy
      · exact hr.objs f' t' cs h,
    inj := hr.inj, own := hr.own }
where
  RT.cp' {I : Fz} {κ : Km} {w : World} {f : Nat} {bo : Option Nat} {x : T} {v : Value} (h : RT I κ w f bo x v) : RT I κ w f none (cp x) v := cp_sound h

theorem run_load1 {w : World} {t : TypeId} {b o : Nat} {u : Value} (ht : P.cellsOf t = 1) (ha : aggOf P t = some false) (h : w.cell? ⟨b, o, none⟩ = some u) : (loadVar t ⟨b, o, none⟩).run P w = .ok u w := by
  unfold loadVar
  simp only [Sem.run_bind, run_agg ha, Result.andThen_ok, Bool.false_eq_true, if_false, run_load, h]

/-- An array is taken out of a variable. -/
theorem take_sound {o : Oper} {st st' : St} {I : Fz} {κ : Km} {tm : Array Value} {w : World} (hr : Rel w0 n I κ st tm w) {ty : TypeId} {a : Operand} (ho : o.op = .load ty a) (ht : P.cellsOf ty = 1) (hagg : aggOf P ty = some false) {d : Nat} (hdst : o.dst = some d) (hd : d < n)
    {f t off b : Nat} {cells : List T} {v : T} (hc : obAt st.ob st.ou f t = some cells) (hv : cells[off]? = some v) (hs : still v = true) (hb : κ ⟨f, 0, t, 0⟩ = some b) (hp : (⟨tm, []⟩ : Act).eval a = .pointer (some ⟨b, off, none⟩)) (hst : st'.tm = st.tm)
    (hob : ∀ f' t' cs, obAt st'.ob st'.ou f' t' = some cs → (f' = f ∧ t' = t ∧ cs = cells.set off (cp v)) ∨ ((f' ≠ f ∨ t' ≠ t) ∧ obAt st.ob st.ou f' t' = some cs))
    (hlook : ∀ cs x, obAt st'.ob st'.ou f t = some cs → cs[off]? = some x → x = cp v) :
    ∃ nx u w' I' κ', (execOp (⟨tm, []⟩ : Act).eval o).run P w = .ok nx w' ∧ nextV nx = some u ∧ Rel w0 n I' κ' (st'.put o.dst (laid v)) (putA tm o.dst u) w' ∧ Ext I κ w I' κ' w' := by
  obtain ⟨b', cs, ty', e1, e2, e3, e4, e5⟩ := addr_sound hr hc
  rw [hb] at e1
  cases e1
  obtain ⟨u, g1, g2, g3⟩ := e5 off v hv
  have run : (execOp (⟨tm, []⟩ : Act).eval o).run P w = .ok (.value u) w := by
    unfold execOp
    rw [ho]
    simp only [Instr.loadAt, Instr.sureAddr, hp, Sem.run_bind, Sem.run_pure, Result.andThen_ok, run_load1 ht hagg (by rw [cell_of_heap e3]; exact g1)]
  have g4 : RT I κ w 0 (κ ⟨f, 2, t, off⟩) v u := still_frame hs g3
  have hw := hr.weakenC hc hv hst hob
  cases hn : notOwn v with
  | true =>
    refine ⟨_, u, w, I, _, run, rfl, by rw [hdst]; exact hw.set hd (x := laid v) (v := u) (bo := none) (laid_sound (RT.free hn g4)) (fun b e => by cases e), Ext.set (fun b e => by cases e)⟩
  | false =>
    have hu : Rel w0 n I (κ.set ⟨f, 2, t, off⟩ none) st' tm w := hw.unkey (by simp) (fun t' x e => by simp at e) (fun f' t' j cs x e hcs hx => by
      simp only [Key.mk.injEq, true_and] at e
      obtain ⟨rfl, rfl, rfl⟩ := e
      rw [hlook cs x hcs hx]
      exact cp_notOwn v)
    have hx : RT I (κ.set ⟨f, 2, t, off⟩ none) w 0 (κ ⟨f, 2, t, off⟩) (laid v) u := by
      rw [laid_own hn]
      exact g4.key (fun g t' => Km.set_ne _ _ (by simp))
    exact ⟨_, u, w, I, _, run, rfl, by rw [hdst]; exact hu.hand hd hr.inj (fun b e => hr.own _ b e) hx, Ext.hand (by simp) (by simp)⟩

theorem set_look {cells : List T} {off : Nat} {v x : T} (h : (cells.set off v)[off]? = some x) : x = v := by
  rw [List.getElem?_set] at h
  rw [if_pos rfl] at h
  split at h
  · exact (Option.some.inj h).symm
  · cases h

theorem lset_at {ob : Ob} {t : Nat} {c : List T} : ∀ {ou : List Ob} {f : Nat}, ou[f]? = some ob → (lsetOb ou f t c)[f]? = some (aset t c ob)
  | [], _, h => by simp at h
  | x :: ou, 0, h => by simp at h; subst h; rfl
  | x :: ou, f + 1, h => by simpa [lsetOb] using lset_at (ou := ou) (f := f) (by simpa using h)

theorem s_loadO0 {o : Oper} {st : St} {ty : TypeId} {a : Operand} {x : Opd} {t off d : Nat} {cells : List T} {v : T} (ho : o.op = .load ty a) (hdst : o.dst = some d) (hd : d < n) (h1 : matchO a x = true) (ht : P.cellsOf ty = 1) (hagg : aggOf P ty = some false)
    (hp : st.opd x = some (.loc t off)) (hc : aget st.ob t = some cells) (hv : cells[off]? = some v) (hs : still v = true) : StepOK P w0 n o st (St.put { st with ob := aset t (cells.set off (cp v)) st.ob } o.dst (laid v)) := by
  intro I κ tm w hr
  have rp := hr.opd h1 hp
  simp only [RT] at rp
  obtain ⟨b, hb, ev⟩ := rp
  exact take_sound (f := 0) (st' := { st with ob := aset t (cells.set off (cp v)) st.ob }) hr ho ht hagg hdst hd hc hv hs hb ev rfl (fun _ _ _ h => obAt_set0 h) (fun cs x h hx => by
    have h' : aget (aset t (cells.set off (cp v)) st.ob) t = some cs := h
    rw [aget_aset, if_pos rfl] at h'
    cases h'
    exact set_look hx)

theorem s_loadO1 {o : Oper} {st : St} {ty : TypeId} {a : Operand} {x : Opd} {f t off d : Nat} {ob : Ob} {cells : List T} {v : T} (ho : o.op = .load ty a) (hdst : o.dst = some d) (hd : d < n) (h1 : matchO a x = true) (ht : P.cellsOf ty = 1) (hagg : aggOf P ty = some false)
    (hp : st.opd x = some (.out f t off)) (hob : st.ou[f]? = some ob) (hc : aget ob t = some cells) (hv : cells[off]? = some v) (hs : still v = true) :
    StepOK P w0 n o st (St.put { st with ou := lsetOb st.ou f t (cells.set off (cp v)) } o.dst (laid v)) := by
  intro I κ tm w hr
  have rp := hr.opd h1 hp
  simp only [RT] at rp
  obtain ⟨b, hb, ev⟩ := rp
  have e0 : 0 + 1 + f = f + 1 := by omega
  rw [e0] at hb
  exact take_sound (f := f + 1) (st' := { st with ou := lsetOb st.ou f t (cells.set off (cp v)) }) hr ho ht hagg hdst hd (by simp only [obAt, hob]; exact hc) hv hs hb ev rfl (fun _ _ _ h => obAt_setS h) (fun cs x h hx => by
    simp only [obAt, lset_at hob] at h
    rw [aget_aset, if_pos rfl] at h
    cases h
    exact set_look hx)

/-- An array is laid into a variable. -/
theorem give_sound {o : Oper} {st st' : St} {I : Fz} {κ : Km} {tm : Array Value} {w : World} (hr : Rel w0 n I κ st tm w) {ty : TypeId} {a : Operand} {s : Nat} (ho : o.op = .store ty a (.tmp s)) (ht : P.cellsOf ty = 1) (hd : ∀ d, o.dst = some d → d < n)
    {f t off b : Nat} {cells : List T} {v : T} (hv : aget st.tm s = some v) (hc : obAt st.ob st.ou f t = some cells) (hl : off + 1 ≤ cells.length) (hs : still v = true) (hb : κ ⟨f, 0, t, 0⟩ = some b) (hp : (⟨tm, []⟩ : Act).eval a = .pointer (some ⟨b, off, none⟩))
    (hst : st'.tm = aset s (cp v) st.tm) (hob : ∀ f' t' cs, obAt st'.ob st'.ou f' t' = some cs → (f' = f ∧ t' = t ∧ cs = splice cells off ([v].map laid)) ∨ ((f' ≠ f ∨ t' ≠ t) ∧ obAt st.ob st.ou f' t' = some cs)) :
    ∃ nx u w' I' κ', (execOp (⟨tm, []⟩ : Act).eval o).run P w = .ok nx w' ∧ nextV nx = some u ∧ Rel w0 n I' κ' (st'.put o.dst (.tup [])) (putA tm o.dst u) w' ∧ Ext I κ w I' κ' w' := by
  obtain ⟨u, e1, e2⟩ := hr.tms s v hv
  have hρ : (⟨tm, []⟩ : Act).eval (.tmp s) = u := by
    show tm.getD s undef = u
    simp [Array.getD_eq_getD_getElem?, e1]
  have ou : oneC u = true := by
    have own : ∀ {bo : Option Nat} {sz : Nat} {l : List (List D)}, Own I w bo sz l u → oneC u = true := by
      intro bo sz l h
      rcases h with ⟨_, rfl, _⟩ | ⟨_, _, _, _, _, _, rfl, _⟩ <;> rfl
    cases v with
    | d x => exact oneC_of_RD (by simpa only [RT] using e2) (by rintro l rfl; simp [still] at hs)
    | nl _ => simp only [RT] at e2; subst e2; rfl
    | nlb => simp only [RT] at e2; subst e2; rfl
    | own sz l => simp only [RT] at e2; exact own e2
    | ownb l => simp only [RT] at e2; exact own e2
    | _ => simp [still] at hs
  have hcells : u.cells = #[u] := by cases u <;> first | rfl | cases ou
  have hw := hr.weaken hv
  have fin : ∀ (w' : World) (κ' : Km), (storeVar ty ⟨b, off, none⟩ u).run P w = .ok () w' → Rel w0 n I κ' st' tm w' → Ext I κ w I κ' w' →
      ∃ nx v w' I' κ', (execOp (⟨tm, []⟩ : Act).eval o).run P w = .ok nx w' ∧ nextV nx = some v ∧ Rel w0 n I' κ' (st'.put o.dst (.tup [])) (putA tm o.dst v) w' ∧ Ext I κ w I' κ' w' := by
    intro w' κ' g2 g3 g4
    obtain ⟨κ'', k1, k2⟩ := g3.put (Gr.refl g3.sat) hd (x := .tup []) (v := undef) (bo := none) (by simp only [RT, RTs]; exact ⟨[], rfl, rfl⟩) (fun _ e => by cases e)
    refine ⟨.skip, undef, w', I, κ'', ?_, rfl, k1, g4.trans k2⟩
    unfold execOp
    rw [ho]
    simp only [Instr.storeAt, Instr.sureAddr, hp, hρ, Sem.run_bind, Sem.run_pure, Result.andThen_ok, g2]
  cases hn : notOwn v with
  | true =>
    obtain ⟨w', κ', k1, k2, k3⟩ := write_sound (P := P) hw (st' := st') (f := f) (t := t) (off := off) (cells := cells) (xs := [v]) (v := u) hc (by simpa using hl) (by rw [hst]) hob ht (by simp) (by rw [hcells]; simp only [RTs]; exact ⟨u, [], rfl, still_frame hs (RT.free hn e2), rfl⟩) (by rw [hcells]; simpa using ou) rfl hb
    exact fin w' κ' k1 k2 k3
  | false =>
    obtain ⟨b', cs, ty', g1, g2, g3, g4, g5⟩ := addr_sound hr hc
    rw [hb] at g1
    cases g1
    obtain ⟨w', c, h1, h2, h3, h4⟩ := run_storeVar (P := P) (v := u) (o := off) ht (by simp) (by rw [hcells]; rfl) g3 (by intro j _ _; simp) (by rw [g4]; exact hl) (by rw [hcells]; simpa using ou)
    have hne : (⟨f, 2, t, off⟩ : Key) ≠ ⟨0, 1, s, 0⟩ := by simp
    have kset : ∀ q : Key, q ≠ ⟨f, 2, t, off⟩ → q ≠ ⟨0, 1, s, 0⟩ → ((κ.set ⟨0, 1, s, 0⟩ none).set ⟨f, 2, t, off⟩ (κ ⟨0, 1, s, 0⟩)) q = κ q := fun q h1 h2 => by rw [Km.set_ne _ _ h1, Km.set_ne _ _ h2]
    have ksub : ∀ q b, ((κ.set ⟨0, 1, s, 0⟩ none).set ⟨f, 2, t, off⟩ (κ ⟨0, 1, s, 0⟩)) q = some b → (q = ⟨f, 2, t, off⟩ ∧ κ ⟨0, 1, s, 0⟩ = some b) ∨ (q ≠ ⟨0, 1, s, 0⟩ ∧ κ q = some b) := by
      intro q b hq
      unfold Km.set at hq
      split at hq
      · exact .inl ⟨‹_›, hq⟩
      · split at hq
        · cases hq
        · exact .inr ⟨‹_›, hq⟩
    obtain ⟨r1, r2⟩ := hw.wrote (st' := st') (κ' := (κ.set ⟨0, 1, s, 0⟩ none).set ⟨f, 2, t, off⟩ (κ ⟨0, 1, s, 0⟩)) hb g2 h2 (by rw [hst]) hob (fun q hq => kset q (by rintro rfl; simp at hq) (by rintro rfl; simp at hq)) (fun f' t' j hne' => kset _ (by simp only [ne_eq, Key.mk.injEq, true_and]; omega) (by simp))
      (fun t' x v' hx' h => by
        by_cases e : t' = s
        · subst e
          have hx'' : aget (aset t' (cp v) st.tm) t' = some x := hx'
          rw [aget_aset, if_pos rfl] at hx''
          cases hx''
          exact RT.free (cp_notOwn v) h
        · rw [kset _ (by simp) (by simpa using e)]; exact h)
      (by rw [h3, g4, splice_length (by simpa using hl)]) (fun j x hx => by
        rw [splice_get (by simpa using hl)] at hx
        rw [h4]
        simp only [List.map_cons, List.map_nil, List.length_cons, List.length_nil, Nat.zero_add] at hx
        split at hx
        · rename_i hj
          have hj' : j = off := by omega
          subst hj'
          simp at hx
          subst hx
          refine ⟨u, by rw [if_pos hj, hcells]; simp, ou, ?_⟩
          rw [Km.set_self, laid_own hn]
          exact still_frame hs e2
        · rename_i hj
          obtain ⟨z, k1, k2, k3⟩ := g5 j x hx
          refine ⟨z, by rw [if_neg hj]; exact k1, k2, ?_⟩
          rw [kset _ (by simp; omega) (by simp)]
          exact k3)
      (fun q q' b' hq hq' => by
        rcases ksub q b' hq with ⟨q1, q2⟩ | ⟨q1, q2⟩ <;> rcases ksub q' b' hq' with ⟨q3, q4⟩ | ⟨q3, q4⟩
        · rw [q1, q3]
        · exact absurd (hr.inj _ _ _ q4 q2) q3
        · exact absurd (hr.inj _ _ _ q2 q4) q1
        · exact hr.inj _ _ _ q2 q4)
      (fun q b' hq => by
        rcases ksub q b' hq with ⟨q1, q2⟩ | ⟨q1, q2⟩
        · exact .inr ⟨_, q2, by simp⟩
        · exact .inl q2)
      (fun q q1 q2 => kset q (by rintro rfl; simp at q2) (by rintro rfl; simp at q1))
    exact fin w' _ h1 r1 r2

theorem s_storeO {o : Oper} {st st' : St} {ty : TypeId} {a : Operand} {x : Opd} {p v : T} {s : Nat} (ho : o.op = .store ty a (.tmp s)) (hd : ∀ d, o.dst = some d → d < n) (h1 : matchO a x = true) (ht : P.cellsOf ty = 1) (hp : st.opd x = some p) (hv : aget st.tm s = some v)
    (hs : still v = true) (hw : St.wr { st with tm := aset s (cp v) st.tm } p [v] = some st') : StepOK P w0 n o st (st'.put o.dst (.tup [])) := by
  intro I κ tm w hr
  have rp := hr.opd h1 hp
  unfold St.wr at hw
  split at hw
  · rename_i t' off
    split at hw
    · rename_i cells hc
      obtain ⟨hle, hw⟩ := cond_some hw
      simp only [Option.some.injEq] at hw
      simp only [RT] at rp
      obtain ⟨bb, hb, ev⟩ := rp
      exact give_sound hr ho ht hd (f := 0) (t := t') hv hc (by simpa using Nat.le_of_ble_eq_true hle) hs hb ev (by rw [← hw]) (fun f' t'' cs h => by rw [← hw] at h; exact obAt_set0 h)
    · cases hw
  · rename_i f t' off
    split at hw
    · rename_i ob hob
      split at hw
      · rename_i cells hc
        obtain ⟨hle, hw⟩ := cond_some hw
        simp only [Bool.and_eq_true] at hle
        simp only [Option.some.injEq] at hw
        simp only [RT] at rp
        obtain ⟨bb, hb, ev⟩ := rp
        have e0 : 0 + 1 + f = f + 1 := by omega
        rw [e0] at hb
        have hob' : st.ou[f]? = some ob := hob
        exact give_sound hr ho ht hd (f := f + 1) (t := t') hv (by simp only [obAt, hob']; exact hc) (by simpa using Nat.le_of_ble_eq_true hle.1) hs hb ev (by rw [← hw]) (fun f' t'' cs h => by rw [← hw] at h; exact obAt_setS h)
      · cases hw
    · cases hw
  · cases hw

end
end Go.Eng
namespace Go.Eng
open Go.RowKit

section
variable {P : Program} {w0 : World} {n : Nat}

theorem cut_add (blk : List Value) (o a b : Nat) (h : (cut blk o a).length = a) : cut blk o (a + b) = cut blk o a ++ cut blk (o + a) b := by
  unfold cut at *
  rw [List.take_add, List.drop_drop]

theorem rows_cut {I : Fz} {sz : Nat} {blk : List Value} : ∀ {rows : List (List D)} {o : Nat}, RRows I sz blk o rows →
    (cut blk o (rows.length * sz)).length = rows.length * sz ∧ ∀ (I' : Fz) (pre : List Value), Fz.le I I' → RRows I' sz (pre ++ cut blk o (rows.length * sz)) pre.length rows
  | [], o, _ => by simp [cut, RRows]
  | row :: rows, o, h => by
    simp only [RRows] at h
    obtain ⟨h1, ⟨vs, h2, h3⟩, h4⟩ := h
    obtain ⟨k1, k2⟩ := rows_cut h4
    have hl : (cut blk o sz).length = sz := by rw [h3, h2.length, h1]
    have e : cut blk o ((row :: rows).length * sz) = cut blk o sz ++ cut blk (o + sz) (rows.length * sz) := by
      rw [List.length_cons, Nat.succ_mul, Nat.add_comm, cut_add _ _ _ _ hl]
    rw [e]
    refine ⟨by rw [List.length_append, hl, k1, List.length_cons, Nat.succ_mul, Nat.add_comm], fun I' pre hle => ?_⟩
    simp only [RRows]
    refine ⟨h1, ⟨vs, h2.mono hle, ?_⟩, ?_⟩
    · show cut (pre ++ (cut blk o sz ++ _)) pre.length sz = vs
      unfold cut at *
      rw [List.drop_left, List.take_left' hl, h3]
    · have := k2 I' (pre ++ cut blk o sz) hle
      rw [List.length_append, hl, List.append_assoc] at this
      exact this

theorem rrows_append {I : Fz} {sz : Nat} {blk : List Value} : ∀ {l m : List (List D)} {o : Nat}, RRows I sz blk o l → RRows I sz blk (o + l.length * sz) m → RRows I sz blk o (l ++ m)
  | [], m, o, _, k => by simpa using k
  | row :: l, m, o, h, k => by
    simp only [RRows] at h
    simp only [List.cons_append, RRows]
    refine ⟨h.1, h.2.1, rrows_append h.2.2 ?_⟩
    rw [List.length_cons, Nat.succ_mul, Nat.add_comm (l.length * sz), ← Nat.add_assoc] at k
    exact k

/-- What is appended: so many rows, these cells. -/
structure Src (P : Program) (w : World) (I : Fz) (sz : Nat) (u : Value) (rows : List (List D)) (news : List Value) : Prop where
  len : ∀ w', (Builtin.lenOf u).run P w' = .ok rows.length w'
  cells : ∀ w', w'.heap = w.heap → (Builtin.firstCells sz rows.length u).run P w' = .ok news.toArray w'
  size : news.length = rows.length * sz
  rel : ∀ (I' : Fz) (pre : List Value), Fz.le I I' → RRows I' sz (pre ++ news) pre.length rows
  one : ∀ v ∈ news, oneC v = true

theorem RRows.oneC {I : Fz} {sz : Nat} {blk : List Value} : ∀ {rows : List (List D)} {o : Nat}, RRows I sz blk o rows → ∀ v ∈ cut blk o (rows.length * sz), Eng.oneC v = true
  | [], o, _, v, hv => by simp [cut] at hv
  | row :: rows, o, h, v, hv => by
    simp only [RRows] at h
    obtain ⟨h1, ⟨vs, h2, h3⟩, h4⟩ := h
    have hl : (cut blk o sz).length = sz := by rw [h3, h2.length, h1]
    have e : cut blk o ((row :: rows).length * sz) = cut blk o sz ++ cut blk (o + sz) (rows.length * sz) := by
      rw [List.length_cons, Nat.succ_mul, Nat.add_comm, cut_add _ _ _ _ hl]
    rw [e, List.mem_append] at hv
    rcases hv with hv | hv
    · rw [h3] at hv
      exact (RTs.of_cells (κ := fun _ => none) (w := default) (f := 0) h2).2 v hv
    · exact RRows.oneC h4 v hv

theorem load_cut {w w' : World} {I : Fz} (hs : Sat I w) (hw : w'.heap = w.heap) (b o m : Nat) (h : (cut (I b) o m).length = m) : (loadCells ⟨b, o, none⟩ m).run P w' = .ok (cut (I b) o m).toArray w' := by
  have := run_loadCells_list (P := P) w' ⟨b, o, none⟩ (cut (I b) o m) (fun j v hv => by
    rw [add_none]
    unfold cut at hv
    rw [List.getElem?_take] at hv
    split at hv
    · rw [List.getElem?_drop] at hv
      have := hs b (o + j) v hv
      unfold World.cell? at *
      rw [hw]; exact this
    · cases hv)
  rwa [h] at this

theorem src_sl {w : World} {I : Fz} (hs : Sat I w) {sz : Nat} {rows : List (List D)} {u : Value} (h : RD I (.sl sz rows) u) : ∃ news, Src P w I sz u rows news := by
  simp only [RD] at h
  obtain ⟨A, c, rfl, hlc, hor⟩ := h
  by_cases hr : rows = []
  · subst hr
    refine ⟨[], fun w' => rfl, fun w' hw => ?_, by simp, fun _ _ _ => by simp [RRows], by simp⟩
    cases A with
    | none => simp [Builtin.firstCells]
    | some a => simp [Builtin.firstCells, loadCells, loadCellsFrom]
  · obtain ⟨b, o, rfl, h⟩ := hor.resolve_left hr
    obtain ⟨k1, k2⟩ := rows_cut h
    exact ⟨_, fun w' => rfl, fun w' hw => by simp only [Builtin.firstCells]; exact load_cut hs hw b o _ k1, k1, k2, h.oneC⟩

theorem bytes_rel (I : Fz) (l : List UInt8) (pre : List Value) : RRows I 1 (pre ++ l.map byteV) pre.length (l.map byteRow) := rrows_bytes I l pre

theorem src_bs {w : World} {I : Fz} (hs : Sat I w) {l : List UInt8} {u : Value} (h : RD I (.bs l) u) : ∃ news, Src P w I 1 u (l.map byteRow) news := by
  simp only [RD] at h
  obtain ⟨A, c, rfl, hlc, hor⟩ := h
  refine ⟨l.map byteV, fun w' => by rw [List.length_map]; rfl, fun w' hw => ?_, by simp, fun I' pre _ => bytes_rel I' l pre, by simp [oneC, byteV]⟩
  by_cases hr : l = []
  · subst hr
    cases A with
    | none => simp [Builtin.firstCells]
    | some a => simp [Builtin.firstCells, loadCells, loadCellsFrom]
  · obtain ⟨b, o, rfl, h⟩ := hor.resolve_left hr
    simp only [Builtin.firstCells, List.length_map, Nat.mul_one]
    rw [← h]
    exact load_cut hs hw b o _ (by rw [h]; simp)

theorem src_s {w : World} {I : Fz} {l : List UInt8} {u : Value} (h : RD I (.s l) u) : ∃ news, Src P w I 1 u (l.map byteRow) news := by
  simp only [RD] at h
  subst h
  refine ⟨l.map byteV, fun w' => by simp [Builtin.lenOf, bytes_size], fun w' hw => ?_, by simp, fun I' pre _ => bytes_rel I' l pre, by simp [oneC, byteV]⟩
  simp only [Builtin.firstCells, List.length_map, bytes_extract, Sem.run_pure]
  congr 1
  simp [byteV, List.take_length]

def elemP (P : Program) (sz lim : Nat) (e : TypeId) : Bool := sized P sz e && match P.info? e with
  | some it => (match it.zero with | some z => Nat.beq z.cells.size sz | none => false) && !Nat.beq it.bytes 0 && decide (lim * it.bytes ≤ 2 ^ 47)
  | none => false

def appP (P : Program) (sz lim : Nat) (sT xT : TypeId) : Bool := sliceP P sT (elemP P sz lim) && match P.underlying xT with
  | some (.slice _) | some .string => true
  | _ => false

structure AppT (P : Program) (sz lim : Nat) (sT xT e : TypeId) : Prop where
  und : P.underlying sT = some (.slice e)
  size : P.cellsOf e = sz
  pos : sz ≠ 0
  info : ∃ it z, P.info? e = some it ∧ it.zero = some z ∧ z.cells.size = sz ∧ it.bytes ≠ 0 ∧ lim * it.bytes ≤ 2 ^ 47
  src : ∃ d, P.underlying xT = some d ∧ ((∃ e', d = .slice e') ∨ d = .string)

theorem appP_some {sz lim : Nat} {sT xT : TypeId} (h : appP P sz lim sT xT = true) : ∃ e, AppT P sz lim sT xT e := by
  simp only [appP, Bool.and_eq_true] at h
  obtain ⟨e, h1, h2⟩ := sliceP_some h.1
  simp only [elemP, Bool.and_eq_true] at h2
  obtain ⟨h3, h4⟩ := sized_some h2.1
  refine ⟨e, h1, h3, h4, ?_, ?_⟩
  · have h5 := h2.2
    split at h5
    · rename_i it hi
      simp only [Bool.and_eq_true, decide_eq_true_eq, Bool.not_eq_true'] at h5
      obtain ⟨⟨h6, h7⟩, h8⟩ := h5
      split at h6
      · rename_i z hz
        exact ⟨it, z, hi, hz, nbeq_eq h6, nbeq_of h7, h8⟩
      · cases h6
    · cases h5
  · have h5 := h.2
    split at h5
    · rename_i d hd
      exact ⟨_, hd, .inl ⟨_, rfl⟩⟩
    · rename_i hd
      exact ⟨_, hd, .inr rfl⟩
    · cases h5

/-- In place: there is room. -/
theorem run_app_in {w : World} {I : Fz} {sz lim : Nat} {sT xT e ty : TypeId} (ht : AppT P sz lim sT xT e) {b k c : Nat} {u : Value} {rows : List (List D)} {news : List Value} (hsrc : Src P w I sz u rows news) (hroom : k + rows.length ≤ c)
    {cs : Array Value} {bt : TypeId} {fz : Nat × Nat} (hb : w.heap[b]? = some (.cells cs bt fz)) (hcs : cs.size = c * sz) (hf : unfrozen fz cs.size) :
    ∃ w' c', (Builtin.append_ #[sT, xT] ty #[.slice (some ⟨b, 0, none⟩) k c, u]).run P w = .ok (.slice (some ⟨b, 0, none⟩) (k + rows.length) c) w' ∧ Wrote w b c' bt fz w' ∧ c'.size = cs.size ∧
      ∀ j, c'[j]? = if k * sz ≤ j ∧ j < k * sz + news.length then news[j - k * sz]? else cs[j]? := by
  have hle : k * sz + news.length ≤ cs.size := by
    rw [hsrc.size, ← Nat.add_mul, hcs]
    exact Nat.mul_le_mul_right _ hroom
  obtain ⟨w', c', h1, h2, h3, h4⟩ := run_storeCells (P := P) news w b (k * sz) 0 cs bt fz hb (fun j _ hj => hf j (by omega)) (by omega) hsrc.one
  refine ⟨w', c', ?_, h2, h3, h4⟩
  unfold Builtin.append_
  simp only [List.getElem?_toArray, List.getElem?_cons_zero, List.getElem?_cons_succ, Sem.run_bind, run_und ht.und, Result.andThen_ok, run_size ht.size ht.pos]
  obtain ⟨d, hd, hk⟩ := ht.src
  simp only [run_und hd, Result.andThen_ok]
  rcases hk with ⟨e', rfl⟩ | rfl <;>
    simp only [Result.andThen_ok, Bool.false_eq_true, if_false, hsrc.len, Bool.not_false, if_true, if_pos hroom, Sem.run_bind, Sem.run_pure, hsrc.cells w rfl, add_none, Nat.zero_add, h1]

/-- Nothing onto nothing. -/
theorem run_app_none {w : World} {I : Fz} {sz lim : Nat} {sT xT e ty : TypeId} (ht : AppT P sz lim sT xT e) {u : Value} {rows : List (List D)} {news : List Value} (hsrc : Src P w I sz u rows news) (h0 : rows = []) :
    (Builtin.append_ #[sT, xT] ty #[.slice none 0 0, u]).run P w = .ok (.slice none 0 0) w := by
  subst h0
  unfold Builtin.append_
  simp only [List.getElem?_toArray, List.getElem?_cons_zero, List.getElem?_cons_succ, Sem.run_bind, run_und ht.und, Result.andThen_ok, run_size ht.size ht.pos]
  obtain ⟨d, hd, hk⟩ := ht.src
  simp only [run_und hd, Result.andThen_ok]
  have hl := hsrc.len
  simp only [List.length_nil] at hl
  have hc := hsrc.cells w rfl
  simp only [List.length_nil] at hc
  rcases hk with ⟨e', rfl⟩ | rfl <;>
    simp only [Result.andThen_ok, Bool.false_eq_true, if_false, hl, Bool.not_false, if_true, Nat.le_refl, Nat.add_zero, Sem.run_bind, Sem.run_pure, hc]

/-- A new array. -/
theorem run_app_grow {w : World} {I : Fz} {sz lim : Nat} {sT xT e ty : TypeId} (ht : AppT P sz lim sT xT e) {A : Option Addr} {k c : Nat} {u : Value} {rows : List (List D)} {old news : List Value} (hsrc : Src P w I sz u rows news) (hroom : ¬ k + rows.length ≤ c) (hlim : k + rows.length ≤ lim)
    (hold : ∀ w', w'.heap = w.heap → (Builtin.firstCells sz k (.slice A k c)).run P w' = .ok old.toArray w') (hlen : old.length = k * sz) :
    ∃ cap cs, (Builtin.append_ #[sT, xT] ty #[.slice A k c, u]).run P w = .ok (.slice (some ⟨w.heap.size, 0, none⟩) (k + rows.length) cap) { w with drawn := w.drawn + 1, heap := w.heap.push (.cells cs e (0, 0)) } ∧
      k + rows.length ≤ cap ∧ cs.size = cap * sz ∧ old ++ news <+: cs.toList := by
  obtain ⟨it, z, hi, hz, hzs, hb, hl⟩ := ht.info
  let q : Question := .appendCap (k + rows.length) c e
  let cap := q.cut (w.tape w.drawn q)
  have hcap : k + rows.length ≤ cap := by show k + rows.length ≤ (k + rows.length) + _; omega
  let rest := Builtin.zeroCells z.cells (cap - (k + rows.length))
  have hrest : rest.size = (cap - (k + rows.length)) * sz := by simp [rest, Builtin.zeroCells, hzs]
  have hfit : ¬ (Builtin.nextslicecap (k + rows.length) c * it.bytes > 2 ^ 48) := by
    have := growslice_fits (need := k + rows.length) (old := c) (bytes := it.bytes) (by omega) (Nat.le_trans (Nat.mul_le_mul_right _ hlim) hl)
    omega
  refine ⟨cap, old.toArray ++ news.toArray ++ rest, ?_, hcap, ?_, ⟨rest.toList, by simp⟩⟩
  · unfold Builtin.append_
    simp only [List.getElem?_toArray, List.getElem?_cons_zero, List.getElem?_cons_succ, Sem.run_bind, run_und ht.und, Result.andThen_ok, run_size ht.size ht.pos]
    obtain ⟨d, hd, hk⟩ := ht.src
    simp only [run_und hd, Result.andThen_ok]
    have h1 : ∀ (w' : World), w'.heap = w.heap → (Builtin.firstCells sz k (.slice A k c)).run P w' = .ok old.toArray w' := hold
    have h3 : ¬ (((k + rows.length : Nat) : Int) > IntKind.i64.max ∧ (false = true ∨ it.bytes = 0)) := fun h => by
      rcases h.2 with h | h
      · cases h
      · exact hb h
    rcases hk with ⟨e', rfl⟩ | rfl <;>
      simp only [Result.andThen_ok, Bool.false_eq_true, if_false, hsrc.len, Bool.not_false, if_true, if_neg hroom, Sem.run_bind, Sem.run_pure, typeInfo, run_program, hi, if_neg h3, if_neg hfit, false_or, if_neg (fun h : _ ∧ _ => hb h.2), run_choose, Question.forced, run_askRoom,
        hold { w with drawn := w.drawn + 1 } rfl, hsrc.cells { w with drawn := w.drawn + 1 } rfl, zeroValue, hz, newRow, run_newObj] <;> rfl
  · simp only [Array.size_append, List.size_toArray, hlen, hsrc.size, hrest]
    rw [← Nat.add_mul, ← Nat.add_mul]
    congr 1
    omega

theorem app_own {w : World} {I : Fz} (hs : Sat I w) {sz lim : Nat} {sT xT e ty : TypeId} (ht : AppT P sz lim sT xT e) {bo : Option Nat} {l m : List (List D)} {v u : Value} {news : List Value} (hv : Own I w bo sz l v) (hsrc : Src P w I sz u m news) (hlim : l.length + m.length ≤ lim) :
    (∃ x w' I' bo', (Builtin.append_ #[sT, xT] ty #[v, u]).run P w = .ok x w' ∧ Gr I w I' w' ∧ Own I' w' bo' sz (l ++ m) x ∧ ∀ b, bo' = some b → w.heap.size ≤ b ∧ b < w'.heap.size) ∨
    (∃ b x w' c' bt fz, bo = some b ∧ (Builtin.append_ #[sT, xT] ty #[v, u]).run P w = .ok x w' ∧ Wrote w b c' bt fz w' ∧ I b ++ news <+: c'.toList ∧ Own (I.set b (I b ++ news)) w' (some b) sz (l ++ m) x) := by
  rcases hv with ⟨rfl, rfl, rfl⟩ | ⟨b, c, cs, bt, fz, rfl, rfl, hle, hrows, hIl, hb, hcs, hfz⟩
  · refine .inl ?_
    by_cases hm : m = []
    · subst hm
      exact ⟨_, w, I, none, run_app_none ht hsrc rfl, Gr.refl hs, .inl ⟨rfl, rfl, rfl⟩, fun b e => by cases e⟩
    · obtain ⟨cap, cs, h1, h2, h3, h4⟩ := run_app_grow (ty := ty) ht (A := none) (k := 0) (c := 0) (old := []) hsrc (by
        have := List.length_pos_iff.2 hm; omega) (by simpa using hlim) (fun w' _ => rfl) (by simp)
      simp only [Nat.zero_add, List.nil_append] at *
      have hs1 : Sat I { w with drawn := w.drawn + 1 } := (Gr.drawn hs _).sat
      obtain ⟨g, hown⟩ := own_new hs1 cs e (0, 0) sz cap m news h4 hsrc.size h3 h2 (fun o _ h => by simp at h) (fun I' hI' => by have := hsrc.rel I' [] hI'; simpa using this)
      exact ⟨_, _, _, some w.heap.size, h1, (Gr.drawn hs _).trans g, hown, fun b e => by cases e; exact ⟨Nat.le_refl _, by simp only [Array.size_push]; exact Nat.lt_succ_self _⟩⟩
  · have hcut : cut (I b) 0 (l.length * sz) = I b := by unfold cut; rw [List.drop_zero, ← hIl, List.take_length]
    by_cases hroom : l.length + m.length ≤ c
    · refine .inr ?_
      obtain ⟨w', c', h1, h2, h3, h4⟩ := run_app_in (ty := ty) ht hsrc hroom hb hcs hfz
      have hpre : I b ++ news <+: c'.toList := by
        rw [List.prefix_iff_eq_take]
        apply List.ext_getElem?
        intro j
        have hfit : (I b ++ news).length ≤ c'.size := by
          rw [List.length_append, hIl, hsrc.size, h3, hcs, ← Nat.add_mul]
          exact Nat.mul_le_mul_right _ hroom
        rw [List.getElem?_take]
        split
        · rename_i hj
          rw [show c'.toList[j]? = c'[j]? from Array.getElem?_toList, h4 j]
          rw [List.length_append, hIl] at hj
          by_cases h5 : j < (I b).length
          · rw [List.getElem?_append_left h5, if_neg (by omega)]
            have := hs b j _ (List.getElem?_eq_getElem h5)
            rw [cell_of_heap hb] at this
            rw [this, List.getElem?_eq_getElem h5]
          · rw [List.getElem?_append_right (by omega), hIl, if_pos (by omega)]
        · rename_i hj
          exact List.getElem?_eq_none (by omega)
      refine ⟨b, _, w', c', bt, fz, rfl, h1, h2, hpre, .inr ⟨b, c, c', bt, fz, rfl, by rw [List.length_append], by rw [List.length_append]; exact hroom, ?_, ?_, h2.here, by rw [h3, hcs], by rw [h3]; exact hfz⟩⟩
      · have hle' : Fz.le I (I.set b (I b ++ news)) := by
          intro b'
          unfold Fz.set
          split
          · rename_i e; subst e; exact List.prefix_append _ _
          · exact List.prefix_refl _
        have e1 : (I.set b (I b ++ news)) b = I b ++ news := by simp [Fz.set]
        rw [e1]
        refine rrows_append (RRows.mono hle' (List.prefix_append _ _) hrows) ?_
        have := hsrc.rel _ (I b) hle'
        rw [hIl] at this
        simpa using this
      · simp only [Fz.set, if_true, List.length_append, hIl, hsrc.size, Nat.add_mul]
    · refine .inl ?_
      have hold : ∀ w', w'.heap = w.heap → (Builtin.firstCells sz l.length (.slice (some ⟨b, 0, none⟩) l.length c)).run P w' = .ok (I b).toArray w' := fun w' hw => by
        have := load_cut (P := P) hs hw b 0 (l.length * sz) (by rw [hcut]; exact hIl)
        rw [hcut] at this
        exact this
      obtain ⟨cap, cs', h1, h2, h3, h4⟩ := run_app_grow (ty := ty) ht hsrc hroom hlim hold hIl
      have hs1 : Sat I { w with drawn := w.drawn + 1 } := (Gr.drawn hs _).sat
      obtain ⟨g, hown⟩ := own_new hs1 cs' e (0, 0) sz cap (l ++ m) (I b ++ news) h4 (by rw [List.length_append, hIl, hsrc.size, List.length_append, Nat.add_mul]) h3 (by rw [List.length_append]; exact h2) (fun o _ h => by simp at h) (fun I' hI' => by
        refine rrows_append (RRows.mono hI' (List.prefix_append _ _) hrows) ?_
        have := hsrc.rel I' (I b) hI'
        rw [hIl] at this
        simpa using this)
      rw [List.length_append] at hown
      exact ⟨_, _, _, some w.heap.size, h1, (Gr.drawn hs _).trans g, hown, fun b e => by cases e; exact ⟨Nat.le_refl _, by simp only [Array.size_push]; exact Nat.lt_succ_self _⟩⟩

/-- An array that nobody names any more is prolonged in its place. -/
theorem Rel.inplace {I : Fz} {κ : Km} {st : St} {tm : Array Value} {w w' : World} (hr : Rel w0 n I κ st tm w) {b : Nat} (hb0 : w0.heap.size ≤ b) (hk : ∀ q, κ q ≠ some b) {c : Array Value} {bt : TypeId} {fz : Nat × Nat} (hw : Wrote w b c bt fz w')
    {l : List Value} (hp : I b <+: l) (hc : l <+: c.toList) : Rel w0 n (I.set b l) κ st tm w' := by
  have hle : Fz.le I (I.set b l) := by
    intro b'
    unfold Fz.set
    split
    · rename_i e; subst e; exact hp
    · exact List.prefix_refl _
  have keep : ∀ {f : Nat} {q : Key} {x : T} {v : Value}, RT I κ w f (κ q) x v → RT (I.set b l) κ w' f (κ q) x v := by
    intro f q x v hx
    refine RT.mono hle (fun _ _ => rfl) (fun b' e => ?_) hx
    have hne : b' ≠ b := by rintro rfl; exact hk q e
    exact ⟨hw.other b' hne, by simp [Fz.set, hne]⟩
  refine ⟨hw.below hr.below hb0, ?_, hr.size, fun t x hx => ?_, fun f t cells hcs => ?_, hr.inj, fun q b' e => by rw [hw.size]; exact hr.own q b' e⟩
  · intro b' o v e
    unfold Fz.set at e
    split at e
    · rename_i hb; subst hb
      rw [cell_of_heap hw.here]
      obtain ⟨r, hr'⟩ := hc
      rw [← Array.getElem?_toList, ← hr', List.getElem?_append_left (List.getElem?_eq_some_iff.1 e).1]
      exact e
    · rename_i hne
      rw [← hr.sat b' o v e]
      simp only [World.cell?, hw.other b' hne]
  · obtain ⟨v, e1, e2⟩ := hr.tms t x hx
    exact ⟨v, e1, keep e2⟩
  · obtain ⟨b', cs, ty, e1, e2, e3, e4, e5⟩ := hr.objs f t cells hcs
    have hne : b' ≠ b := by rintro rfl; exact hk _ e1
    refine ⟨b', cs, ty, e1, by simpa [Fz.set, hne] using e2, by rw [hw.other b' hne]; exact e3, e4, fun j x hx => ?_⟩
    obtain ⟨v, g1, g2, g3⟩ := e5 j x hx
    exact ⟨v, g1, g2, keep g3⟩

/-- What slot t holds grows, in slot d. -/
theorem app_slot {o : Oper} {st : St} {I : Fz} {κ : Km} {tm : Array Value} {w : World} (hr : Rel w0 n I κ st tm w) {sz lim t d : Nat} {sT xT e ty : TypeId} (ht : AppT P sz lim sT xT e) (hdst : o.dst = some d) (hd : d < n) (htd : t ≠ d)
    {x y : T} {l m : List (List D)} {u : Value} {news : List Value} (hx : aget st.tm t = some x) (hxo : ∀ I w bo v, RT I κ w 0 bo x v → Own I w bo sz l v) (hyo : ∀ I κ w bo v, Own I w bo sz (l ++ m) v → RT I κ w 0 bo y v)
    (hsrc : Src P w I sz u m news) (hlim : l.length + m.length ≤ lim) {s : Sem Next} (hex : ∀ v, tm[t]? = some v → s = (Builtin.append_ #[sT, xT] ty #[v, u] >>= fun r => pure (.value r))) :
    ∃ nx v w' I' κ', s.run P w = .ok nx w' ∧ nextV nx = some v ∧ Rel w0 n I' κ' { st with tm := aset d y (aset t (cp x) st.tm) } (putA tm o.dst v) w' ∧ Ext I κ w I' κ' w' := by
  obtain ⟨v, e1, e2⟩ := hr.tms t x hx
  have hw := hr.weaken hx
  rcases app_own (ty := ty) hr.sat ht (hxo _ _ _ _ e2) hsrc hlim with ⟨z, w', I', bo', h1, g, h2, h3⟩ | ⟨b, z, w', c', bt, fz, hb, h1, h2, h3, h4⟩
  · obtain ⟨κ', k1, k2⟩ := hw.put g (dst := some d) (fun d' e => by cases e; exact hd) (hyo I' κ w' bo' z h2) h3
    refine ⟨.value z, z, w', I', κ', ?_, rfl, by rw [hdst]; exact k1, k2⟩
    rw [hex v e1]
    simp only [Sem.run_bind, h1, Result.andThen_ok, Sem.run_pure]
  · have hu : Rel w0 n I (κ.set ⟨0, 1, t, 0⟩ none) { st with tm := aset t (cp x) st.tm } tm w := hw.unkey (by simp) (fun t' x' e h => by
      simp only [Key.mk.injEq, true_and, and_true] at e
      subst e
      have h' : aget (aset t (cp x) st.tm) t = some x' := h
      rw [aget_aset, if_pos rfl] at h'
      cases h'
      exact cp_notOwn x) (fun f t' j cells x' e => by simp at e)
    have hnk : ∀ q, (κ.set ⟨0, 1, t, 0⟩ none) q ≠ some b := by
      intro q hq
      unfold Km.set at hq
      split at hq
      · cases hq
      · exact absurd (hr.inj q _ b hq hb) ‹_›
    have hrng := hr.own _ _ hb
    have hi := hu.inplace hrng.1 hnk h2 (List.prefix_append _ _) h3
    have hset := hi.set hd (x := y) (v := z) (bo := some b) (hyo _ _ _ _ _ h4) (fun b' e => by
      cases e
      exact ⟨⟨hrng.1, by rw [h2.size]; exact hrng.2⟩, fun q hq => absurd hq (hnk q)⟩)
    refine ⟨.value z, z, w', _, _, ?_, rfl, by rw [hdst]; exact hset, ?_⟩
    · rw [hex v e1]
      simp only [Sem.run_bind, h1, Result.andThen_ok, Sem.run_pure]
    · refine ⟨?_, Nat.le_of_eq h2.size.symm, fun q g1 g2 => ?_, fun b' hlt hp => ?_, fun q b' hq hlt => ?_⟩
      · intro b'
        unfold Fz.set
        split
        · rename_i e; subst e; exact List.prefix_append _ _
        · exact List.prefix_refl _
      · rw [Km.set_ne _ _ (by rintro rfl; simp at g1), Km.set_ne _ _ (by rintro rfl; simp at g1)]
      · have hne : b' ≠ b := by
          rintro rfl
          have := hp _ hb
          simp at this
        exact ⟨h2.other b' hne, by simp [Fz.set, hne]⟩
      · unfold Km.set at hq
        split at hq
        · cases hq
          exact .inr fun hp => by have := hp _ hb; simp at this
        · split at hq
          · cases hq
          · exact .inl hq

end
end Go.Eng
namespace Go.Eng
open Go.RowKit

def matchB (x : Option Operand) (y : Option Opd) : Bool := match x, y with
  | none, none => true
  | some a, some b => matchO a b
  | _, _ => false

/-- What is compared: interface values that hold integers of type s; structs. Or an operation that is never reached. -/
def eqsP (P : Program) (t : TypeId) (ks : List Nat) : Bool := match ks with
  | [9, s] => undP P t isIface && cmpP P s
  | [8] => true
  | ks => flatT P t ks

/-- A value operation. -/
def matchV (P : Program) (io : IOp) (op : Op) : Bool := match io with
  | .mov x => match op with
    | .move a | .assign a => matchO a x
    | _ => false
  | .nilO _ | .nilB => match op with
    | .move (.const (.slice none 0 0)) | .assign (.const (.slice none 0 0)) => true
    | _ => false
  | .faddr x off => match op with
    | .fieldAddr s a f => matchO a x && fieldP P s f off (fun t => !Nat.beq (P.cellsOf t) 0)
    | _ => false
  | .fld x off n agg => match op with
    | .field s a f => matchO a x && fieldP P s f off (fun t => sized P n t && aggOf P t == some agg)
    | _ => false
  | .iaddr x i sz => match op with
    | .indexAddr t a b => matchO a x && matchO b i && sliceP P t (sized P sz)
    | _ => false
  | .idx x i => match op with
    | .index t a b => matchO a x && matchO b i && undP P t isStr
    | _ => false
  | .slc sz x lo hi => match op with
    | .slice t a lo' hi' none => matchO a x && matchB lo' lo && matchB hi' hi && slcP P sz t && (lo.isSome || hi.isSome)
    | _ => false
  | .bin b x z => match op with
    | .binOp b' _ a c _ => decide (b' = b) && matchO a x && matchO c z
    | _ => false
  | .beqv neg x z => match op with
    | .binOp b' t a c _ => decide (b' = negOp neg) && matchO a x && matchO c z && undP P t isBool
    | _ => false
  | .ieq neg x => match op with
    | .binOp b' t a (.const .nilIface) _ => decide (b' = negOp neg) && matchO a x && undP P t isIface
    | _ => false
  | .eqs neg ks x z => match op with
    | .binOp b' t a c _ => decide (b' = negOp neg) && matchO a x && matchO c z && eqsP P t ks
    | _ => (match ks with
      | [8] => true
      | _ => false)
  | .un u x => match op with
    | .unOp u' _ a => decide (u' = u) && matchO a x
    | _ => false
  | .conv c x => match op with
    | .convert s d a => matchO a x && convP P c s d
    | _ => false
  | .mkif t x => match op with
    | .makeInterface t' a => Nat.beq t' t && matchO a x && undP P t (fun d => !isIface d)
    | _ => false
  | .mkfn f caps => match op with
    | .makeFunc (.func f') ⟨[]⟩ caps' => Nat.beq f' f && matchOs caps'.toList caps
    | _ => false
  | .build z parts => match op with
    | .build t ps => buildP P t z ps.toList parts && matchOs (ps.toList.map (·.2)) (parts.map (·.2.2))
    | _ => false
  | .bsl sz parts => match op with
    | .buildSlice t n ps => bslP P sz n t ps.toList parts
    | _ => false
  | .bslb parts => match op with
    | .buildSlice t n ps => bslP P 1 n t ps.toList parts
    | _ => false
  | .ext x i => match op with
    | .extract a j => Nat.beq j i && matchO a x
    | _ => false
  | .lenS x => match op with
    | .call ⟨.builtin .len, ⟨[a]⟩, ⟨[t]⟩⟩ => matchO a x && undP P t isStr
    | _ => false
  | .lenL x => match op with
    | .call ⟨.builtin .len, ⟨[a]⟩, ⟨[t]⟩⟩ => matchO a x && sliceP P t (fun _ => true)
    | _ => false
  | .mx x z => match op with
    | .call ⟨.builtin .max, ⟨[a, b]⟩, _⟩ => matchO a x && matchO b z
    | _ => false
  | .mn x z => match op with
    | .call ⟨.builtin .min, ⟨[a, b]⟩, _⟩ => matchO a x && matchO b z
    | _ => false
  | _ => false

section
variable {P : Program} {w0 : World} {n : Nat} {I : Fz} {κ : Km} {st : St} {tm : Array Value} {w : World} {α : Type} {r : α}

theorem opds1 {x : Opd} {vs : List T} (h : st.opds [x] = some vs) : ∃ v, vs = [v] ∧ st.opd x = some v := by
  simp only [St.opds] at h
  split at h
  · rename_i y ys h1 h2
    simp only [Option.some.injEq] at h2 h
    subst h2; subst h
    exact ⟨_, rfl, h1⟩
  · cases h

theorem opds_cons {x : Opd} {l : List Opd} {vs : List T} (h : st.opds (x :: l) = some vs) : ∃ v ws, vs = v :: ws ∧ st.opd x = some v ∧ st.opds l = some ws := by
  simp only [St.opds] at h
  split at h
  · rename_i y ys h1 h2
    simp only [Option.some.injEq] at h
    subst h
    exact ⟨_, _, rfl, h1, h2⟩
  · cases h

theorem opds2 {x z : Opd} {vs : List T} (h : st.opds [x, z] = some vs) : ∃ u v, vs = [u, v] ∧ st.opd x = some u ∧ st.opd z = some v := by
  obtain ⟨u, ws, rfl, h1, h2⟩ := opds_cons h
  obtain ⟨v, rfl, h3⟩ := opds1 h2
  exact ⟨u, v, rfl, h1, h3⟩

theorem isAg_sound {x : T} {v : Value} {f : Nat} (h : isAg x = true) (hx : RT I κ w f none x v) : ∃ vs, v = .agg vs := by
  unfold isAg at h
  split at h
  · simp only [RT, RD] at hx
    obtain ⟨vs, rfl, _⟩ := hx
    exact ⟨_, rfl⟩
  · simp only [RT] at hx
    obtain ⟨vs, rfl, _⟩ := hx
    exact ⟨_, rfl⟩
  · cases h

set_option maxHeartbeats 1000000 in
theorem v_sound (hr : Rel w0 n I κ st tm w) {o : Oper} {io : IOp} (hm : matchV P io o.op = true) {vs : List T} (hv : st.opds io.args = some vs) {y : T → Option α} (h : pop io vs y = some r) :
    ∃ u, y u = some r ∧ Gives P I κ w (execOp (⟨tm, []⟩ : Act).eval o) u := by
  have hs := hr.sat
  cases io with
  | mov x =>
    obtain ⟨v, rfl, h1⟩ := opds1 hv
    simp only [pop, one] at h
    simp only [matchV] at hm
    split at hm
    · rename_i a e
      exact ⟨v, h, g_mov hs (hr.opd hm h1) o (.inl e)⟩
    · rename_i a e
      exact ⟨v, h, g_mov hs (hr.opd hm h1) o (.inr e)⟩
    · cases hm
  | nilO sz =>
    simp only [pop] at h
    simp only [matchV] at hm
    have hx : RT I κ w 0 none (.own sz []) ((⟨tm, []⟩ : Act).eval (.const (.slice none 0 0))) := by
      simp only [RT]; exact .inl ⟨rfl, rfl, rfl⟩
    split at hm
    · rename_i e
      exact ⟨_, h, g_mov hs hx o (.inl e)⟩
    · rename_i e
      exact ⟨_, h, g_mov hs hx o (.inr e)⟩
    · cases hm
  | nilB =>
    simp only [pop] at h
    simp only [matchV] at hm
    have hx : RT I κ w 0 none (.ownb []) ((⟨tm, []⟩ : Act).eval (.const (.slice none 0 0))) := by
      simp only [RT]; exact .inl ⟨rfl, rfl, rfl⟩
    split at hm
    · rename_i e
      exact ⟨_, h, g_mov hs hx o (.inl e)⟩
    · rename_i e
      exact ⟨_, h, g_mov hs hx o (.inr e)⟩
    · cases hm
  | faddr x off =>
    obtain ⟨v, rfl, h1⟩ := opds1 hv
    simp only [pop, one] at h
    simp only [matchV] at hm
    split at hm
    · rename_i s a f e
      simp only [Bool.and_eq_true] at hm
      obtain ⟨u, hu, k⟩ := g_faddr hs h hm.2 (hr.opd hm.1 h1)
      exact ⟨u, hu, k o e⟩
    · cases hm
  | fld x off m agg =>
    obtain ⟨v, rfl, h1⟩ := opds1 hv
    simp only [pop, one] at h
    simp only [matchV] at hm
    split at hm
    · rename_i s a f e
      simp only [Bool.and_eq_true] at hm
      obtain ⟨u, hu, k⟩ := g_fld hs h hm.2 (hr.opd hm.1 h1)
      exact ⟨u, hu, k o e⟩
    · cases hm
  | iaddr x i sz =>
    obtain ⟨v, v', rfl, h1, h2⟩ := opds2 hv
    simp only [pop, two] at h
    simp only [matchV] at hm
    split at hm
    · rename_i t a b e
      simp only [Bool.and_eq_true] at hm
      obtain ⟨u, hu, k⟩ := g_iaddr hs h hm.2 (hr.opd hm.1.1 h1) (hr.opd hm.1.2 h2)
      exact ⟨u, hu, k o e⟩
    · cases hm
  | idx x i =>
    obtain ⟨v, v', rfl, h1, h2⟩ := opds2 hv
    simp only [pop, two] at h
    simp only [matchV] at hm
    split at hm
    · rename_i t a b e
      simp only [Bool.and_eq_true] at hm
      obtain ⟨u, hu, k⟩ := g_idx hs h hm.2 (hr.opd hm.1.1 h1) (hr.opd hm.1.2 h2)
      exact ⟨u, hu, k o e⟩
    · cases hm
  | slc sz x lo hi =>
    simp only [matchV] at hm
    split at hm
    · rename_i t a lo' hi' e
      simp only [Bool.and_eq_true] at hm
      obtain ⟨⟨⟨⟨m1, m2⟩, m3⟩, m4⟩, m5⟩ := hm
      obtain ⟨v, ws, rfl, h1, h2⟩ := opds_cons hv
      have hx := hr.opd m1 h1
      cases lo with
      | none =>
        cases lo' with
        | some _ => simp [matchB] at m2
        | none =>
          cases hi with
          | none => simp at m5
          | some hi =>
            cases hi' with
            | none => simp [matchB] at m3
            | some hi' =>
              simp only [optL, List.nil_append] at h2
              obtain ⟨c, rfl, h3⟩ := opds1 h2
              simp only [pop, two] at h
              obtain ⟨u, hu, k⟩ := g_slc hs h m4 hx (lo' := none) (hi' := some hi') trivial (hr.opd m3 h3)
              exact ⟨u, hu, k o e⟩
      | some lo =>
        cases lo' with
        | none => simp [matchB] at m2
        | some lo' =>
          cases hi with
          | none =>
            cases hi' with
            | some _ => simp [matchB] at m3
            | none =>
              simp only [optL, List.append_nil] at h2
              obtain ⟨c, rfl, h3⟩ := opds1 h2
              simp only [pop, two] at h
              obtain ⟨u, hu, k⟩ := g_slc hs h m4 hx (lo' := some lo') (hi' := none) (hr.opd m2 h3) trivial
              exact ⟨u, hu, k o e⟩
          | some hi =>
            cases hi' with
            | none => simp [matchB] at m3
            | some hi' =>
              simp only [optL, List.cons_append, List.nil_append] at h2
              obtain ⟨c, c', rfl, h3, h4⟩ := opds2 h2
              simp only [pop] at h
              obtain ⟨u, hu, k⟩ := g_slc hs h m4 hx (lo' := some lo') (hi' := some hi') (hr.opd m2 h3) (hr.opd m3 h4)
              exact ⟨u, hu, k o e⟩
    · cases hm
  | bin b x z =>
    obtain ⟨v, v', rfl, h1, h2⟩ := opds2 hv
    simp only [pop, two] at h
    simp only [matchV] at hm
    split at hm
    · rename_i b' t a c t' e
      simp only [Bool.and_eq_true, decide_eq_true_eq] at hm
      obtain ⟨⟨rfl, m1⟩, m2⟩ := hm
      obtain ⟨u, hu, k⟩ := g_bin (P := P) (ρ := (⟨tm, []⟩ : Act).eval) hs h (t := t) (t' := t') (hr.opd m1 h1) (hr.opd m2 h2)
      exact ⟨u, hu, k o e⟩
    · cases hm
  | beqv neg x z =>
    obtain ⟨v, v', rfl, h1, h2⟩ := opds2 hv
    simp only [pop, two] at h
    simp only [matchV] at hm
    split at hm
    · rename_i b' t a c t' e
      simp only [Bool.and_eq_true, decide_eq_true_eq] at hm
      obtain ⟨⟨⟨rfl, m1⟩, m2⟩, m3⟩ := hm
      obtain ⟨u, hu, k⟩ := g_beqv (t' := t') hs h m3 (hr.opd m1 h1) (hr.opd m2 h2)
      exact ⟨u, hu, k o e⟩
    · cases hm
  | ieq neg x =>
    obtain ⟨v, rfl, h1⟩ := opds1 hv
    simp only [pop, one] at h
    simp only [matchV] at hm
    split at hm
    · rename_i b' t a t' e
      simp only [Bool.and_eq_true, decide_eq_true_eq] at hm
      obtain ⟨⟨rfl, m1⟩, m3⟩ := hm
      obtain ⟨u, hu, k⟩ := g_ieq (t' := t') hs h m3 (hr.opd m1 h1) (fun _ => rfl)
      exact ⟨u, hu, k o e⟩
    · cases hm
  | eqs neg ks x z =>
    obtain ⟨v, v', rfl, h1, h2⟩ := opds2 hv
    simp only [pop, two] at h
    simp only [matchV] at hm
    split at h
    · rename_i s
      split at hm
      · rename_i b' t a c t' e
        simp only [Bool.and_eq_true, decide_eq_true_eq, eqsP] at hm
        obtain ⟨⟨⟨rfl, m1⟩, m2⟩, m3, m4⟩ := hm
        obtain ⟨u, hu, k⟩ := g_ieqv (t' := t') hs h m3 m4 (hr.opd m1 h1) (hr.opd m2 h2)
        exact ⟨u, hu, k o e⟩
      · simp at hm
    · cases h
    · rename_i n9 n8
      obtain ⟨hag, h⟩ := cond_some h
      simp only [Bool.and_eq_true] at hag
      split at hm
      · rename_i b' t a c t' e
        simp only [Bool.and_eq_true, decide_eq_true_eq] at hm
        obtain ⟨⟨⟨rfl, m1⟩, m2⟩, m3⟩ := hm
        have m3 : flatT P t ks = true := by
          unfold eqsP at m3
          split at m3
          · exact absurd rfl (n9 _)
          · exact absurd rfl n8
          · exact m3
        obtain ⟨u, hu, k⟩ := g_eqs (t' := t') hs h m3 (hr.opd m1 h1) (hr.opd m2 h2) ⟨isAg_sound hag.1 (hr.opd m1 h1), isAg_sound hag.2 (hr.opd m2 h2)⟩
        exact ⟨u, hu, k o e⟩
      · split at hm
        · exact absurd rfl n8
        · cases hm
  | un b x =>
    obtain ⟨v, rfl, h1⟩ := opds1 hv
    simp only [pop, one] at h
    simp only [matchV] at hm
    split at hm
    · rename_i b' t a e
      simp only [Bool.and_eq_true, decide_eq_true_eq] at hm
      obtain ⟨rfl, m1⟩ := hm
      obtain ⟨u, hu, k⟩ := g_un (P := P) hs h (t := t) (hr.opd m1 h1)
      exact ⟨u, hu, k o e⟩
    · cases hm
  | conv c x =>
    obtain ⟨v, rfl, h1⟩ := opds1 hv
    simp only [pop, one] at h
    simp only [matchV] at hm
    split at hm
    · rename_i s d a e
      simp only [Bool.and_eq_true] at hm
      obtain ⟨u, hu, k⟩ := g_conv hs h hm.2 (hr.opd hm.1 h1)
      exact ⟨u, hu, k o e⟩
    · cases hm
  | mkif t x =>
    obtain ⟨v, rfl, h1⟩ := opds1 hv
    simp only [pop, one] at h
    simp only [matchV] at hm
    split at hm
    · rename_i t' a e
      simp only [Bool.and_eq_true] at hm
      obtain ⟨⟨m0, m1⟩, m2⟩ := hm
      obtain rfl := nbeq_eq m0
      obtain ⟨u, hu, k⟩ := g_mkif hs h m2 (hr.opd m1 h1)
      exact ⟨u, hu, k o e⟩
    · cases hm
  | mkfn f caps =>
    simp only [pop] at h
    simp only [matchV] at hm
    split at hm
    · rename_i f' caps' e
      simp only [Bool.and_eq_true] at hm
      obtain rfl := nbeq_eq hm.1
      exact ⟨_, h, g_mkfn hs (hr.opds hm.2 hv) o (by rw [e])⟩
    · cases hm
  | build z parts =>
    simp only [pop] at h
    simp only [matchV] at hm
    split at hm
    · rename_i t ps e
      simp only [Bool.and_eq_true] at hm
      have := hr.opds hm.2 hv
      rw [List.map_map] at this
      obtain ⟨u, hu, k⟩ := g_build hs h hm.1 this
      exact ⟨u, hu, k o e⟩
    · cases hm
  | bsl sz parts =>
    simp only [pop] at h
    simp only [matchV] at hm
    split at hm
    · rename_i t m ps e
      have m2 : matchOs (ps.toList.map (·.2)) parts = true := by
        simp only [bslP, Bool.and_eq_true] at hm
        exact (seqParts_map (ρ := (⟨tm, []⟩ : Act).eval) hm.2).2
      have := hr.opds m2 hv
      rw [List.map_map] at this
      obtain ⟨u, hu, k⟩ := g_bsl hs h hm this
      exact ⟨u, hu, k o e⟩
    · cases hm
  | bslb parts =>
    simp only [pop] at h
    simp only [matchV] at hm
    split at hm
    · rename_i t m ps e
      have m2 : matchOs (ps.toList.map (·.2)) parts = true := by
        simp only [bslP, Bool.and_eq_true] at hm
        exact (seqParts_map (ρ := (⟨tm, []⟩ : Act).eval) hm.2).2
      have := hr.opds m2 hv
      rw [List.map_map] at this
      obtain ⟨u, hu, k⟩ := g_bslb hs h hm this
      exact ⟨u, hu, k o e⟩
    · cases hm
  | ext x i =>
    obtain ⟨v, rfl, h1⟩ := opds1 hv
    simp only [pop, one] at h
    simp only [matchV] at hm
    split at hm
    · rename_i a j e
      simp only [Bool.and_eq_true] at hm
      obtain rfl := nbeq_eq hm.1
      obtain ⟨u, hu, k⟩ := g_ext (P := P) hs h (hr.opd hm.2 h1)
      exact ⟨u, hu, k o e⟩
    · cases hm
  | lenS x =>
    obtain ⟨v, rfl, h1⟩ := opds1 hv
    simp only [pop, one] at h
    simp only [matchV] at hm
    split at hm
    · rename_i a t e
      simp only [Bool.and_eq_true] at hm
      obtain ⟨u, hu, k⟩ := g_lenS hs h hm.2 (hr.opd hm.1 h1)
      exact ⟨u, hu, k o e⟩
    · cases hm
  | lenL x =>
    obtain ⟨v, rfl, h1⟩ := opds1 hv
    simp only [pop, one] at h
    simp only [matchV] at hm
    split at hm
    · rename_i a t e
      simp only [Bool.and_eq_true] at hm
      obtain ⟨u, hu, k⟩ := g_lenL hs h hm.2 (hr.opd hm.1 h1)
      exact ⟨u, hu, k o e⟩
    · cases hm
  | mx x z =>
    obtain ⟨v, v', rfl, h1, h2⟩ := opds2 hv
    simp only [pop, two] at h
    simp only [matchV] at hm
    split at hm
    · rename_i a b ts e
      simp only [Bool.and_eq_true] at hm
      obtain ⟨u, hu, k⟩ := g_mx (P := P) hs h (ts := ts) (hr.opd hm.1 h1) (hr.opd hm.2 h2)
      exact ⟨u, hu, k o e⟩
    · cases hm
  | mn x z =>
    obtain ⟨v, v', rfl, h1, h2⟩ := opds2 hv
    simp only [pop, two] at h
    simp only [matchV] at hm
    split at hm
    · rename_i a b ts e
      simp only [Bool.and_eq_true] at hm
      obtain ⟨u, hu, k⟩ := g_mn (P := P) hs h (ts := ts) (hr.opd hm.1 h1) (hr.opd hm.2 h2)
      exact ⟨u, hu, k o e⟩
    · cases hm
  | _ => simp [matchV] at hm

end
end Go.Eng
namespace Go.Eng
open Go.RowKit

/-- An operation that moves, makes, reads or writes. -/
def matchS (P : Program) (io : IOp) (op : Op) : Bool := match io with
  | .movO t => match op with
    | .move (.tmp s) | .assign (.tmp s) => Nat.beq s t
    | _ => false
  | .pick c a b => match op with
    | .pick c' a' b' => matchO c' c && matchO a' a && matchO b' b
    | _ => false
  | .alloc z => match op with
    | .alloc t => allocP P t z
    | _ => false
  | .box x m => match op with
    | .box _ a => matchO a x && !Nat.beq m 0
    | _ => false
  | .store a x m => match op with
    | .store t a' b => matchO a' a && matchO b x && !Nat.beq m 0 && Nat.beq (P.cellsOf t) m
    | _ => false
  | .storeO a t => match op with
    | .store ty a' (.tmp s) => Nat.beq s t && matchO a' a && Nat.beq (P.cellsOf ty) 1
    | _ => false
  | .load a m agg => match op with
    | .load t a' => matchO a' a && !Nat.beq m 0 && Nat.beq (P.cellsOf t) m && aggOf P t == some agg && (agg || Nat.beq m 1)
    | _ => false
  | .loadO a => match op with
    | .load t a' => matchO a' a && Nat.beq (P.cellsOf t) 1 && aggOf P t == some false
    | _ => false
  | .app sz s x lim => match op with
    | .call ⟨.builtin .append, ⟨[a, b]⟩, ⟨[sT, xT]⟩⟩ => matchO b x && appP P sz lim sT xT && (match s with
      | .t t => (match a with
        | .tmp s => Nat.beq s t
        | _ => false)
      | .k (.nl _) | .k .nlb => (match a with
        | .const (.slice none 0 0) => true
        | _ => false)
      | _ => false)
    | _ => false
  | _ => false

def needs (io : IOp) (dst : Option Nat) : Bool := match io with
  | .loadO _ => dst.isSome
  | _ => true

/-- An operation does what the plain step does, and so on. -/
def StepR {α : Type} (P : Program) (w0 : World) (n : Nat) (o : Oper) (y : St → Option α) (r : α) (I : Fz) (κ : Km) (tm : Array Value) (w : World) : Prop :=
  ∃ nx v w' I' κ' st', (execOp (⟨tm, []⟩ : Act).eval o).run P w = .ok nx w' ∧ nextV nx = some v ∧ Rel w0 n I' κ' st' (putA tm o.dst v) w' ∧ Ext I κ w I' κ' w' ∧ y st' = some r

section
variable {P : Program} {w0 : World} {n : Nat} {I : Fz} {κ : Km} {st : St} {tm : Array Value} {w : World} {α : Type} {r : α}

theorem StepOK.toR {o : Oper} {st' : St} {y : St → Option α} (h : StepOK P w0 n o st st') (hr : Rel w0 n I κ st tm w) (hy : y st' = some r) : StepR P w0 n o y r I κ tm w := by
  obtain ⟨nx, v, w', I', κ', h1, h2, h3, h4⟩ := h I κ tm w hr
  exact ⟨nx, v, w', I', κ', st', h1, h2, h3, h4, hy⟩

theorem Gives.toR {o : Oper} {x : T} {y : St → Option α} (hr : Rel w0 n I κ st tm w) (hd : ∀ d, o.dst = some d → d < n) (h : Gives P I κ w (execOp (⟨tm, []⟩ : Act).eval o) x) (hy : y (st.put o.dst x) = some r) : StepR P w0 n o y r I κ tm w := by
  obtain ⟨v, w', I', bo, h1, g, hx, hb⟩ := h
  obtain ⟨κ', k1, k2⟩ := hr.put g hd hx hb
  exact ⟨_, v, w', I', κ', _, h1, rfl, k1, k2, hy⟩

/-- Is it a value operation? -/
def IOp.pure : IOp → Bool
  | .movO _ | .pick .. | .alloc _ | .box .. | .store .. | .storeO .. | .load .. | .loadO _ | .app .. | .call .. | .callP .. | .callv .. => false
  | _ => true

theorem step_pure {C : CallF} {d : Option Nat} {io : IOp} {g : Option (Nat × Bool)} {y : St → Option α} {z : D → St → Option α} (h : io.pure = true) :
    step C ⟨d, io, g⟩ st y z = match st.opds io.args with
      | some vs => pop io vs fun v => y (st.put d v)
      | none => none := by
  cases io <;> first | rfl | cases h

theorem matchV_pure {io : IOp} {op : Op} (h : matchV P io op = true) : io.pure = true := by
  cases io <;> first | rfl | (simp [matchV] at h)

theorem run_append {a b : Operand} {sT xT : TypeId} {o : Oper} (ho : o.op = .call { callee := .builtin .append, args := #[a, b], argTypes := #[sT, xT] }) {ρ : Operand → Value} :
    ∃ ty, execOp ρ o = (Builtin.append_ #[sT, xT] ty #[ρ a, ρ b] >>= fun r => pure (.value r)) := by
  obtain ⟨ty, cs, e⟩ := run_builtin (ρ := ρ) ho
  refine ⟨ty, ?_⟩
  rw [e]
  simp only [builtin, List.map_toArray, List.map_cons, List.map_nil]

theorem app_nil {o : Oper} (hr : Rel w0 n I κ st tm w) {sz lim : Nat} {sT xT e : TypeId} (ht : AppT P sz lim sT xT e) {y : T} {m : List (List D)} {b : Operand} {news : List Value}
    (hyo : ∀ I κ w bo v, Own I w bo sz m v → RT I κ w 0 bo y v) (hsrc : Src P w I sz ((⟨tm, []⟩ : Act).eval b) m news) (hlim : m.length ≤ lim)
    (ho : o.op = .call { callee := .builtin .append, args := #[.const (.slice none 0 0), b], argTypes := #[sT, xT] }) : Gives P I κ w (execOp (⟨tm, []⟩ : Act).eval o) y := by
  obtain ⟨ty, e1⟩ := run_append ho (ρ := (⟨tm, []⟩ : Act).eval)
  rcases app_own (ty := ty) hr.sat ht (bo := none) (l := []) (v := .slice none 0 0) (.inl ⟨rfl, rfl, rfl⟩) hsrc (by simpa using hlim) with ⟨z, w', I', bo', h1, g, h2, h3⟩ | ⟨b', _, _, _, _, _, hb, _⟩
  · refine ⟨z, w', I', bo', ?_, g, hyo _ _ _ _ _ h2, h3⟩
    rw [e1]
    have e2 : (⟨tm, []⟩ : Act).eval (.const (.slice none 0 0)) = .slice none 0 0 := rfl
    rw [e2]
    simp only [Sem.run_bind, h1, Result.andThen_ok, Sem.run_pure]
  · cases hb

theorem nilArg {a : Operand} (h : (match a with
    | .const (.slice none 0 0) => true
    | _ => false) = true) : a = .const (.slice none 0 0) := by
  split at h
  · rfl
  · cases h

set_option maxHeartbeats 1000000 in
theorem s_sound (hr : Rel w0 n I κ st tm w) {o : Oper} (hd : ∀ d, o.dst = some d → d < n) {io : IOp} (hm : matchV P io o.op = true ∨ matchS P io o.op = true) {C : CallF} {g : Option (Nat × Bool)} {y : St → Option α} {z : D → St → Option α}
    (hneed : needs io o.dst = true) (h : step C ⟨o.dst, io, g⟩ st y z = some r) : StepR P w0 n o y r I κ tm w := by
  rcases hm with hm | hm
  · rw [step_pure (matchV_pure hm)] at h
    split at h
    · rename_i vs hv
      obtain ⟨u, hu, k⟩ := v_sound hr hm hv h
      exact k.toR hr hd hu
    · cases h
  · cases io with
    | movO t =>
      simp only [step] at h
      simp only [matchS] at hm
      split at h
      · rename_i v d hv hdst
        replace hdst : o.dst = some d := hdst
        split at hm
        · rename_i s e
          obtain rfl := nbeq_eq hm
          cases e1 : Nat.beq s d with
          | true => rw [e1] at h; cases h
          | false =>
            rw [e1] at h
            exact (s_movO (.inl e) hdst (hd d hdst) (nbeq_of e1) hv).toR hr h
        · rename_i s e
          obtain rfl := nbeq_eq hm
          cases e1 : Nat.beq s d with
          | true => rw [e1] at h; cases h
          | false =>
            rw [e1] at h
            exact (s_movO (.inr e) hdst (hd d hdst) (nbeq_of e1) hv).toR hr h
        · cases hm
      · cases h
    | pick c a b =>
      simp only [step] at h
      simp only [matchS] at hm
      split at hm
      · rename_i c' a' b' e
        simp only [Bool.and_eq_true] at hm
        obtain ⟨⟨m1, m2⟩, m3⟩ := hm
        split at h
        · rename_i x hc
          have rc := hr.opd m1 hc
          simp only [RT, RD] at rc
          cases x with
          | true =>
            simp only [cond_true] at h
            split at h
            · rename_i v hv
              refine Gives.toR hr hd (.same hr.sat ?_ (hr.opd m2 hv)) h
              unfold execOp
              rw [e]
              simp only [rc, asBool, Sem.run_bind, Sem.run_pure, Result.andThen_ok, if_true]
            · cases h
          | false =>
            simp only [cond_false] at h
            split at h
            · rename_i v hv
              refine Gives.toR hr hd (.same hr.sat ?_ (hr.opd m3 hv)) h
              unfold execOp
              rw [e]
              simp only [rc, asBool, Sem.run_bind, Sem.run_pure, Result.andThen_ok, Bool.false_eq_true, if_false]
            · cases h
        · cases h
      · cases hm
    | alloc z =>
      simp only [step] at h
      simp only [matchS] at hm
      split at hm
      · rename_i t e
        split at h
        · rename_i d hdst
          obtain ⟨h1, h⟩ := cond_some h
          simp only [Bool.and_eq_true] at h1
          exact (s_alloc e hdst (hd d hdst) hm h1.1 h1.2).toR hr h
        · cases h
      · cases hm
    | box x m =>
      simp only [step] at h
      simp only [matchS] at hm
      split at hm
      · rename_i t a e
        simp only [Bool.and_eq_true, Bool.not_eq_true'] at hm
        split at h
        · rename_i d v hdst hv
          obtain ⟨h1, h⟩ := cond_some h
          simp only [Bool.and_eq_true, Bool.not_eq_true'] at h1
          obtain ⟨⟨⟨h1, h2⟩, h3⟩, h4⟩ := h1
          exact (s_box e hdst (hd d hdst) hm.1 hv (nbeq_eq h3) (nbeq_of hm.2) h1 h2 h4).toR hr h
        · cases h
      · cases hm
    | store a x m =>
      simp only [step] at h
      simp only [matchS] at hm
      split at hm
      · rename_i t a' b e
        simp only [Bool.and_eq_true, Bool.not_eq_true'] at hm
        obtain ⟨⟨⟨m1, m2⟩, m3⟩, m4⟩ := hm
        split at h
        · rename_i p v hp hv
          obtain ⟨h1, h⟩ := cond_some h
          split at h
          · rename_i st' hw
            exact (s_store e hd m1 m2 hp hv (nbeq_eq h1) (nbeq_of m3) (nbeq_eq m4) hw).toR hr h
          · cases h
        · cases h
      · cases hm
    | storeO a t =>
      simp only [step] at h
      simp only [matchS] at hm
      split at hm
      · rename_i ty a' s e
        simp only [Bool.and_eq_true] at hm
        obtain ⟨⟨m1, m2⟩, m3⟩ := hm
        obtain rfl := nbeq_eq m1
        split at h
        · rename_i p v hp hv
          obtain ⟨h1, h⟩ := cond_some h
          split at h
          · rename_i st' hw
            exact (s_storeO e hd m2 (nbeq_eq m3) hp hv h1 hw).toR hr h
          · cases h
        · cases h
      · cases hm
    | load a m agg =>
      simp only [step] at h
      simp only [matchS] at hm
      split at hm
      · rename_i t a' e
        simp only [Bool.and_eq_true, Bool.not_eq_true', beq_iff_eq, Bool.or_eq_true] at hm
        obtain ⟨⟨⟨⟨m1, m2⟩, m3⟩, m4⟩, m5⟩ := hm
        split at h
        · rename_i p hp
          split at h
          · rename_i cells hc
            split at h
            · rename_i v hv
              exact (s_load e hd m1 hp (nbeq_of m2) (nbeq_eq m3) m4 (fun e => by
                rcases m5 with m5 | m5
                · rw [e] at m5; cases m5
                · exact nbeq_eq m5) hc hv).toR hr h
            · cases h
          · cases h
        · cases h
      · cases hm
    | loadO a =>
      simp only [step] at h
      simp only [matchS] at hm
      split at hm
      · rename_i t a' e
        simp only [Bool.and_eq_true, beq_iff_eq] at hm
        obtain ⟨⟨m1, m2⟩, m3⟩ := hm
        obtain ⟨d, hdst⟩ : ∃ d, o.dst = some d := Option.isSome_iff_exists.1 hneed
        split at h
        · rename_i t off hp
          split at h
          · rename_i cells hc
            split at h
            · rename_i v hv
              obtain ⟨h1, h⟩ := cond_some h
              exact (s_loadO0 e hdst (hd d hdst) m1 (nbeq_eq m2) m3 hp hc hv h1).toR hr h
            · cases h
          · cases h
        · rename_i f t off hp
          split at h
          · rename_i ob hob
            split at h
            · rename_i cells hc
              split at h
              · rename_i v hv
                obtain ⟨h1, h⟩ := cond_some h
                exact (s_loadO1 e hdst (hd d hdst) m1 (nbeq_eq m2) m3 hp hob hc hv h1).toR hr h
              · cases h
            · cases h
          · cases h
        · cases h
      · cases hm
    | app sz s x lim =>
      simp only [step] at h
      simp only [matchS] at hm
      split at hm
      · rename_i a b sT xT e
        simp only [Bool.and_eq_true] at hm
        obtain ⟨⟨m1, m2⟩, m3⟩ := hm
        obtain ⟨el, ht⟩ := appP_some m2
        split at h
        · rename_i v hv
          have rv := hr.opd m1 hv
          cases s with
          | t t =>
            dsimp only at h m3
            split at m3
            · rename_i s
              obtain rfl := nbeq_eq m3
              obtain ⟨ty, hrun⟩ := run_append e (ρ := (⟨tm, []⟩ : Act).eval)
              have hex : ∀ v, tm[s]? = some v → execOp (⟨tm, []⟩ : Act).eval o = (Builtin.append_ #[sT, xT] ty #[v, (⟨tm, []⟩ : Act).eval b] >>= fun r => pure (.value r)) := by
                intro v hv
                rw [hrun]
                have : (⟨tm, []⟩ : Act).eval (.tmp s) = v := by
                  show tm.getD s undef = v
                  simp [Array.getD_eq_getD_getElem?, hv]
                rw [this]
              split at h
              · rename_i sz' l d hs hdst
                split at h
                · rename_i sz'' m
                  obtain ⟨h1, h'⟩ := cond_some h
                  simp only [Bool.and_eq_true, Bool.not_eq_true'] at h1
                  obtain ⟨⟨h1, h2⟩, h3⟩ := h1
                  have e1 := nbeq_eq h1
                  have e2 := nbeq_eq h2
                  subst e1; subst e2
                  obtain ⟨hl, h''⟩ := ite_some h'
                  simp only [RT] at rv
                  obtain ⟨news, hsrc⟩ := src_sl (P := P) hr.sat rv
                  obtain ⟨nx, v', w', I', κ', k1, k2, k3, k4⟩ := app_slot (o := o) (ty := ty) hr ht hdst (hd d hdst) (nbeq_of h3) (x := .own _ l) (y := .own _ (l ++ m)) hs (fun _ _ _ _ h => by simpa only [RT] using h) (fun _ _ _ _ _ h => by simpa only [RT] using h) hsrc hl hex
                  exact ⟨nx, v', w', I', κ', _, k1, k2, k3, k4, h''⟩
                · cases h
              · rename_i l d hs hdst
                have fin : ∀ (m : List UInt8) (news : List Value), Src P w I 1 ((⟨tm, []⟩ : Act).eval b) (m.map byteRow) news → (bif Nat.beq sz 1 && !Nat.beq s d then (if l.length + m.length ≤ lim then y { st with tm := aset d (.ownb (l ++ m)) (aset s (.d (.bs l)) st.tm) } else none) else none) = some r → StepR P w0 n o y r I κ tm w := by
                  intro m news hsrc h
                  obtain ⟨h1, h'⟩ := cond_some h
                  simp only [Bool.and_eq_true, Bool.not_eq_true'] at h1
                  have e1 := nbeq_eq h1.1
                  subst e1
                  obtain ⟨hl, h''⟩ := ite_some h'
                  obtain ⟨nx, v', w', I', κ', k1, k2, k3, k4⟩ := app_slot (o := o) (ty := ty) (l := l.map byteRow) hr ht hdst (hd d hdst) (nbeq_of h1.2) (x := .ownb l) (y := .ownb (l ++ m)) hs (fun _ _ _ _ h => by simpa only [RT] using h) (fun _ _ _ _ _ h => by simpa only [RT, List.map_append] using h) hsrc (by simpa using hl) hex
                  exact ⟨nx, v', w', I', κ', _, k1, k2, k3, k4, h''⟩
                split at h
                · rename_i m
                  simp only [RT] at rv
                  obtain ⟨news, hsrc⟩ := src_bs (P := P) hr.sat rv
                  exact fin m news hsrc h
                · rename_i m
                  simp only [RT] at rv
                  obtain ⟨news, hsrc⟩ := src_s (P := P) (w := w) rv
                  exact fin m news hsrc h
                · cases h
              · cases h
            · cases m3
          | f g => cases h
          | k c =>
            cases c with
            | nl sz' =>
              dsimp only at h m3
              obtain rfl := nilArg m3
              split at h
              · rename_i sz'' m
                obtain ⟨h1, h'⟩ := cond_some h
                simp only [Bool.and_eq_true] at h1
                have e1 := nbeq_eq h1.1
                have e2 := nbeq_eq h1.2
                subst e1; subst e2
                obtain ⟨hl, h''⟩ := ite_some h'
                simp only [RT] at rv
                obtain ⟨news, hsrc⟩ := src_sl (P := P) hr.sat rv
                exact (app_nil hr ht (y := .own _ m) (fun _ _ _ _ _ h => by simpa only [RT] using h) hsrc hl e).toR hr hd h''
              · cases h
            | nlb =>
              dsimp only at h m3
              obtain rfl := nilArg m3
              have fin : ∀ (m : List UInt8) (news : List Value), Src P w I 1 ((⟨tm, []⟩ : Act).eval b) (m.map byteRow) news → (bif Nat.beq sz 1 then (if m.length ≤ lim then y (st.put o.dst (.ownb m)) else none) else none) = some r → StepR P w0 n o y r I κ tm w := by
                intro m news hsrc h
                obtain ⟨h1, h'⟩ := cond_some h
                have e1 := nbeq_eq h1
                subst e1
                obtain ⟨hl, h''⟩ := ite_some h'
                exact (app_nil hr ht (y := .ownb m) (fun _ _ _ _ _ h => by simpa only [RT] using h) hsrc (by simpa using hl) e).toR hr hd h''
              split at h
              · rename_i m
                simp only [RT] at rv
                obtain ⟨news, hsrc⟩ := src_bs (P := P) hr.sat rv
                exact fin m news hsrc h
              · rename_i m
                simp only [RT] at rv
                obtain ⟨news, hsrc⟩ := src_s (P := P) (w := w) rv
                exact fin m news hsrc h
              · cases h
            | _ => cases h
        · cases h
      · cases hm
    | _ => simp [matchS] at hm

end
end Go.Eng
