/-
  The engine: a caller's data, whatever plain types it is of, as values without addresses.
-/
import Derived.Test.YtjgoahlkodbemaaDoorEd
import Derived.Deep.Slices
import Derived.Carry
import Derived.WideShapes
import Derived.OpenShut
import Derived.ChangeOld
import Derived.RowKit
namespace Go.Eng
open Go.RowKit Go.ChangeShapes Go.WideShapes Go.Deep

/-- All that the first memory holds, as nobody will write it. -/
def I0 (W : World) : Fz := fun b => match W.heap[b]? with
  | some (.cells cs _ _) => cs.toList
  | _ => []

theorem sat0 (W : World) : Sat (I0 W) W := by
  intro b o v h
  unfold I0 at h
  split at h
  · rename_i cs t fz hb
    rw [cell_of_heap hb]
    simpa using h
  · simp at h

theorem cell0 {W : World} {a : Addr} {v : Value} (h : W.cell? a = some v) : a.spot = none ∧ (I0 W a.block)[a.off]? = some v := by
  unfold World.cell? at h
  split at h
  · rename_i c _ _ hb
    cases hs : a.spot with
    | some _ => rw [hs] at h; simp at h
    | none =>
      rw [hs] at h
      refine ⟨rfl, ?_⟩
      unfold I0
      rw [hb]
      simpa using h
  · cases h

def fieldsOK (P : Program) (S : List TypeId) : Nat → List Field → Nat → Bool
  | off, [], n => Nat.beq off n
  | off, f :: r, n => Nat.beq f.offset off && S.contains f.type && fieldsOK P S (off + P.cellsOf f.type) r n

/-- Plain data, its parts in S. -/
def plainTy (P : Program) (S : List TypeId) (t : TypeId) : Bool := match P.underlying t with
  | some .bool | some .string | some (.int _) => true
  | some (.slice e) => (S.contains e && Nat.blt 0 (P.cellsOf e)) && !(match P.underlying e with
    | some (.int .u8) => true
    | _ => false)
  | some (.struct fs) => fieldsOK P S 0 fs.toList (P.cellsOf t)
  | _ => false

def plainSet (P : Program) (S : List TypeId) : Bool := S.all (plainTy P S)

/-- What a reading holds, as cells. n: how deep. -/
def Op (P : Program) {H : Type} : Nat → TypeId → DataW H → List D → Prop
  | 0, _, _, _ => False
  | n + 1, t, d, ds => match P.underlying t with
    | some .bool => ∃ b, d = .lit (.bool b) ∧ ds = [.b b]
    | some (.int k) => ∃ m, d = .lit (.int k m) ∧ ds = [.i k m] ∧ (Lit.int k m).wf = true
    | some .string => ∃ s : List UInt8, d = .lit (.string s) ∧ ds = [.s s] ∧ s.length ≤ maxLen
    | some (.slice e) => (d = .nil ∧ ds = [.sl (P.cellsOf e) []]) ∨
      ∃ es sp rows, d = .slice es sp ∧ ds = [.sl (P.cellsOf e) rows] ∧ rows.length ≤ maxLen ∧ es.length = rows.length ∧ ∀ (i : Nat) x r, es[i]? = some x → rows[i]? = some r → r.length = P.cellsOf e ∧ Op P n e x r
    | some (.struct fs) => ∃ xs, ∃ parts : List (List D), d = .agg xs ∧ ds = parts.flatten ∧ xs.length = fs.size ∧ parts.length = fs.size ∧
      ∀ (i : Nat) f x p, fs[i]? = some f → xs[i]? = some x → parts[i]? = some p → p.length = P.cellsOf f.type ∧ Op P n f.type x p
    | _ => False

theorem rcells_append {I : Fz} : ∀ {a b : List D} {u v : List Value}, RCells I a u → RCells I b v → RCells I (a ++ b) (u ++ v)
  | [], b, u, v, h, k => by simp only [RCells] at h; subst h; exact k
  | x :: a, b, u, v, h, k => by
    simp only [RCells] at h
    obtain ⟨w, ws, rfl, h1, h2⟩ := h
    simp only [List.cons_append, RCells]
    exact ⟨w, ws ++ v, rfl, h1, rcells_append h2 k⟩

theorem rrows_of {I : Fz} {sz : Nat} {blk : List Value} : ∀ {rows : List (List D)} {o : Nat}, (∀ (i : Nat) r, rows[i]? = some r → r.length = sz ∧ ∃ vs, RCells I r vs ∧ cut blk (o + i * sz) sz = vs) → RRows I sz blk o rows
  | [], _, _ => trivial
  | r :: rows, o, h => by
    simp only [RRows]
    obtain ⟨h1, h2⟩ := h 0 r rfl
    rw [Nat.zero_mul, Nat.add_zero] at h2
    refine ⟨h1, h2, rrows_of fun i r' hr => ?_⟩
    have := h (i + 1) r' hr
    rw [Nat.succ_mul, Nat.add_comm (i * sz) sz, ← Nat.add_assoc] at this
    exact this

section
variable {H : Type} {enc : TypeId × Value → H} {P : Program} {W : World}

/-- A struct's fields, one behind the other. -/
theorem open_fields {S : List TypeId} {m : Nat} {cs : List Value} {tot : Nat} (hcs : cs.length = tot)
    (ih : ∀ t cs x, t ∈ S → DataW.trod enc P W 0 (fun _ => true) true m t cs = some x → ∃ ds, RCells (I0 W) ds cs ∧ Op P m t x.1 ds) :
    ∀ (fs : List Field) (off : Nat) (xs : List (DataW H × List MemPlace)), off ≤ tot → fieldsOK P S off fs tot = true → xs.length = fs.length →
      (∀ (i : Nat) (f : Field), fs[i]? = some f → DataW.trod enc P W 0 (fun _ => true) true m f.type ((cs.drop f.offset).take (P.cellsOf f.type)) = xs[i]?) →
      ∃ parts : List (List D), parts.length = fs.length ∧ RCells (I0 W) parts.flatten (cs.drop off) ∧ ∀ (i : Nat) f x p, fs[i]? = some f → (xs.map (·.1))[i]? = some x → parts[i]? = some p → p.length = P.cellsOf f.type ∧ Op P m f.type x p
  | [], off, xs, hle, hf, hx, hall => by
    simp only [fieldsOK] at hf
    have := nbeq_eq hf
    refine ⟨[], rfl, ?_, fun i f x p hf => by simp at hf⟩
    rw [List.drop_eq_nil_of_le (by omega)]
    simp [RCells]
  | f :: fs, off, xs, hle, hf, hx, hall => by
    simp only [fieldsOK, Bool.and_eq_true] at hf
    obtain ⟨⟨h1, h2⟩, h3⟩ := hf
    have ho := nbeq_eq h1
    cases xs with
    | nil => simp at hx
    | cons x xs =>
      have h0 := hall 0 f rfl
      rw [ho] at h0
      simp only [List.getElem?_cons_zero] at h0
      obtain ⟨ds, k1, k2⟩ := ih f.type _ x (by simpa using h2) h0
      have hbound : off + P.cellsOf f.type ≤ tot := by
        have : ∀ (fs : List Field) (o : Nat), fieldsOK P S o fs tot = true → o ≤ tot := by
          intro fs
          induction fs with
          | nil => intro o h; simp only [fieldsOK] at h; have := nbeq_eq h; omega
          | cons g fs ih => intro o h; simp only [fieldsOK, Bool.and_eq_true] at h; have := ih _ h.2; omega
        exact this fs _ h3
      have hdl : ds.length = P.cellsOf f.type := by
        have := k1.length
        rw [List.length_take, List.length_drop] at this
        omega
      obtain ⟨parts, p1, p2, p3⟩ := open_fields hcs ih fs (off + P.cellsOf f.type) xs hbound h3 (by simpa using hx) (fun i g hg => by
        have := hall (i + 1) g hg
        simpa using this)
      refine ⟨ds :: parts, by simp [p1], ?_, fun i g y p hg hy hp => ?_⟩
      · have e : cs.drop off = (cs.drop off).take (P.cellsOf f.type) ++ cs.drop (off + P.cellsOf f.type) := by
          rw [← List.drop_drop, List.take_append_drop]
        rw [List.flatten_cons, e]
        exact rcells_append k1 p2
      · cases i with
        | zero =>
          simp only [List.getElem?_cons_zero, Option.some.injEq, List.map_cons] at hg hy hp
          subst hg; subst hy; subst hp
          exact ⟨hdl, k2⟩
        | succ i =>
          simp only [List.getElem?_cons_succ, List.map_cons] at hg hy hp
          exact p3 i g y p hg hy hp

/-- Whatever plain type it is of. -/
theorem open_D {S : List TypeId} (hS : plainSet P S = true) : ∀ (n : Nat) (t : TypeId) (cs : List Value) (x : DataW H × List MemPlace), t ∈ S → DataW.trod enc P W 0 (fun _ => true) true n t cs = some x →
    ∃ ds, RCells (I0 W) ds cs ∧ Op P n t x.1 ds
  | 0, t, cs, x, _, h => by simp [DataW.trod] at h
  | n + 1, t, cs, x, ht, h => by
    have hp : plainTy P S t = true := by
      unfold plainSet at hS
      rw [List.all_eq_true] at hS
      exact hS t ht
    unfold plainTy at hp
    split at hp
    · rename_i hu
      obtain ⟨b, rfl, rfl⟩ := DataW.trod_bool hu h
      refine ⟨[.b b], by (simp only [RCells, RD]; exact ⟨_, [], rfl, ⟨rfl, rfl⟩, rfl⟩), ?_⟩
      simp only [Op, hu]
      exact ⟨b, rfl, rfl⟩
    · rename_i hu
      obtain ⟨s, rfl, rfl, hs⟩ := DataW.trod_string hu h
      refine ⟨[.s s.data.toList], by (simp only [RCells, RD]; exact ⟨_, [], rfl, ⟨by cases s; rfl, rfl⟩, rfl⟩), ?_⟩
      simp only [Op, hu]
      refine ⟨_, rfl, rfl, ?_⟩
      have : s.data.toList.length = s.size := by cases s; rfl
      rw [this]; exact hs
    · rename_i k hu
      obtain ⟨m, rfl, rfl, hw⟩ := DataW.trod_int hu h
      refine ⟨[.i k m], by (simp only [RCells, RD]; exact ⟨_, [], rfl, ⟨rfl, rfl⟩, rfl⟩), ?_⟩
      simp only [Op, hu]
      exact ⟨m, rfl, rfl, hw⟩
    · rename_i e hu
      simp only [Bool.and_eq_true] at hp
      have he : e ∈ S := by simpa using hp.1.1
      have hpos : 0 < P.cellsOf e := nblt_iff.1 hp.1.2
      rcases open_slice hu h with ⟨rfl, rfl⟩ | ⟨a, len, cap, m, n', D', Pl, rfl, _, hl, hc, hm, rfl, hx⟩
      · refine ⟨[.sl (P.cellsOf e) []], by (unfold RCells; exact ⟨_, [], rfl, ⟨by (unfold RD; exact ⟨none, 0, rfl, Nat.le_refl _, .inl rfl⟩), rfl⟩, by unfold RCells; rfl⟩), ?_⟩
        unfold Op
        rw [hu]
        exact .inl ⟨rfl, rfl⟩
      · simp only [if_true] at hm
        subst hm
        -- the fuel is one for all
        have h' := h
        rcases DataW.trod_slice hu h with ⟨h0, _⟩ | ⟨a2, len2, cap2, elems, rest, n2, e2, e3, e4, _, _, _, e5, e6, _, _⟩
        · cases h0
        · cases e3
          have hn : n2 = n := by omega
          subst hn
          have each : ∀ i, i < len → ∃ p : List Value × List D, W.cells? 0 (a.add (i * P.cellsOf e)) (P.cellsOf e) = some p.1 ∧ RCells (I0 W) p.2 p.1 ∧ ∀ y, elems[i]? = some y → Op P n2 e y.1 p.2 := by
            intro i hi
            have h6 := e6 i hi
            rw [List.getElem?_eq_getElem (by omega)] at h6
            obtain ⟨cs', g1, g2⟩ := Option.bind_eq_some_iff.1 h6
            obtain ⟨ds, k1, k2⟩ := open_D hS n2 e cs' _ he g2
            exact ⟨(cs', ds), g1, k1, fun y hy => by
              rw [List.getElem?_eq_getElem (by omega)] at hy
              cases hy; exact k2⟩
          obtain ⟨R, hR⟩ := choose_lt each
          have hrl : ∀ (i : Nat) r, ((List.range len).map fun i => (R i).2)[i]? = some r → i < len ∧ r = (R i).2 := by
            intro i r hr
            rw [List.getElem?_map] at hr
            by_cases hi : i < len
            · rw [List.getElem?_range hi] at hr
              simp only [Option.map_some, Option.some.injEq] at hr
              exact ⟨hi, hr.symm⟩
            · rw [List.getElem?_eq_none (by simpa using hi)] at hr
              cases hr
          have hrlen : ∀ i, i < len → (R i).2.length = P.cellsOf e := by
            intro i hi
            obtain ⟨g1, g2, _⟩ := hR i hi
            have h1 := (World.cells?_some g1).2.1
            have h2 := g2.length
            omega
          refine ⟨[.sl (P.cellsOf e) ((List.range len).map fun i => (R i).2)], ?_, ?_⟩
          · simp only [RCells]
            refine ⟨_, [], rfl, ⟨?_, rfl⟩, rfl⟩
            simp only [RD]
            refine ⟨some a, m, by simp, by simpa using hl, ?_⟩
            by_cases hz : len = 0
            · left; subst hz; rfl
            · right
              have hsp : a.spot = none := by
                obtain ⟨g1, g2, _⟩ := hR 0 (by omega)
                have := (World.cells?_some g1).2.2 0 (by omega)
                have hl1 := (World.cells?_some g1).2.1
                rw [List.getElem?_eq_getElem (by omega)] at this
                have := (cell0 this).1
                simpa [Addr.add] using this
              refine ⟨a.block, a.off, by cases a; simp at hsp; rw [hsp], rrows_of fun i r hr => ?_⟩
              obtain ⟨hi, rfl⟩ := hrl i r hr
              refine ⟨hrlen i hi, ?_⟩
              obtain ⟨g1, g2, _⟩ := hR i hi
              obtain ⟨_, hl1, hce⟩ := World.cells?_some g1
              refine ⟨_, g2, ?_⟩
              apply List.ext_getElem?
              intro j
              unfold cut
              by_cases hj : j < P.cellsOf e
              · rw [List.getElem?_take_of_lt hj, List.getElem?_drop]
                have := hce j hj
                rw [List.getElem?_eq_getElem (by omega)] at this
                have := (cell0 this).2
                rw [add_add] at this
                have e1 : (a.add (i * P.cellsOf e + j)).block = a.block ∧ (a.add (i * P.cellsOf e + j)).off = a.off + (i * P.cellsOf e + j) := by
                  unfold Addr.add
                  split <;> simp_all
                rw [e1.1, e1.2, ← Nat.add_assoc] at this
                rw [this, List.getElem?_eq_getElem (by omega)]
              · rw [List.getElem?_take_eq_none (by omega), List.getElem?_eq_none (by omega)]
          · unfold Op
            rw [hu]
            right
            have hes : (elems.map (·.1)) = (List.range len).map D' := by
              have := congrArg (fun z => match z with
                | DataW.slice es _ => es
                | _ => []) (congrArg Prod.fst e4)
              simpa using this.symm
            refine ⟨_, _, _, rfl, rfl, by simp; omega, by simp, fun i x r hx' hr => ?_⟩
            obtain ⟨hi, rfl⟩ := hrl i r hr
            refine ⟨hrlen i hi, ?_⟩
            rw [← hes, List.getElem?_map] at hx'
            cases hy : elems[i]? with
            | none => rw [hy] at hx'; cases hx'
            | some y =>
              rw [hy] at hx'
              simp only [Option.map_some, Option.some.injEq] at hx'
              rw [← hx']
              exact (hR i hi).2.2 y hy
    · rename_i fs hu
      obtain ⟨xs, m, e1, rfl, hl, hxl, hall⟩ := DataW.trod_struct hu h
      have hm : m = n := by omega
      subst hm
      obtain ⟨parts, p1, p2, p3⟩ := open_fields (cs := cs) (tot := P.cellsOf t) hl (fun t cs x ht h => open_D hS m t cs x ht h) fs.toList 0 xs (Nat.zero_le _) hp (by simpa using hxl) (fun i f hf => hall i f (by simpa using hf))
      rw [List.drop_zero] at p2
      refine ⟨_, p2, ?_⟩
      simp only [Op, hu]
      exact ⟨_, parts, rfl, rfl, by simpa using hxl, by simpa using p1, fun i f x p hf hx hp => p3 i f x p (by simpa using hf) hx hp⟩
    · cases hp

end
end Go.Eng
namespace Go.Eng
open Go.RowKit Go.ChangeShapes Go.WideShapes Go.Deep

/-- An argument, of its cells. -/
def argT (P : Program) (t : TypeId) (ds : List D) : T := match P.underlying t with
  | some (.struct _) => .d (.ag ds)
  | _ => match ds with
    | [x] => .d x
    | _ => .d (.ag ds)

/-- The arguments of a law: what they read as, as values. -/
def ArgsOK (P : Program) {H : Type} : List TypeId → List (DataW H) → List T → Prop
  | [], [], ws => ws = []
  | t :: ts, d :: ds, ws => ∃ n cells rest, ws = argT P t cells :: rest ∧ Op P n t d cells ∧ ArgsOK P ts ds rest
  | _, _, _ => False

section
variable {H : Type} {enc : TypeId × Value → H} {P : Program} {W : World}

theorem open_arg {S : List TypeId} (hS : plainSet P S = true) {t : TypeId} {v : Value} {d : DataW H} {ps : List MemPlace} {r : Reach} {b0 : Nat} (ht : t ∈ S) (hval : Value.okWide P W r b0 t v)
    (h : DataW.Trod enc P W 0 (fun _ => true) true t v d ps) : ∃ n cells, Op P n t d cells ∧ ∀ κ, RT (I0 W) κ W 0 none (argT P t cells) v := by
  obtain ⟨n, hf⟩ := h
  obtain ⟨ds, h1, h2⟩ := open_D hS n t _ _ ht hf
  refine ⟨n, ds, h2, fun κ => ?_⟩
  have hp : plainTy P S t = true := by
    unfold plainSet at hS
    rw [List.all_eq_true] at hS
    exact hS t ht
  have one : ∀ u : Value, v = u → u.cells = #[u] → (∀ fs, P.underlying t ≠ some (.struct fs)) → RT (I0 W) κ W 0 none (argT P t ds) v := by
    rintro u rfl hu hns
    rw [hu] at h1
    cases ds with
    | nil => simp [RCells] at h1
    | cons x ds =>
      cases ds with
      | cons y ds =>
        have := h1.length
        simp at this
      | nil =>
        simp only [RCells] at h1
        obtain ⟨w, ws, e, ⟨h3, _⟩, _⟩ := h1
        simp only [List.cons.injEq] at e
        rw [← e.1] at h3
        unfold argT
        split
        · rename_i fs hu; exact absurd hu (hns fs)
        · simp only [RT]; exact h3
  unfold plainTy at hp
  split at hp
  · rename_i hu; obtain ⟨b, rfl⟩ := okWide_bool hu hval; exact one _ rfl rfl (fun fs h => by rw [hu] at h; cases h)
  · rename_i hu; obtain ⟨b, rfl⟩ := okWide_string hu hval; exact one _ rfl rfl (fun fs h => by rw [hu] at h; cases h)
  · rename_i k hu; obtain ⟨b, rfl⟩ := okWide_int hu hval; exact one _ rfl rfl (fun fs h => by rw [hu] at h; cases h)
  · rename_i e hu; obtain ⟨a, l, c, rfl⟩ := okWide_slice hu hval; exact one _ rfl rfl (fun fs h => by rw [hu] at h; cases h)
  · rename_i fs hu
    obtain ⟨cs, rfl, hc⟩ := okWide_struct hu hval
    have e : argT P t ds = .d (.ag ds) := by unfold argT; rw [hu]
    rw [e]
    simp only [RT, RD]
    exact ⟨cs.toList, by simp, h1⟩
  · cases hp

theorem open_args {S : List TypeId} (hS : plainSet P S = true) {r : Reach} {b0 : Nat} : ∀ {ts : List TypeId} {vs : List Value} {ds : List (DataW H)} {ps : List MemPlace}, (∀ t ∈ ts, t ∈ S) → (∀ (j : Nat) t v, ts[j]? = some t → vs[j]? = some v → Value.okWide P W r b0 t v) →
    DataW.TrodAll enc P W 0 (fun _ => true) true ts vs ds ps → ∃ ws, ArgsOK P ts ds ws ∧ ∀ κ, RTs (I0 W) κ W 0 ws vs
  | [], vs, ds, ps, _, _, h => by
    obtain ⟨rfl, rfl, rfl⟩ := trodAll_nil h
    exact ⟨[], rfl, fun κ => by simp only [RTs]⟩
  | t :: ts, vs, ds, ps, hm, hv, h => by
    obtain ⟨v, vs', d, ds', p, q, rfl, rfl, rfl, h1, h2⟩ := trodAll_cons h
    obtain ⟨n, cells, k1, k2⟩ := open_arg hS (hm t (by simp)) (hv 0 t v rfl rfl) h1
    obtain ⟨ws, k3, k4⟩ := open_args hS (fun t ht => hm t (by simp [ht])) (fun j t' v' e1 e2 => hv (j + 1) t' v' e1 e2) h2
    exact ⟨argT P t cells :: ws, ⟨n, cells, ws, rfl, k1, k3⟩, fun κ => by simp only [RTs]; exact ⟨v, vs', rfl, k2 κ, k4 κ⟩⟩

/-- What was there reads as it did. -/
theorem args_stay (hl : laidOutB P = true) {W' : World} (hb : Below W.heap.size W W') : ∀ {ts : List TypeId} {vs : List Value} {ds : List (DataW H)} {ps : List MemPlace}, (ts.all fun t => P.readableRec t && decide (t < P.types.size)) = true →
    DataW.TrodAll enc P W 0 (fun _ => true) true ts vs ds ps → DataW.TrodAll enc P W' 0 (fun b => decide (b < W.heap.size)) true ts vs ds ps
  | [], vs, ds, ps, _, h => by
    obtain ⟨rfl, rfl, rfl⟩ := trodAll_nil h
    exact trodAll_mk0
  | t :: ts, vs, ds, ps, hr, h => by
    obtain ⟨v, vs', d, ds', p, q, rfl, rfl, rfl, h1, h2⟩ := trodAll_cons h
    simp only [List.all_cons, Bool.and_eq_true, decide_eq_true_eq] at hr
    refine trodAll_cons_mk ?_ (args_stay hl hb hr.2 h2)
    refine hb.trod hl hr.1.1 hr.1.2 h1 ?_
    obtain ⟨n, hn⟩ := h1
    exact DataW.trod_lt n t _ _ hn

/-- A law's call, from the run. -/
theorem law_calls {w0 : World} {f : FuncId} {ws : List T} {args : Array Value} (hb : Below w0.heap.size w0 W) (he : w0 = W) (ok : CallOK P w0 f ws [] (.ret (.d (.b true)) [])) (h : ∀ κ, RTs (I0 W) κ W 0 ws args.toList) :
    Calls P f args W fun e w' => e = .returned (.bool true) ∧ Below W.heap.size W w' := by
  subst he
  have hr : Rel w0 0 (I0 w0) (fun _ => none) ⟨[], [], []⟩ #[] w0 :=
    ⟨Below.refl _ _, sat0 w0, rfl, (fun t x hx => by simp [aget] at hx), (fun f t cells hc => by rw [obAt_nil] at hc; cases hc), (fun _ _ _ h => by cases h), (fun _ _ h => by cases h)⟩
  have := (ok.go (I0 w0) (fun _ => none) w0 args.toList hr (fun k b h => by cases h) (h _))
  have ha : (⟨args.toList⟩ : Array Value) = args := by simp
  rw [ha] at this
  refine this.mono fun e w' he => ?_
  obtain ⟨I', κ', hret, _⟩ := he
  cases e with
  | returned u =>
    obtain ⟨hr', hu⟩ := hret
    have := hu _ rfl
    simp only [RT, RD] at this
    subst this
    exact ⟨rfl, hr'.below⟩
  | _ => exact hret.elim

theorem trodAll_len {b : Nat → Bool} : ∀ {ts : List TypeId} {vs : List Value} {ds : List (DataW H)} {ps : List MemPlace}, DataW.TrodAll enc P W 0 b true ts vs ds ps → ds.length = ts.length
  | [], vs, ds, ps, h => by obtain ⟨_, rfl, _⟩ := trodAll_nil h; rfl
  | t :: ts, vs, ds, ps, h => by
    obtain ⟨v, vs', d, ds', p', q', rfl, rfl, rfl, h1, h2⟩ := trodAll_cons h
    simp only [List.length_cons]
    rw [trodAll_len h2]

/-- WHAT THE ROW ASKS, of a law that answers true and leaves its arguments alone. -/
theorem law_contract {S : List TypeId} (hS : plainSet P S = true) (hlo : laidOutB P = true) {f : FuncId} {fn : Func} {spec : ChangeSpec} {tb : TypeId} (hts : (fn.params.toList.all fun t => S.contains t && (P.readableRec t && decide (t < P.types.size))) = true) (hres : fn.resultTypes = #[tb]) (hbool : P.underlying tb = some .bool) (hvars : spec.vars = [])
    (hfn : ∀ ds : List (DataW H), ds.length = fn.params.toList.length → spec.fn H ds = { results := [.lit (.bool true)], args := ds })
    {args : Array Value} {ds gs : List (DataW H)} {before : List MemPlace} {b0 : Nat} (hval : ∀ (j : Nat) t v, fn.params[j]? = some t → args[j]? = some v → Value.okWide P W .any b0 t v)
    (hW : DataW.Whole enc P fn.params.toList spec.vars false W args.toList ds gs before)
    (law : ∀ ws, ArgsOK P fn.params.toList ds ws → CallOK P W f ws [] (.ret (.d (.b true)) [])) :
    Calls P f args W fun e W' => ∃ v, e = .returned v ∧ spec.post enc P fn false true false false W args v W' := by
  have hW' := hW
  obtain ⟨p, q, hA, hV, rfl, hfz, hnd⟩ := hW
  rw [hvars] at hV
  obtain ⟨rfl, rfl⟩ := trodVars_none hV
  rw [List.all_eq_true] at hts
  obtain ⟨ws, k1, k2⟩ := open_args hS (r := .any) (b0 := b0) (fun t ht => by have := hts t ht; simp only [Bool.and_eq_true] at this; simpa using this.1) (fun j t v e1 e2 => hval j t v (by simpa using e1) (by simpa using e2)) hA
  have hlen : ds.length = fn.params.toList.length := by
    exact trodAll_len hA
  refine (law_calls (Below.refl _ _) rfl (law ws k1) k2).mono fun e W' ⟨he, hb⟩ => ?_
  subst he
  have e1 : spec.fn H (ds ++ []) = { results := [.lit (.bool true)], args := ds } := by rw [List.append_nil]; exact hfn ds hlen
  refine ⟨_, rfl, _, _, _, [], p, [], hW', ?_, ?_, ?_, hb.frame _, fun h => by cases h⟩
  · rw [e1, hres]
    exact trodAll_cons_mk (shut_bool hbool _) trodAll_mk0
  · rw [e1]
    exact args_stay hlo hb (by
      rw [List.all_eq_true]
      intro t ht
      have := hts t ht
      rw [Bool.and_eq_true] at this
      exact this.2) hA
  · rw [e1, hvars]; rfl

end
end Go.Eng
