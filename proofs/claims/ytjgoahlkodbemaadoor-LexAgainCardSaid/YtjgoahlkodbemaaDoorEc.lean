/-
  The engine, part P: calls.
-/
import Derived.Test.YtjgoahlkodbemaaDoorEb
import Derived.Orders
namespace Go.Eng
open Go.RowKit

def Km.push (κ : Km) : Km := fun k => match k.fr with
  | 0 => none
  | m + 1 => κ ⟨m, k.k, k.t, k.j⟩

def Km.pop (κ : Km) : Km := fun k => κ ⟨k.fr + 1, k.k, k.t, k.j⟩

def resKey : Key := ⟨0, 3, 0, 0⟩

def Callable (P : Program) (f : FuncId) : Prop := ∃ fn c, P.funcs[f]? = some fn ∧ (fn.name == "runtime.NumGoroutine") = false ∧ fn.body = some c

/-- What a call leaves, as the callee sees it. -/
def RetOK (w0 : World) (r : Res) (I : Fz) (κ : Km) (e : Ending) (w : World) : Prop := match r, e with
  | .ret v ou, .returned u => Rel w0 0 I κ ⟨[], [], ou⟩ #[] w ∧ ∀ z, unsh v = some z → RT I κ w 0 (κ resKey) v u
  | .pan d ou, .panicked chain => Rel w0 0 I κ ⟨[], [], ou⟩ #[] w ∧ ∃ v, chain = [{ v, recovered := false }] ∧ RD I d v
  | _, _ => False

/-- A call comes to what the plain one comes to. -/
structure CallOK (P : Program) (w0 : World) (f : FuncId) (ws : List T) (ou : List Ob) (r : Res) : Prop where
  callable : Callable P f
  go : ∀ I κ w us, Rel w0 0 I κ ⟨[], [], ou⟩ #[] w → (∀ k b, κ k = some b → 1 ≤ k.fr) → RTs I κ w 0 ws us →
    Calls P f ⟨us⟩ w (fun e w' => ∃ I' κ', RetOK w0 r I' κ' e w' ∧ Ext I κ w I' κ' w')

section
variable {P : Program} {w0 : World} {n : Nat} {I : Fz} {κ : Km} {st : St} {tm : Array Value} {w : World} {α : Type} {r : α}

theorem obAt_push {ob : Ob} {ou : List Ob} {f t : Nat} : obAt [] (ob :: ou) f t = match f with
  | 0 => none
  | g + 1 => obAt ob ou g t := by
  cases f with
  | zero => rfl
  | succ g => cases g <;> rfl

theorem obAt_nil {f t : Nat} : obAt [] [] f t = none := by cases f <;> simp [obAt, aget]

theorem push_prot {b : Nat} (h : Prot κ b) : Prot κ.push b := by
  intro k hk
  unfold Km.push at hk
  split at hk
  · cases hk
  · rename_i m e
    have := h _ hk
    exact ⟨by omega, this.2⟩

theorem Rel.push (hr : Rel w0 n I κ st tm w) : Rel w0 0 I κ.push ⟨[], [], st.ob :: st.ou⟩ #[] w := by
  refine ⟨hr.below, hr.sat, rfl, fun t x hx => by simp [aget] at hx, fun f t cells hc => ?_, ?_, ?_⟩
  · simp only [obAt_push] at hc
    split at hc
    · cases hc
    · rename_i g
      obtain ⟨b, cs, ty, e1, e2, e3, e4, e5⟩ := hr.objs g t cells hc
      refine ⟨b, cs, ty, e1, e2, e3, e4, fun j x hx => ?_⟩
      obtain ⟨v, g1, g2, g3⟩ := e5 j x hx
      refine ⟨v, g1, g2, RT.mono (Fz.le_refl I) (fun h t => ?_) (fun _ _ => ⟨rfl, rfl⟩) g3⟩
      show κ.push ⟨g + 1 + h, 0, t, 0⟩ = _
      have : g + 1 + h = g + h + 1 := by omega
      rw [this]
      rfl
  · intro k k' b h h'
    unfold Km.push at h h'
    split at h
    · cases h
    · split at h'
      · cases h'
      · rename_i m e m' e'
        have := hr.inj _ _ _ h h'
        simp only [Key.mk.injEq] at this
        cases k; cases k'
        simp only at *
        simp only [Key.mk.injEq]
        omega
  · intro k b h
    unfold Km.push at h
    split at h
    · cases h
    · exact hr.own _ _ h

theorem RTs.allD {κ' : Km} {f f' : Nat} {w' : World} : ∀ {l : List T} {us : List Value}, allD l = true → RTs I κ w f l us → RTs I κ' w' f' l us
  | [], us, _, h => by simp only [RTs] at *; exact h
  | x :: l, us, hl, h => by
    simp only [RTs] at *
    obtain ⟨v, ws, rfl, h1, h2⟩ := h
    cases x <;> simp [Eng.allD] at hl
    exact ⟨v, ws, rfl, by simpa only [RT] using h1, RTs.allD hl h2⟩

/-- Back in the caller. -/
theorem Rel.back {I' : Fz} {κ' : Km} {w' : World} {ob : Ob} {ou : List Ob} (hr : Rel w0 n I κ st tm w) (hc : Rel w0 0 I' κ' ⟨[], [], ob :: ou⟩ #[] w') (he : Ext I κ.push w I' κ' w') :
    Rel w0 n I' κ'.pop { st with ob, ou } tm w' ∧ Ext I κ w I' κ'.pop w' := by
  have hkeys : ∀ k : Key, k.k ≠ 2 → κ'.pop k = κ k := fun k hk => he.keys ⟨k.fr + 1, k.k, k.t, k.j⟩ (by simp) hk
  refine ⟨⟨hc.below, hc.sat, hr.size, fun t x hx => ?_, fun f t cells hcs => ?_, ?_, fun k b h => hc.own _ _ h⟩, he.le, he.size, fun k h1 h2 => hkeys k h2, fun b hb hp => he.keep b hb (push_prot hp), fun q b hq hb => ?_⟩
  · obtain ⟨v, e1, e2⟩ := hr.tms t x hx
    refine ⟨v, e1, ?_⟩
    rw [hkeys _ (by simp)]
    refine RT.mono he.le (fun g t => hkeys _ (by simp)) (fun b hb => ?_) e2
    refine he.keep b (hr.own _ _ hb).2 (fun k hk => ?_)
    unfold Km.push at hk
    split at hk
    · cases hk
    · rename_i m e
      have := hr.inj _ _ _ hk hb
      simp only [Key.mk.injEq] at this
      omega
  · obtain ⟨b, cs, ty, e1, e2, e3, e4, e5⟩ := hc.objs (f + 1) t cells (by rw [obAt_push]; exact hcs)
    refine ⟨b, cs, ty, e1, e2, e3, e4, fun j x hx => ?_⟩
    obtain ⟨v, g1, g2, g3⟩ := e5 j x hx
    refine ⟨v, g1, g2, RT.mono (Fz.le_refl I') (fun h t => ?_) (fun _ _ => ⟨rfl, rfl⟩) g3⟩
    show κ' ⟨f + h + 1, 0, t, 0⟩ = κ' ⟨f + 1 + h, 0, t, 0⟩
    congr 2
    omega
  · intro k k' b h h'
    have := hc.inj _ _ _ h h'
    simp only [Key.mk.injEq] at this
    cases k; cases k'
    simp only at *
    simp only [Key.mk.injEq]
    omega
  · rcases he.old _ _ hq hb with h | h
    · exact .inl h
    · exact .inr fun hp => h (push_prot hp)

theorem unsh_sound {κ' : Km} {bo : Option Nat} {v u : T} {x : Value} (hu : unsh v = some u) (h : RT I κ' w 0 bo v x) : RT I κ'.pop w 0 bo u x := by
  unfold unsh at hu
  split at hu
  · cases hu; simpa only [RT] using h
  · cases hu; simpa only [RT] using h
  · cases hu; simpa only [RT] using h
  · cases e : allD ‹List T› with
    | false => rw [e] at hu; cases hu
    | true =>
      rw [e] at hu
      cases hu
      simp only [RT] at *
      obtain ⟨vs, rfl, h⟩ := h
      exact ⟨vs, rfl, h.allD e⟩
  · cases hu; simpa only [RT] using h
  · cases hu
    simp only [RT] at *
    exact h
  · cases hu
    simp only [RT] at *
    obtain ⟨b, h, rfl⟩ := h
    refine ⟨b, ?_, rfl⟩
    rw [← h]
    show κ' ⟨_, _, _, _⟩ = _
    congr 2
  · cases hu

/-- A call whose arguments hold no address: it touches nothing of the caller's. -/
theorem call_data {f : FuncId} {vs ws : List T} {us : List Value} {res : Res} (hr : Rel w0 n I κ st tm w) (hC : CallOK P w0 f ws [] res) (hs : shs 1 vs = some ws) (hd : allD ws = true) (hus : RTs I κ w 0 vs us) :
    Calls P f ⟨us⟩ w (fun e w' => match res, e with
      | .ret v _, .returned x => ∀ u, unsh v = some u → ∃ I' bo, Gr I w I' w' ∧ RT I' κ w' 0 bo u x ∧ ∀ b, bo = some b → w.heap.size ≤ b ∧ b < w'.heap.size
      | .pan d _, .panicked chain => ∃ I' v, Gr I w I' w' ∧ chain = [{ v, recovered := false }] ∧ RD I' d v
      | _, _ => False) := by
  have h1 : RTs I κ.push w 0 ws us := shs_sound (fun _ _ => rfl) hus hs
  have h0 : Rel w0 0 I (fun _ => none) ⟨[], [], []⟩ #[] w :=
    ⟨hr.below, hr.sat, rfl, (fun t x hx => by simp [aget] at hx), (fun f t cells hc => by rw [obAt_nil] at hc; cases hc), (fun _ _ _ h => by cases h), (fun _ _ h => by cases h)⟩
  have grow : ∀ {I' : Fz} {κ' : Km} {w' : World} {ou : List Ob}, Rel w0 0 I' κ' ⟨[], [], ou⟩ #[] w' → Ext I (fun _ => none) w I' κ' w' → Gr I w I' w' := by
    intro I' κ' w' ou hr' he
    have keep : ∀ b, b < w.heap.size → w'.heap[b]? = w.heap[b]? ∧ I' b = I b := fun b hb => he.keep b hb (fun k hk => by cases hk)
    exact ⟨⟨hr'.below.os.trans hr.below.os.symm, hr'.below.tape.trans hr.below.tape.symm, hr'.below.output.trans hr.below.output.symm, he.size, fun b hb => (keep b hb).1⟩, fun b hb => (keep b hb).2, hr'.sat⟩
  refine (hC.go I (fun _ => none) w us h0 (fun k b h => by cases h) (h1.allD hd)).mono fun e w' h => ?_
  obtain ⟨I', κ', h, he⟩ := h
  cases res with
  | ret v ou =>
    cases e with
    | returned x =>
      obtain ⟨hr', hx⟩ := h
      intro u hu
      replace hx := hx u hu
      refine ⟨I', κ' resKey, grow hr' he, ?_, fun b hb => ⟨?_, (hr'.own _ _ hb).2⟩⟩
      · unfold unsh at hu
        split at hu
        · cases hu; simpa only [RT] using hx
        · cases hu; simpa only [RT] using hx
        · cases hu; simpa only [RT] using hx
        · cases e : allD ‹List T› with
          | false => rw [e] at hu; cases hu
          | true =>
            rw [e] at hu
            cases hu
            simp only [RT] at *
            obtain ⟨vs, rfl, h⟩ := hx
            exact ⟨vs, rfl, h.allD e⟩
        · cases hu; simpa only [RT] using hx
        · simp only [RT] at hx
          obtain ⟨b, hb, _⟩ := hx
          rw [he.keys _ (by simp) (by simp)] at hb
          cases hb
        · simp only [RT] at hx
          obtain ⟨b, hb, _⟩ := hx
          rw [he.keys _ (by simp) (by simp)] at hb
          cases hb
        · cases hu
      · rcases Nat.lt_or_ge b w.heap.size with hlt | hge
        · rcases he.old _ _ hb hlt with h | h
          · cases h
          · exact absurd (fun k hk => by cases hk) h
        · exact hge
    | _ => exact h.elim
  | pan d ou =>
    cases e with
    | panicked chain =>
      obtain ⟨hr', v, hv, hx⟩ := h
      exact ⟨I', v, grow hr' he, hv, hx⟩
    | _ => exact h.elim

/-- Any other call. -/
theorem call_full {f : FuncId} {vs ws : List T} {us : List Value} {res : Res} (hr : Rel w0 n I κ st tm w) (hC : CallOK P w0 f ws (st.ob :: st.ou) res) (hs : shs 1 vs = some ws) (hus : RTs I κ w 0 vs us) {dst : Option Nat} (hd : ∀ d, dst = some d → d < n) :
    Calls P f ⟨us⟩ w (fun e w' => match res, e with
      | .ret v (ob :: ou), .returned x => ∀ u, unsh v = some u → ∃ I' κ', Rel w0 n I' κ' (St.put { st with ob, ou } dst u) (putA tm dst x) w' ∧ Ext I κ w I' κ' w'
      | .pan d (ob :: ou), .panicked chain => ∃ I' κ' v, Rel w0 n I' κ' { st with ob, ou } tm w' ∧ Ext I κ w I' κ' w' ∧ chain = [{ v, recovered := false }] ∧ RD I' d v
      | .ret _ [], .returned _ | .pan _ [], .panicked _ => True
      | _, _ => False) := by
  refine (hC.go I κ.push w us hr.push (fun k b h => by
    unfold Km.push at h
    split at h
    · cases h
    · omega) (shs_sound (fun _ _ => rfl) hus hs)).mono fun e w' h => ?_
  obtain ⟨I', κ', h, he⟩ := h
  cases res with
  | ret v ou' =>
    cases e with
    | returned x =>
      cases ou' with
      | nil => trivial
      | cons ob ou =>
        obtain ⟨hr', hx⟩ := h
        intro u hu
        replace hx := hx u hu
        obtain ⟨hb, heb⟩ := hr.back hr' he
        have hx' := unsh_sound hu hx
        cases dst with
        | none => exact ⟨I', κ'.pop, hb, heb⟩
        | some d =>
          refine ⟨I', _, hb.set (hd d rfl) hx' (fun b e => ⟨hr'.own _ _ e, fun k hk => ?_⟩), heb.le, heb.size, fun k h1 h2 => ?_, heb.keep, fun q b hq hlt => ?_⟩
          · have := hr'.inj _ _ _ hk e
            simp [resKey] at this
          · rw [Km.set_ne _ _ (by rintro rfl; simp at h1)]
            exact heb.keys k h1 h2
          · unfold Km.set at hq
            split at hq
            · rcases he.old _ _ hq hlt with h | h
              · cases h
              · exact .inr fun hp => h (push_prot hp)
            · exact heb.old q b hq hlt
    | _ => exact h.elim
  | pan d ou' =>
    cases e with
    | panicked chain =>
      cases ou' with
      | nil => trivial
      | cons ob ou =>
        obtain ⟨hr', v, hv, hx⟩ := h
        obtain ⟨hb, heb⟩ := hr.back hr' he
        exact ⟨I', κ'.pop, v, hb, heb, hv, hx⟩
    | _ => exact h.elim

end
end Go.Eng
namespace Go.Eng
open Go.RowKit

/-- A call. -/
def matchC (io : IOp) (op : Op) : Bool := match io with
  | .call f l | .callP f l => match op with
    | .call ⟨.value a, args, _⟩ => matchO a (.f f) && matchOs args.toList l
    | _ => false
  | .callv x l => match op with
    | .call ⟨.value a, args, _⟩ => matchO a x && matchOs args.toList l
    | _ => false
  | _ => false

def dstP (n : Nat) : Option Nat → Option Nat → Bool
  | none, none => true
  | some d, some e => Nat.beq d e && Nat.blt d n
  | _, _ => false

def guardP (ops : Array Oper) : Option (Nat × Bool) → Option (Nat × Bool) → Bool
  | none, none => true
  | some (j, a), some (t, b) => (a == b) && (match ops[j]? with
    | some p => (match p.dst with
      | some d => Nat.beq d t
      | none => false)
    | none => false)
  | _, _ => false

def matchOp (P : Program) (n : Nat) (ops : Array Oper) (o : Oper) (io : IOper) : Bool :=
  dstP n o.dst io.dst && needs io.op io.dst && (matchV P io.op o.op || matchS P io.op o.op || matchC io.op o.op) && guardP ops o.guard io.g

def Cont {α : Type} (w0 : World) (n : Nat) (K : Act → World → Prop) (y : St → Option α) (r : α) (I : Fz) (κ : Km) (w : World) : Prop :=
  ∀ I' κ' st' tm' w', Rel w0 n I' κ' st' tm' w' → Ext I κ w I' κ' w' → y st' = some r → K ⟨tm', []⟩ w'

def ContZ {α : Type} (w0 : World) (n : Nat) (Q : Exit → Act → World → Prop) (z : D → St → Option α) (r : α) (I : Fz) (κ : Km) (w : World) : Prop :=
  ∀ I' κ' st' tm' w' d v, Rel w0 n I' κ' st' tm' w' → Ext I κ w I' κ' w' → RD I' d v → z d st' = some r → Q (.panic [{ v, recovered := false }]) ⟨tm', []⟩ w'

section
variable {P : Program} {w0 : World} {n : Nat} {I : Fz} {κ : Km} {st : St} {tm : Array Value} {w : World} {α : Type} {r : α}

theorem Cont.from {K : Act → World → Prop} {y : St → Option α} {I' : Fz} {κ' : Km} {w' : World} (h : Cont w0 n K y r I κ w) (e : Ext I κ w I' κ' w') : Cont w0 n K y r I' κ' w' :=
  fun _ _ _ _ _ hr he hy => h _ _ _ _ _ hr (e.trans he) hy

theorem ContZ.from {Q : Exit → Act → World → Prop} {z : D → St → Option α} {I' : Fz} {κ' : Km} {w' : World} (h : ContZ w0 n Q z r I κ w) (e : Ext I κ w I' κ' w') : ContZ w0 n Q z r I' κ' w' :=
  fun _ _ _ _ _ _ _ hr he hd hz => h _ _ _ _ _ _ _ hr (e.trans he) hd hz

theorem put_act (dst : Option Nat) (v : Value) : (⟨tm, []⟩ : Act).put dst v = ⟨putA tm dst v, []⟩ := by cases dst <;> rfl

theorem StepR.wp {o : Oper} {y : St → Option α} {K : Act → World → Prop} {Q : Exit → Act → World → Prop} (h : StepR P w0 n o y r I κ tm w) (hK : Cont w0 n K y r I κ w) : o.wp P ⟨tm, []⟩ w K Q := by
  obtain ⟨nx, v, w', I', κ', st', h1, h2, h3, h4, h5⟩ := h
  unfold Oper.wp
  rw [h1]
  cases nx with
  | value u =>
    simp only [nextV, Option.some.injEq] at h2
    subst h2
    rw [Oper.upon_value, put_act]
    exact hK _ _ _ _ _ h3 h4 h5
  | skip =>
    simp only [nextV, Option.some.injEq] at h2
    subst h2
    rw [Oper.upon_skip, put_act]
    exact hK _ _ _ _ _ h3 h4 h5
  | _ => simp [nextV] at h2

theorem run_enter {f : FuncId} (hf : Callable P f) {o : Oper} {a : Operand} {args : Array Operand} {ats : Array TypeId} (ho : o.op = .call { callee := .value a, args := args, argTypes := ats }) {ρ : Operand → Value} {caps : Array Value}
    (ha : ρ a = .func (.func f) #[] caps) : (execOp ρ o).run P w = .ok (.enter f (args.map ρ ++ caps)) w := by
  obtain ⟨fn, c, h1, h2, h3⟩ := hf
  have h4 : ¬ fn.name = "runtime.NumGoroutine" := by simpa using h2
  unfold execOp
  rw [ho]
  simp only [resolve, Deferred.ofValue, ha, invoke, Sem.run_bind, Sem.run_pure, Result.andThen_ok, callFunc, run_program, h1, h2, h3, Option.isNone_some, Bool.false_eq_true, if_false, Array.empty_append]

theorem args_list {args : Array Operand} {ρ : Operand → Value} : args.map ρ ++ (⟨[]⟩ : Array Value) = ⟨args.toList.map ρ⟩ := by
  apply Array.ext'
  simp

theorem RTs.app {f : Nat} : ∀ {l m : List T} {us vs : List Value}, RTs I κ w f l us → RTs I κ w f m vs → RTs I κ w f (l ++ m) (us ++ vs)
  | [], m, us, vs, h, k => by simp only [RTs] at h; subst h; exact k
  | x :: l, m, us, vs, h, k => by
    simp only [RTs] at h
    obtain ⟨v, ws, rfl, h1, h2⟩ := h
    simp only [List.cons_append, RTs]
    exact ⟨v, ws ++ vs, rfl, h1, RTs.app h2 k⟩

theorem unshP_some {v u : T} (h : unshP v = some u) : unsh v = some u := (cond_some h).2

/-- Calls through St.call. -/
theorem call_wp {C : CallF} (hC : ∀ f ws ou res, C f ws ou = some res → CallOK P w0 f ws ou res) (hr : Rel w0 n I κ st tm w) {o : Oper} (hd : ∀ d, o.dst = some d → d < n) {f : FuncId} {vs : List T} {us : List Value} (hus : RTs I κ w 0 vs us)
    {y : St → Option α} {z : D → St → Option α} (h : st.call C f vs (fun v st' => y (st'.put o.dst v)) z = some r) (hrun : Callable P f → (execOp (⟨tm, []⟩ : Act).eval o).run P w = .ok (.enter f ⟨us⟩) w)
    {K : Act → World → Prop} {Q : Exit → Act → World → Prop} (hK : Cont w0 n K y r I κ w) (hZ : ContZ w0 n Q z r I κ w) : o.wp P ⟨tm, []⟩ w K Q := by
  unfold St.call at h
  split at h
  · cases h
  · rename_i ws hs
    cases ea : allD ws with
    | true =>
      rw [ea] at h
      simp only [cond_true] at h
      obtain ⟨res, hres, h⟩ := Option.bind_eq_some_iff.1 h
      have ok := hC _ _ _ _ hres
      unfold Oper.wp
      rw [hrun ok.callable, Oper.upon_enter]
      refine (call_data hr ok hs ea hus).mono fun e w' he => ?_
      cases res with
      | ret v ou =>
        cases e with
        | returned x =>
          simp only at h
          split at h
          · rename_i u hu
            obtain ⟨I', bo, g, hx, hb⟩ := he u hu
            obtain ⟨κ', k1, k2⟩ := hr.put g hd hx hb
            show K _ _
            rw [put_act]
            exact hK _ _ _ _ _ k1 k2 h
          · cases h
        | _ => exact he.elim
      | pan d ou =>
        cases e with
        | panicked chain =>
          obtain ⟨I', v, g, rfl, hx⟩ := he
          exact hZ _ _ _ _ _ _ _ (hr.grow g) (g.ext hr.sat) hx h
        | _ => exact he.elim
    | false =>
      rw [ea] at h
      simp only [cond_false] at h
      obtain ⟨res, hres, h⟩ := Option.bind_eq_some_iff.1 h
      have ok := hC _ _ _ _ hres
      unfold Oper.wp
      rw [hrun ok.callable, Oper.upon_enter]
      refine (call_full hr ok hs hus hd).mono fun e w' he => ?_
      cases res with
      | ret v ou' =>
        cases ou' with
        | nil => simp at h
        | cons ob ou =>
          cases e with
          | returned x =>
            simp only at h
            split at h
            · rename_i u hu
              obtain ⟨I', κ', k1, k2⟩ := he u hu
              show K _ _
              rw [put_act]
              exact hK _ _ _ _ _ k1 k2 h
            · cases h
          | _ => exact he.elim
      | pan d ou' =>
        cases ou' with
        | nil => simp at h
        | cons ob ou =>
          cases e with
          | panicked chain =>
            obtain ⟨I', κ', v, k1, k2, rfl, hx⟩ := he
            exact hZ _ _ _ _ _ _ _ k1 k2 hx h
          | _ => exact he.elim

theorem o_sound {C : CallF} (hC : ∀ f ws ou res, C f ws ou = some res → CallOK P w0 f ws ou res) (hr : Rel w0 n I κ st tm w) {ops : Array Oper} {o : Oper} {io : IOper} (hm : matchOp P n ops o io = true)
    {y : St → Option α} {z : D → St → Option α} (h : step C io st y z = some r)
    {K : Act → World → Prop} {Q : Exit → Act → World → Prop} (hK : Cont w0 n K y r I κ w) (hZ : ContZ w0 n Q z r I κ w) : o.wp P ⟨tm, []⟩ w K Q := by
  simp only [matchOp, Bool.and_eq_true, Bool.or_eq_true] at hm
  obtain ⟨⟨⟨m1, m2⟩, m3⟩, _⟩ := hm
  have hd : o.dst = io.dst ∧ ∀ d, o.dst = some d → d < n := by
    unfold dstP at m1
    split at m1
    · rename_i e1 e2
      exact ⟨by rw [e1, e2], fun d e => by rw [e1] at e; cases e⟩
    · rename_i d e e1 e2
      simp only [Bool.and_eq_true] at m1
      have := nbeq_eq m1.1
      subst this
      exact ⟨by rw [e1, e2], fun d' e' => by rw [e1] at e'; cases e'; exact nblt_iff.1 m1.2⟩
    · cases m1
  obtain ⟨hdd, hd⟩ := hd
  obtain ⟨idst, iop, ig⟩ := io
  simp only at hdd m2 m3
  subst hdd
  rcases m3 with m3 | m3
  · exact (s_sound hr hd m3 m2 h).wp hK
  · cases iop with
    | call f l =>
      simp only [matchC] at m3
      split at m3
      · rename_i a args ats e
        simp only [Bool.and_eq_true] at m3
        simp only [step] at h
        split at h
        · rename_i vs hv
          have hus := hr.opds m3.2 hv
          have ha := hr.opd m3.1 (v := .fn f []) rfl
          simp only [RT] at ha
          obtain ⟨caps, ha, hcaps⟩ := ha
          simp only [RTs] at hcaps
          subst hcaps
          refine call_wp hC hr hd hus h (fun hc => ?_) hK hZ
          rw [run_enter hc e ha, args_list]
        · cases h
      · cases m3
    | callP f l =>
      simp only [matchC] at m3
      split at m3
      · rename_i a args ats e
        simp only [Bool.and_eq_true] at m3
        simp only [step] at h
        split at h
        · rename_i vs hv
          split at h
          · rename_i ws hs
            obtain ⟨ea, h⟩ := cond_some h
            obtain ⟨res, hres, h⟩ := Option.bind_eq_some_iff.1 h
            have ok := hC _ _ _ _ hres
            have hus := hr.opds m3.2 hv
            have ha := hr.opd m3.1 (v := .fn f []) rfl
            simp only [RT] at ha
            obtain ⟨caps, ha, hcaps⟩ := ha
            simp only [RTs] at hcaps
            subst hcaps
            unfold Oper.wp
            have hrun := run_enter (w := w) ok.callable e ha
            rw [args_list] at hrun
            rw [hrun, Oper.upon_enter]
            refine (call_data hr ok hs ea hus).mono fun e w' he => ?_
            cases res with
            | ret v ou =>
              cases e with
              | returned x =>
                simp only at h
                split at h
                · rename_i u hu'
                  have hu := unshP_some hu'
                  obtain ⟨I', bo, g, hx, hb⟩ := he u hu
                  obtain ⟨κ', k1, k2⟩ := hr.put g hd hx hb
                  show K _ _
                  rw [put_act]
                  exact hK _ _ _ _ _ k1 k2 h
                · cases h
              | _ => exact he.elim
            | pan d ou => simp at h
          · cases h
        · cases h
      · cases m3
    | callv x l =>
      simp only [matchC] at m3
      split at m3
      · rename_i a args ats e
        simp only [Bool.and_eq_true] at m3
        simp only [step] at h
        split at h
        · rename_i f caps vs hx hv
          have hus := hr.opds m3.2 hv
          have ha := hr.opd m3.1 hx
          simp only [RT] at ha
          obtain ⟨cs, ha, hcaps⟩ := ha
          refine call_wp hC hr hd (hus.app hcaps) h (fun hc => ?_) hK hZ
          rw [run_enter hc e ha]
          simp
        · cases h
      · cases m3
    | _ => simp [matchC] at m3

/-- With its guard. -/
theorem og_sound {C : CallF} (hC : ∀ f ws ou res, C f ws ou = some res → CallOK P w0 f ws ou res) (hr : Rel w0 n I κ st tm w) {ops : Array Oper} {o : Oper} {io : IOper} (hm : matchOp P n ops o io = true)
    {y : St → Option α} {z : D → St → Option α} (h : stepG C io st y z = some r)
    {K : Act → World → Prop} {Q : Exit → Act → World → Prop} (hK : Cont w0 n K y r I κ w) (hZ : ContZ w0 n Q z r I κ w) :
    (Region.wanted o (yielded ops tm) = true → o.wp P ⟨tm, []⟩ w K Q) ∧ (Region.wanted o (yielded ops tm) = false → K ((⟨tm, []⟩ : Act).put o.dst undef) w) := by
  have hm' := hm
  simp only [matchOp, Bool.and_eq_true, Bool.or_eq_true] at hm'
  obtain ⟨⟨⟨m1, m2⟩, m3⟩, m4⟩ := hm'
  have hd : o.dst = io.dst ∧ ∀ d, o.dst = some d → d < n := by
    unfold dstP at m1
    split at m1
    · rename_i e1 e2
      exact ⟨by rw [e1, e2], fun d e => by rw [e1] at e; cases e⟩
    · rename_i d e e1 e2
      simp only [Bool.and_eq_true] at m1
      have := nbeq_eq m1.1
      subst this
      exact ⟨by rw [e1, e2], fun d' e' => by rw [e1] at e'; cases e'; exact nblt_iff.1 m1.2⟩
    · cases m1
  obtain ⟨hdd, hd⟩ := hd
  have skip : ∀ st' : St, Rel w0 n I κ st' tm w → y (st'.put io.dst (.tup [])) = some r → K ((⟨tm, []⟩ : Act).put o.dst undef) w := by
    intro st' hr' hy
    obtain ⟨κ', k1, k2⟩ := hr'.put (Gr.refl hr.sat) hd (x := .tup []) (v := undef) (bo := none) (by simp only [RT, RTs]; exact ⟨[], rfl, rfl⟩) (fun b e => by cases e)
    rw [put_act]
    rw [hdd] at k1 ⊢
    exact hK _ _ _ _ _ k1 k2 hy
  unfold guardP at m4
  split at m4
  · rename_i e1 e2
    have hw : Region.wanted o (yielded ops tm) = true := by unfold Region.wanted; rw [e1]
    refine ⟨fun _ => ?_, fun h' => by rw [hw] at h'; cases h'⟩
    unfold stepG at h
    rw [e2] at h
    exact o_sound hC hr hm h hK hZ
  · rename_i j a t b e1 e2
    simp only [Bool.and_eq_true, beq_iff_eq] at m4
    obtain ⟨rfl, m5⟩ := m4
    split at m5
    · rename_i p hp
      split at m5
      · rename_i d hpd
        obtain rfl := nbeq_eq m5
        unfold stepG at h
        rw [e2] at h
        simp only at h
        have hy : ∀ v, tm[d]? = some v → yielded ops tm j = match v with
          | .bool b => some b
          | _ => none := by
          intro v hv
          unfold yielded
          rw [hp, Option.bind_some, hpd, Option.bind_some, hv]
          cases v <;> rfl
        have hwd : Region.wanted o (yielded ops tm) = (yielded ops tm j == some a) := by unfold Region.wanted; rw [e1]
        split at h
        · rename_i x hx
          obtain ⟨v, g1, g2⟩ := hr.tms _ _ hx
          simp only [RT, RD] at g2
          subst g2
          have hyj := hy _ g1
          simp only at hyj
          have hr' : Rel w0 n I κ { st with tm := aset d (.d (.b x)) st.tm } tm w := hr.sub (fun u z hz => by
            have hz' : aget (aset d (.d (.b x)) st.tm) u = some z := hz
            rw [aget_aset] at hz'
            split at hz'
            · rename_i e
              rw [e, hx]
              exact hz'
            · exact hz') (fun _ _ hc => hc) rfl
          have hxa : (x = a → step C io { st with tm := aset d (.d (.b x)) st.tm } y z = some r) ∧ (x ≠ a → y (St.put { st with tm := aset d (.d (.b x)) st.tm } io.dst (.tup [])) = some r) := by
            cases x <;> cases a <;> simp_all
          rw [hwd, hyj]
          refine ⟨fun hw => o_sound hC hr' hm (hxa.1 (by simpa using hw)) hK hZ, fun hw => skip _ hr' (hxa.2 (by simpa using hw))⟩
        · rename_i hx
          obtain ⟨v, g1, g2⟩ := hr.tms _ _ hx
          simp only [RT, RTs] at g2
          obtain ⟨vs, rfl, rfl⟩ := g2
          have hyj := hy _ g1
          simp only at hyj
          rw [hwd, hyj]
          exact ⟨fun hw => by simp at hw, fun _ => skip _ hr h⟩
        · cases h
      · cases m5
    · cases m5
  · cases m4

end
end Go.Eng
namespace Go.Eng
open Go.RowKit

def matchAll (P : Program) (n : Nat) (ops : Array Oper) : List Oper → List IOper → Bool
  | [], [] => true
  | o :: l, io :: r => matchOp P n ops o io && matchAll P n ops l r
  | _, _ => false

section
variable {P : Program} {w0 : World} {n : Nat} {I : Fz} {κ : Km} {st : St} {tm : Array Value} {w : World} {α : Type} {r : α}

theorem matchAll_len {ops : Array Oper} : ∀ {l : List Oper} {r : List IOper}, matchAll P n ops l r = true → l.length = r.length
  | [], [], _ => rfl
  | _ :: l, _ :: r, h => by
    simp only [matchAll, Bool.and_eq_true] at h
    simp [matchAll_len h.2]
  | [], _ :: _, h => by simp [matchAll] at h
  | _ :: _, [], h => by simp [matchAll] at h

theorem region_seq {C : CallF} (hC : ∀ f ws ou res, C f ws ou = some res → CallOK P w0 f ws ou res) {ops : Array Oper} {Q : Exit → Act → World → Prop} {y : St → Option α} {z : D → St → Option α} :
    ∀ {l : List Oper} {il : List IOper} {k : Nat} {I : Fz} {κ : Km} {st : St} {tm : Array Value} {w : World}, ops.toList.drop k = l → matchAll P n ops l il = true → Rel w0 n I κ st tm w → execOps C il st y z = some r →
      Cont w0 n (Q .normal) y r I κ w → ContZ w0 n Q z r I κ w → wpOps P ops Q (List.range' k l.length) ⟨tm, []⟩ w
  | [], il, k, I, κ, st, tm, w, hl, hm, hr, h, hK, hZ => by
    cases il with
    | cons _ _ => simp [matchAll] at hm
    | nil => exact hK _ _ _ _ _ hr (Ext.refl _ _ _) h
  | o :: l, il, k, I, κ, st, tm, w, hl, hm, hr, h, hK, hZ => by
    cases il with
    | nil => simp [matchAll] at hm
    | cons io il =>
      simp only [matchAll, Bool.and_eq_true] at hm
      have ho : ops[k]? = some o := by
        have : (ops.toList.drop k)[0]? = some o := by rw [hl]; rfl
        rw [List.getElem?_drop] at this
        simpa using this
      have hl' : ops.toList.drop (k + 1) = l := by
        rw [← List.drop_drop, hl]
        rfl
      have hrec : ∀ (I' : Fz) (κ' : Km) (st' : St) (tm' : Array Value) (w' : World), Rel w0 n I' κ' st' tm' w' → Ext I κ w I' κ' w' → execOps C il st' y z = some r → wpOps P ops Q (List.range' (k + 1) l.length) ⟨tm', []⟩ w' :=
        fun I' κ' st' tm' w' hr' he h' => region_seq hC hl' hm.2 hr' h' (hK.from he) (hZ.from he)
      have := og_sound hC hr hm.1 (K := wpOps P ops Q (List.range' (k + 1) l.length)) (Q := Q) (y := fun st' => execOps C il st' y z) h hrec hZ
      rw [List.length_cons, List.range'_succ]
      simp only [wpOps, ho]
      by_cases hw : Region.wanted o (yielded ops tm) = true
      · rw [if_pos hw]
        exact .inl (this.1 hw)
      · rw [if_neg hw]
        exact this.2 (by simpa using hw)

theorem reg_seq {C : CallF} (hC : ∀ f ws ou res, C f ws ou = some res → CallOK P w0 f ws ou res) {ops : Array Oper} {il : List IOper} {id : Nat} {Q : Exit → Act → World → Prop} {y : St → Option α} {z : D → St → Option α}
    (hm : matchAll P n ops ops.toList il = true) (hr : Rel w0 n I κ st tm w) (h : execOps C il st y z = some r) (hK : Cont w0 n (Q .normal) y r I κ w) (hZ : ContZ w0 n Q z r I κ w) :
    (Code.region id ops false).wp P Q ⟨tm, []⟩ w := by
  refine wp_region ?_
  have := region_seq hC (k := 0) (l := ops.toList) (by simp) hm hr h hK hZ
  rwa [Array.length_toList, ← List.range_eq_range'] at this

end
end Go.Eng
namespace Go.Eng
open Go.RowKit

section
variable {α : Type}

theorem binT_nat (op : BinOp) (x z : T) (y : T → Option α) : binT op x z y = (binT op x z some).bind y := by
  unfold binT
  split
  · split
    · split <;> rfl
    · split <;> rfl
    · split
      · unfold intOp
        split <;> first | rfl | (split <;> rfl)
      · rfl
  · unfold strOp
    split <;> first | rfl | (split <;> rfl)
  · rfl

theorem cutAt_nat {β : Type} (l : List β) (lo hi : Option T) (f : List β → T) (y : T → Option α) : (cutAt l lo hi fun m => y (f m)) = (cutAt l lo hi fun m => some (f m)).bind y := by
  unfold cutAt
  split <;> first | rfl | (split <;> rfl)

theorem pSlc_nat (sz : Nat) (x : T) (lo hi : Option T) (y : T → Option α) : pSlc sz x lo hi y = (pSlc sz x lo hi some).bind y := by
  unfold pSlc
  split
  · cases Nat.beq sz 0
    · rfl
    · exact cutAt_nat _ lo hi (fun l => .d (.s l)) y
  · rename_i sz' _
    cases (Nat.beq sz sz' && !Nat.beq sz 0)
    · rfl
    · exact cutAt_nat _ lo hi (fun l => .d (.sl sz l)) y
  · cases Nat.beq sz 1
    · rfl
    · exact cutAt_nat _ lo hi (fun l => .d (.bs l)) y
  · rfl

theorem opt_nat {β γ : Type} (x : Option β) (f : β → Option γ) (y : γ → Option α) : (opt x fun v => (f v).bind y) = (opt x f).bind y := by
  unfold opt
  split <;> rfl

theorem nth_nat {β : Type} (l : List β) (n : Int) (f : β → T) (y : T → Option α) : (nth l n fun v => y (f v)) = (nth l n fun v => some (f v)).bind y := by
  unfold nth
  split
  · unfold opt
    split <;> rfl
  · rfl

theorem pop_nat (o : IOp) (vs : List T) (y : T → Option α) : pop o vs y = (pop o vs some).bind y := by
  cases o with
  | mov x => simp only [pop, one]; split <;> rfl
  | nilO sz => rfl
  | nilB => rfl
  | faddr x off =>
    simp only [pop, one, pFaddr]; split
    · split <;> rfl
    · rfl
  | fld x off n agg =>
    simp only [pop, one, pFld, opt]; split
    · split
      · split <;> rfl
      · split <;> rfl
      · rfl
    · rfl
  | iaddr x i sz =>
    simp only [pop, two, pIaddr]; split
    · split
      · rename_i sz' _ _ _
        cases Nat.beq sz sz'
        · rfl
        · exact nth_nat _ _ (fun r => .ro r 0) y
      · cases Nat.beq sz 1
        · rfl
        · exact nth_nat _ _ (fun c : UInt8 => .ro [.i .u8 c.toNat] 0) y
      · rfl
    · rfl
  | idx x i =>
    simp only [pop, two, pIdx]; split
    · split
      · exact nth_nat _ _ (fun c : UInt8 => .d (.i .u8 c.toNat)) y
      · rfl
    · rfl
  | bin op x z =>
    simp only [pop, two]; split
    · exact binT_nat _ _ _ y
    · rfl
  | beqv neg x z =>
    simp only [pop, two, pBeqv]; split
    · split <;> rfl
    · rfl
  | ieq neg x =>
    simp only [pop, one, pIeq]; split
    · split <;> rfl
    · rfl
  | eqs neg ks x z =>
    simp only [pop, two, pEqs, opt, pIeqv]; split
    · rename_i a b
      split
      · rename_i t
        split
        · rename_i s k a s' k' b
          cases (Nat.beq s t && Nat.beq s' t && decide (k = k')) <;> rfl
        · rfl
      · rfl
      · cases (isAg a && isAg b)
        · rfl
        · simp only [cond_true]
          split
          · split
            · split <;> rfl
            · rfl
          · rfl
    · rfl
  | un op x =>
    simp only [pop, one, pUn]; split
    · split <;> rfl
    · rfl
  | conv c x =>
    simp only [pop, one, pConv]; split
    · split <;> rfl
    · rfl
  | mkif t x =>
    simp only [pop, one, opt]; split
    · split <;> rfl
    · rfl
  | mkfn f caps => rfl
  | build z parts => simp only [pop, opt]; split <;> rfl
  | bsl sz parts => simp only [pop, opt]; split <;> rfl
  | bslb parts => simp only [pop, opt]; split <;> rfl
  | ext x i =>
    simp only [pop, one, pExt, opt]; split
    · split
      · split <;> rfl
      · rfl
    · rfl
  | lenS x =>
    simp only [pop, one, pLenS]; split
    · split <;> rfl
    · rfl
  | lenL x =>
    simp only [pop, one, pLenL]; split
    · split <;> rfl
    · rfl
  | mx x z =>
    simp only [pop, two, pMx]; split
    · split <;> rfl
    · rfl
  | mn x z =>
    simp only [pop, two, pMn]; split
    · split <;> rfl
    · rfl
  | slc sz x lo hi =>
    cases lo <;> cases hi
    · simp only [pop, one]; split
      · split
        · cases Nat.beq sz 0 <;> rfl
        · rename_i sz' _
          cases (Nat.beq sz sz' && !Nat.beq sz 0) <;> rfl
        · cases Nat.beq sz 1 <;> rfl
        · rfl
      · rfl
    · simp only [pop, two]; split
      · exact pSlc_nat _ _ _ _ y
      · rfl
    · simp only [pop, two]; split
      · exact pSlc_nat _ _ _ _ y
      · rfl
    · simp only [pop]; split
      · exact pSlc_nat _ _ _ _ y
      · rfl
  | _ => rfl

end

/-- One operation, alone. -/
def stp (C : CallF) (io : IOper) (st : St) : Option St := stepG C io st some fun _ _ => none

def St.obk (st : St) (k : Nat × Nat) : Option (List T) := obAt st.ob st.ou k.1 k.2

def St.eqv (st st' : St) : Prop := (∀ t, aget st.tm t = aget st'.tm t) ∧ ∀ k, st.obk k = st'.obk k

/-- May stand in a region of open order. -/
def IOp.open : IOp → Bool
  | .movO _ | .pick .. | .load .. | .app .. | .callP .. | .loadO _ | .store .. | .storeO .. | .alloc _ => true
  | io => io.pure

def Ft.all (f : Ft) : List (Nat × Nat) := f.r ++ f.w

def FreeD (d : Nat) (st : St) : Prop := tmFree d st.tm = true ∧ obFree d st.ob = true

def agree (st st' : St) (l : List Nat) (m : List (Nat × Nat)) : Prop := (∀ t ∈ l, aget st.tm t = aget st'.tm t) ∧ ∀ k ∈ m, st.obk k = st'.obk k

/-- What an operation does, wherever it reads the same. -/
def Eff (C : CallF) (io : IOper) (st : St) (e : Nat → Option T) (m : Nat × Nat → Option (List T)) : Prop :=
  ∀ st', agree st st' io.reads (io.ft st).all → (∀ d ∈ io.frees, FreeD d st') → ∃ st'', stp C io st' = some st'' ∧ io.ft st' = io.ft st ∧
    (∀ t, aget st''.tm t = if t ∈ io.writes then e t else aget st'.tm t) ∧ ∀ k, st''.obk k = if k ∈ (io.ft st).w then m k else st'.obk k

theorem agree.opd {st st' : St} {l : List Nat} {m : List (Nat × Nat)} (h : agree st st' l m) {x : Opd} (hx : ∀ t ∈ x.slot, t ∈ l) : st'.opd x = st.opd x := by
  cases x with
  | t n => simp only [St.opd]; rw [h.1 n (hx n (by simp [Opd.slot]))]
  | k _ => rfl
  | f _ => rfl

theorem agree.opds {st st' : St} {l : List Nat} {m : List (Nat × Nat)} (h : agree st st' l m) : ∀ {xs : List Opd}, (∀ t ∈ xs.flatMap Opd.slot, t ∈ l) → st'.opds xs = st.opds xs
  | [], _ => rfl
  | x :: r, hx => by
    simp only [List.flatMap_cons, List.mem_append] at hx
    simp only [St.opds]
    rw [h.opd (fun t ht => hx t (.inl ht)), h.opds (fun t ht => hx t (.inr ht))]

theorem agree.akey {st st' : St} {l : List Nat} {m : List (Nat × Nat)} (h : agree st st' l m) {x : Opd} (hx : ∀ t ∈ x.slot, t ∈ l) : st'.akey x = st.akey x := by
  unfold St.akey
  rw [h.opd hx]

/-- A footprint is told by what is read. -/
theorem agree.ft {st st' : St} {io : IOper} {m : List (Nat × Nat)} (h : agree st st' io.op.reads m) : io.ft st' = io.ft st := by
  obtain ⟨d, op, g⟩ := io
  cases op with
  | load a n b => simp only [IOper.ft]; rw [h.akey (x := a) (by intro t ht; simpa [IOp.reads] using ht)]
  | loadO a => simp only [IOper.ft]; rw [h.akey (x := a) (by intro t ht; simpa [IOp.reads] using ht)]
  | store a x n => simp only [IOper.ft]; rw [h.akey (x := a) (by intro t ht; simp [IOp.reads, ht])]
  | storeO a t => simp only [IOper.ft]; rw [h.akey (x := a) (by intro u hu; simp [IOp.reads, hu])]
  | _ => rfl

theorem agree.at {st st' : St} {l : List Nat} {m : List (Nat × Nat)} (h : agree st st' l m) (p : T) (hk : ∀ k ∈ keyOf p, k ∈ m) : st'.at p = st.at p := by
  cases p with
  | loc t off =>
    have := h.2 (0, t) (hk _ (by simp [keyOf]))
    simp only [St.obk, obAt] at this
    simp only [St.at]
    rw [this]
  | out f t off =>
    have := h.2 (f + 1, t) (hk _ (by simp [keyOf]))
    simp only [St.obk, obAt] at this
    simp only [St.at]
    cases h1 : st.ou[f]? <;> cases h2 : st'.ou[f]? <;> rw [h1, h2] at this <;> simp only at this ⊢
    · rw [← this]
    · rw [this]
    · rw [this]
  | _ => rfl

theorem aget_put (st : St) (d : Option Nat) (v : T) (t : Nat) : aget (st.put d v).tm t = if d = some t then some v else aget st.tm t := by
  cases d with
  | none => simp [St.put]
  | some d =>
    simp only [St.put, aget_aset, Option.some.injEq]
    by_cases h : t = d
    · rw [if_pos h, if_pos h.symm]
    · rw [if_neg h, if_neg (fun e => h e.symm)]

theorem put_ob (st : St) (d : Option Nat) (v : T) : (st.put d v).ob = st.ob ∧ (st.put d v).ou = st.ou := by cases d <;> exact ⟨rfl, rfl⟩

theorem put_obk (st : St) (d : Option Nat) (v : T) (k : Nat × Nat) : (st.put d v).obk k = st.obk k := by unfold St.obk; rw [(put_ob st d v).1, (put_ob st d v).2]

theorem writes_put {d : Option Nat} {op : IOp} {g : Option (Nat × Bool)} (h : op.gives = []) (t : Nat) : t ∈ (IOper.mk d op g).writes ↔ d = some t := by
  unfold IOper.writes
  simp only [h, List.append_nil]
  cases d with
  | none => simp
  | some d =>
    simp only [List.mem_singleton, Option.some.injEq]
    exact eq_comm

theorem obk_aset (tm : List (Nat × T)) (ob : Ob) (ou : List Ob) (t : Nat) (c : List T) (k : Nat × Nat) : St.obk ⟨tm, aset t c ob, ou⟩ k = if k = (0, t) then some c else obAt ob ou k.1 k.2 := by
  obtain ⟨f, u⟩ := k
  cases f with
  | zero =>
    simp only [St.obk, obAt, aget_aset, Prod.mk.injEq, true_and]
  | succ f => simp [St.obk, obAt]

theorem lset_look (ou : List Ob) (f t g u : Nat) (c : List T) (h : f < ou.length) : obAt [] (lsetOb ou f t c) (g + 1) u = if g = f ∧ u = t then some c else obAt [] ou (g + 1) u := by
  induction ou generalizing f g with
  | nil => simp at h
  | cons o r ih =>
    cases f with
    | zero =>
      cases g with
      | zero => simp only [lsetOb, obAt, List.getElem?_cons_zero, aget_aset, true_and]
      | succ g => simp [lsetOb, obAt]
    | succ f =>
      cases g with
      | zero => simp [lsetOb, obAt]
      | succ g =>
        have := ih f g (by simpa using h)
        simp only [lsetOb, obAt, List.getElem?_cons_succ, Nat.add_right_cancel_iff] at this ⊢
        exact this

theorem obk_lset (tm : List (Nat × T)) (ob : Ob) (ou : List Ob) (f t : Nat) (c : List T) (h : f < ou.length) (k : Nat × Nat) : St.obk ⟨tm, ob, lsetOb ou f t c⟩ k = if k = (f + 1, t) then some c else obAt ob ou k.1 k.2 := by
  obtain ⟨g, u⟩ := k
  cases g with
  | zero => simp [St.obk, obAt]
  | succ g =>
    have := lset_look ou f t g u c h
    simp only [obAt] at this
    simp only [St.obk, obAt, Prod.mk.injEq, Nat.add_right_cancel_iff]
    exact this

/-- Whoever only puts. -/
theorem eff_put {C : CallF} {d : Option Nat} {op : IOp} {st : St} {v : T} (hw : op.gives = []) (hf : ((IOper.mk d op none).ft st).w = []) (h : ∀ st', agree st st' op.reads ((IOper.mk d op none).ft st).all → stp C ⟨d, op, none⟩ st' = some (st'.put d v)) : ∃ e m, Eff C ⟨d, op, none⟩ st e m := by
  refine ⟨fun _ => some v, fun _ => none, fun st' ha _ => ⟨_, h st' ha, ha.ft, fun t => ?_, fun k => ?_⟩⟩
  · rw [aget_put]
    simp only [writes_put hw]
  · rw [put_obk, hf]
    simp

/-- New cells at an address: what that changes. -/
theorem wr_eff {st st1 : St} {p : T} {xs : List T} (h : st.wr p xs = some st1) : ∃ k cs, keyOf p = [k] ∧ ∀ st' : St, st.obk k = st'.obk k → ∃ st1', st'.wr p xs = some st1' ∧ st1'.tm = st'.tm ∧ ∀ q, st1'.obk q = if q = k then some cs else st'.obk q := by
  unfold St.wr at h
  split at h
  · rename_i t off
    split at h
    · rename_i cells hc
      obtain ⟨hle, h⟩ := cond_some h
      refine ⟨(0, t), splice cells off (xs.map laid), rfl, fun st' he => ?_⟩
      have hc' : aget st'.ob t = some cells := by
        simp only [St.obk, obAt] at he
        rw [← he]; exact hc
      refine ⟨{ st' with ob := aset t (splice cells off (xs.map laid)) st'.ob }, ?_, rfl, fun q => obk_aset _ _ _ _ _ q⟩
      simp only [St.wr, hc', hle, cond_true]
    · cases h
  · rename_i f t off
    split at h
    · rename_i ob hob
      split at h
      · rename_i cells hc
        obtain ⟨hle, h⟩ := cond_some h
        refine ⟨(f + 1, t), splice cells off (xs.map laid), rfl, fun st' he => ?_⟩
        simp only [St.obk, obAt, hob] at he
        cases hob' : st'.ou[f]? with
        | none => rw [hob', hc] at he; cases he
        | some ob' =>
          rw [hob', hc] at he
          simp only at he
          refine ⟨{ st' with ou := lsetOb st'.ou f t (splice cells off (xs.map laid)) }, ?_, rfl, fun q => obk_lset _ _ _ _ _ _ (List.getElem?_eq_some_iff.1 hob').1 q⟩
          simp only [St.wr, hob', he.symm, hle, cond_true]
      · cases h
    · cases h
  · cases h

theorem eff_none {C : CallF} {d : Option Nat} {op : IOp} {st st1 : St} (ho : op.open = true) (h : stp C ⟨d, op, none⟩ st = some st1) : ∃ e m, Eff C ⟨d, op, none⟩ st e m := by
  have hst : ∀ st' : St, stp C ⟨d, op, none⟩ st' = step C ⟨d, op, none⟩ st' some (fun _ _ => none) := fun _ => rfl
  rw [hst] at h
  cases hp : op.pure with
  | true =>
    rw [step_pure hp] at h
    split at h
    · rename_i vs hv
      rw [pop_nat] at h
      obtain ⟨v, h1, h2⟩ := Option.bind_eq_some_iff.1 h
      have hrd : op.reads = op.args.flatMap Opd.slot := by cases op <;> first | rfl | cases hp
      refine eff_put (v := v) (by cases op <;> first | rfl | cases hp) (by cases op <;> first | rfl | cases hp) fun st' ha => ?_
      rw [hst, step_pure hp, ha.opds (xs := op.args) (by rw [hrd]; exact fun t ht => ht), hv]
      show pop op vs _ = _
      rw [pop_nat, h1]
      rfl
    · cases h
  | false =>
    cases op with
    | movO t =>
      simp only [step] at h
      split at h
      · rename_i v d' hv
        cases e1 : Nat.beq t d' with
        | true => rw [e1] at h; cases h
        | false =>
          refine ⟨fun u => if u = d' then some (laid v) else some (cp v), fun _ => none, fun st' ha _ => ?_⟩
          have hv' : aget st'.tm t = some v := by rw [← ha.1 t (by simp [IOper.reads, IOp.reads])]; exact hv
          refine ⟨{ st' with tm := aset d' (laid v) (aset t (cp v) st'.tm) }, ?_, rfl, fun u => ?_, fun k => by simp [IOper.ft, St.obk]⟩
          · rw [hst]
            simp only [step, hv', e1, cond_false]
          · simp only [aget_aset, IOper.writes, IOp.gives, List.mem_append, List.mem_singleton]
            by_cases h1 : u = d' <;> by_cases h2 : u = t <;> simp [h1, h2]
      · cases h
    | pick c a b =>
      simp only [step] at h
      split at h
      · rename_i x hc
        cases x with
        | true =>
          simp only [cond_true] at h
          split at h
          · rename_i v hv
            refine eff_put (v := v) rfl rfl fun st' ha => ?_
            rw [hst]
            simp only [step]
            rw [ha.opd (x := c) (by intro t ht; simp [IOp.reads, ht]), hc]
            simp only [cond_true]
            rw [ha.opd (x := a) (by intro t ht; simp [IOp.reads, ht]), hv]
          · cases h
        | false =>
          simp only [cond_false] at h
          split at h
          · rename_i v hv
            refine eff_put (v := v) rfl rfl fun st' ha => ?_
            rw [hst]
            simp only [step]
            rw [ha.opd (x := c) (by intro t ht; simp [IOp.reads, ht]), hc]
            simp only [cond_false]
            rw [ha.opd (x := b) (by intro t ht; simp [IOp.reads, ht]), hv]
          · cases h
      · cases h
    | load a m agg =>
      simp only [step] at h
      split at h
      · rename_i p hp
        split at h
        · rename_i cells hc
          split at h
          · rename_i v hv
            refine eff_put (v := v) rfl rfl fun st' ha => ?_
            rw [hst]
            simp only [step]
            rw [ha.opd (x := a) (by intro t ht; simpa [IOp.reads] using ht), hp]
            simp only
            rw [ha.at p (by intro k hk; simp only [Ft.all, IOper.ft, St.akey, hp, List.append_nil]; exact hk), hc]
            simp only
            rw [hv]
          · cases h
        · cases h
      · cases h
    | callP f l =>
      simp only [step] at h
      split at h
      · rename_i vs hv
        split at h
        · rename_i ws hs
          obtain ⟨ea, h⟩ := cond_some h
          obtain ⟨res, hres, h⟩ := Option.bind_eq_some_iff.1 h
          cases res with
          | pan _ _ => cases h
          | ret v ou =>
            simp only at h
            split at h
            · rename_i u hu
              refine eff_put (v := u) rfl rfl fun st' ha => ?_
              rw [hst]
              simp only [step]
              rw [ha.opds (xs := l) (by intro t ht; simpa [IOp.reads] using ht), hv]
              simp only
              rw [hs]
              simp only [ea, cond_true, hres, Option.bind_some]
              rw [hu]
            · cases h
        · cases h
      · cases h
    | app sz s x lim =>
      simp only [step] at h
      split at h
      · rename_i v hv
        cases s with
        | f _ => cases h
        | k c =>
          cases c with
          | nl sz' =>
            dsimp only at h
            split at h
            · rename_i sz'' m
              obtain ⟨h1, h'⟩ := cond_some h
              obtain ⟨hl, h''⟩ := ite_some h'
              refine eff_put (v := .own sz' m) rfl rfl fun st' ha => ?_
              rw [hst]
              simp only [step]
              rw [ha.opd (x := x) (by intro t ht; simp [IOp.reads, ht]), hv]
              simp only [h1, cond_true, if_pos hl]
            · cases h
          | nlb =>
            dsimp only at h
            split at h
            · rename_i m
              obtain ⟨h1, h'⟩ := cond_some h
              obtain ⟨hl, h''⟩ := ite_some h'
              refine eff_put (v := .ownb m) rfl rfl fun st' ha => ?_
              rw [hst]
              simp only [step]
              rw [ha.opd (x := x) (by intro t ht; simp [IOp.reads, ht]), hv]
              simp only [h1, cond_true, if_pos hl]
            · rename_i m
              obtain ⟨h1, h'⟩ := cond_some h
              obtain ⟨hl, h''⟩ := ite_some h'
              refine eff_put (v := .ownb m) rfl rfl fun st' ha => ?_
              rw [hst]
              simp only [step]
              rw [ha.opd (x := x) (by intro t ht; simp [IOp.reads, ht]), hv]
              simp only [h1, cond_true, if_pos hl]
            · cases h
          | _ => cases h
        | t t =>
          dsimp only at h
          split at h
          · rename_i sz' l d' hs
            split at h
            · rename_i sz'' m
              obtain ⟨h1, h'⟩ := cond_some h
              obtain ⟨hl, h''⟩ := ite_some h'
              refine ⟨fun u => if u = d' then some (.own sz' (l ++ m)) else some (.d (.sl sz' l)), fun _ => none, fun st' ha _ => ?_⟩
              have hs' : aget st'.tm t = some (.own sz' l) := by rw [← ha.1 t (by simp [IOper.reads, IOp.reads, Opd.slot])]; exact hs
              refine ⟨{ st' with tm := aset d' (.own sz' (l ++ m)) (aset t (.d (.sl sz' l)) st'.tm) }, ?_, rfl, fun u => ?_, fun k => by simp [IOper.ft, St.obk]⟩
              · rw [hst]
                simp only [step]
                rw [ha.opd (x := x) (by intro t ht; simp [IOper.reads, IOp.reads, ht]), hv]
                simp only [hs', h1, cond_true, if_pos hl]
              · simp only [aget_aset, IOper.writes, IOp.gives, List.mem_append, List.mem_singleton]
                by_cases h1 : u = d' <;> by_cases h2 : u = t <;> simp [h1, h2]
            · cases h
          · rename_i l d' hs
            split at h
            · rename_i m
              obtain ⟨h1, h'⟩ := cond_some h
              obtain ⟨hl, h''⟩ := ite_some h'
              refine ⟨fun u => if u = d' then some (.ownb (l ++ m)) else some (.d (.bs l)), fun _ => none, fun st' ha _ => ?_⟩
              have hs' : aget st'.tm t = some (.ownb l) := by rw [← ha.1 t (by simp [IOper.reads, IOp.reads, Opd.slot])]; exact hs
              refine ⟨{ st' with tm := aset d' (.ownb (l ++ m)) (aset t (.d (.bs l)) st'.tm) }, ?_, rfl, fun u => ?_, fun k => by simp [IOper.ft, St.obk]⟩
              · rw [hst]
                simp only [step]
                rw [ha.opd (x := x) (by intro t ht; simp [IOper.reads, IOp.reads, ht]), hv]
                simp only [hs', h1, cond_true, if_pos hl]
              · simp only [aget_aset, IOper.writes, IOp.gives, List.mem_append, List.mem_singleton]
                by_cases h1 : u = d' <;> by_cases h2 : u = t <;> simp [h1, h2]
            · rename_i m
              obtain ⟨h1, h'⟩ := cond_some h
              obtain ⟨hl, h''⟩ := ite_some h'
              refine ⟨fun u => if u = d' then some (.ownb (l ++ m)) else some (.d (.bs l)), fun _ => none, fun st' ha _ => ?_⟩
              have hs' : aget st'.tm t = some (.ownb l) := by rw [← ha.1 t (by simp [IOper.reads, IOp.reads, Opd.slot])]; exact hs
              refine ⟨{ st' with tm := aset d' (.ownb (l ++ m)) (aset t (.d (.bs l)) st'.tm) }, ?_, rfl, fun u => ?_, fun k => by simp [IOper.ft, St.obk]⟩
              · rw [hst]
                simp only [step]
                rw [ha.opd (x := x) (by intro t ht; simp [IOper.reads, IOp.reads, ht]), hv]
                simp only [hs', h1, cond_true, if_pos hl]
              · simp only [aget_aset, IOper.writes, IOp.gives, List.mem_append, List.mem_singleton]
                by_cases h1 : u = d' <;> by_cases h2 : u = t <;> simp [h1, h2]
            · cases h
          · cases h
      · cases h
    | loadO a =>
      simp only [step] at h
      split at h
      · rename_i t off hp'
        split at h
        · rename_i cells hc
          split at h
          · rename_i v hv
            obtain ⟨hs, h'⟩ := cond_some h
            refine ⟨fun _ => some (laid v), fun _ => some (cells.set off (cp v)), fun st' ha _ => ?_⟩
            have hf : (IOper.mk d (.loadO a) none).ft st = ⟨[], [(0, t)]⟩ := by simp only [IOper.ft, St.akey, hp', keyOf]
            have hk := ha.2 (0, t) (by rw [hf]; simp [Ft.all])
            simp only [St.obk, obAt] at hk
            refine ⟨St.put { st' with ob := aset t (cells.set off (cp v)) st'.ob } d (laid v), ?_, ha.ft, fun u => ?_, fun k => ?_⟩
            · rw [hst]
              simp only [step]
              rw [ha.opd (x := a) (by intro u hu; simpa [IOper.reads, IOp.reads] using hu), hp']
              simp only
              rw [← hk, hc]
              simp only [hv, hs, cond_true]
            · rw [aget_put]
              simp only [writes_put (op := .loadO a) rfl]
            · rw [put_obk, obk_aset, hf]
              simp only [List.mem_singleton]
              rfl
          · cases h
        · cases h
      · rename_i f t off hp'
        split at h
        · rename_i ob hob
          split at h
          · rename_i cells hc
            split at h
            · rename_i v hv
              obtain ⟨hs, h'⟩ := cond_some h
              refine ⟨fun _ => some (laid v), fun _ => some (cells.set off (cp v)), fun st' ha _ => ?_⟩
              have hf : (IOper.mk d (.loadO a) none).ft st = ⟨[], [(f + 1, t)]⟩ := by simp only [IOper.ft, St.akey, hp', keyOf]
              have hk := ha.2 (f + 1, t) (by rw [hf]; simp [Ft.all])
              simp only [St.obk, obAt, hob] at hk
              cases hob' : st'.ou[f]? with
              | none => rw [hob', hc] at hk; cases hk
              | some ob' =>
                rw [hob', hc] at hk
                simp only at hk
                refine ⟨St.put { st' with ou := lsetOb st'.ou f t (cells.set off (cp v)) } d (laid v), ?_, ha.ft, fun u => ?_, fun k => ?_⟩
                · rw [hst]
                  simp only [step]
                  rw [ha.opd (x := a) (by intro u hu; simpa [IOper.reads, IOp.reads] using hu), hp']
                  simp only [hob', hk.symm, hv, hs, cond_true]
                · rw [aget_put]
                  simp only [writes_put (op := .loadO a) rfl]
                · rw [put_obk, obk_lset _ _ _ _ _ _ (List.getElem?_eq_some_iff.1 hob').1, hf]
                  simp only [List.mem_singleton]
                  rfl
            · cases h
          · cases h
        · cases h
      · cases h
    | store a x n =>
      simp only [step] at h
      split at h
      · rename_i p v hp' hx
        obtain ⟨hn, h'⟩ := cond_some h
        split at h'
        · rename_i st2 hw
          obtain ⟨k, cs, hk, hwr⟩ := wr_eff hw
          have hf : (IOper.mk d (.store a x n) none).ft st = ⟨[], [k]⟩ := by simp only [IOper.ft, St.akey, hp', hk]
          refine ⟨fun _ => some (.tup []), fun _ => some cs, fun st' ha _ => ?_⟩
          obtain ⟨st1', e1, e2, e3⟩ := hwr st' (ha.2 k (by rw [hf]; simp [Ft.all]))
          refine ⟨st1'.put d (.tup []), ?_, ha.ft, fun u => ?_, fun q => ?_⟩
          · rw [hst]
            simp only [step]
            rw [ha.opd (x := a) (by intro u hu; simp [IOper.reads, IOp.reads, hu]), hp', ha.opd (x := x) (by intro u hu; simp [IOper.reads, IOp.reads, hu]), hx]
            simp only [hn, cond_true, e1]
          · rw [aget_put, e2]
            simp only [writes_put (op := .store a x n) rfl]
          · rw [put_obk, e3, hf]
            simp only [List.mem_singleton]
        · cases h'
      · cases h
    | storeO a t =>
      simp only [step] at h
      split at h
      · rename_i p v hp' hx
        obtain ⟨hn, h'⟩ := cond_some h
        split at h'
        · rename_i st2 hw
          obtain ⟨k, cs, hk, hwr⟩ := wr_eff hw
          have hf : (IOper.mk d (.storeO a t) none).ft st = ⟨[], [k]⟩ := by simp only [IOper.ft, St.akey, hp', hk]
          refine ⟨fun u => if d = some u then some (.tup []) else some (cp v), fun _ => some cs, fun st' ha _ => ?_⟩
          obtain ⟨st1', e1, e2, e3⟩ := hwr { st' with tm := aset t (cp v) st'.tm } (ha.2 k (by rw [hf]; simp [Ft.all]))
          have hx' : aget st'.tm t = some v := by rw [← ha.1 t (by simp [IOper.reads, IOp.reads])]; exact hx
          refine ⟨st1'.put d (.tup []), ?_, ha.ft, fun u => ?_, fun q => ?_⟩
          · rw [hst]
            simp only [step]
            rw [ha.opd (x := a) (by intro u hu; simp [IOper.reads, IOp.reads, hu]), hp', hx']
            simp only [hn, cond_true, e1]
          · rw [aget_put, e2, aget_aset]
            simp only [IOper.writes, IOp.gives, List.mem_append, List.mem_singleton]
            cases d with
            | none =>
              by_cases h2 : u = t <;> simp [h2]
            | some d' =>
              by_cases h1 : u = d'
              · subst h1; simp
              · have h3 : ¬ d' = u := fun e => h1 e.symm
                by_cases h2 : u = t <;> simp [h1, h2, h3]
          · rw [put_obk, e3, hf]
            simp only [List.mem_singleton]
            rfl
        · cases h'
      · cases h
    | alloc c =>
      simp only [step] at h
      split at h
      · rename_i d' 
        refine ⟨fun _ => some (.loc d' 0), fun _ => some (c.map laid), fun st' ha hfr => ?_⟩
        have hfd := hfr d' (by simp [IOper.frees])
        refine ⟨{ st' with tm := aset d' (.loc d' 0) st'.tm, ob := aset d' (c.map laid) st'.ob }, ?_, rfl, fun u => ?_, fun k => ?_⟩
        · rw [hst]
          simp only [step, hfd.1, hfd.2, Bool.and_self, cond_true]
        · rw [aget_aset]
          simp only [IOper.writes, IOp.gives, List.append_nil, List.mem_singleton]
        · rw [obk_aset]
          simp only [IOper.ft, List.mem_singleton]
          rfl
      · cases h
    | _ => simp [IOp.open, hp] at ho

end Go.Eng
namespace Go.Eng
open Go.RowKit

def IOp.isCall : IOp → Bool
  | .call .. | .callP .. | .callv .. => true
  | _ => false

section
variable {α : Type} {r : α}

theorem cb (b : Bool) (c : Prop) [Decidable c] (s : St) (y : St → Option α) : (bif b then (if c then y s else none) else none) = (bif b then (if c then some s else none) else none).bind y := by
  cases b
  · rfl
  · simp only [cond_true]
    split <;> rfl

/-- An operation that calls nothing: first what it does, then what follows. -/
theorem step_nat {C C' : CallF} {o : IOper} (h : o.op.isCall = false) (st : St) (y : St → Option α) (z : D → St → Option α) : step C o st y z = (step C' o st some fun _ _ => none).bind y := by
  obtain ⟨d, op, g⟩ := o
  cases hp : op.pure with
  | true =>
    rw [step_pure hp, step_pure hp]
    split
    · rw [pop_nat, pop_nat (y := fun v => some (St.put st d v)), Option.bind_assoc]
      rfl
    · rfl
  | false =>
    cases op with
    | movO t =>
      simp only [step]; split
      · rename_i v e _
        cases Nat.beq t e <;> rfl
      · rfl
    | pick c a b =>
      simp only [step]; split
      · rename_i x _
        cases x
        · simp only [cond_false]; split <;> rfl
        · simp only [cond_true]; split <;> rfl
      · rfl
    | alloc c =>
      simp only [step]; split
      · rename_i e
        cases (tmFree e st.tm && obFree e st.ob) <;> rfl
      · rfl
    | box x n =>
      simp only [step]; split
      · rename_i e v _
        cases (tmFree e st.tm && obFree e st.ob && Nat.beq (cellsT v).length n && !speaks e v) <;> rfl
      · rfl
    | store a x n =>
      simp only [step]; split
      · rename_i p v _ _
        cases Nat.beq (cellsT v).length n
        · rfl
        · simp only [cond_true]; split <;> rfl
      · rfl
    | storeO a t =>
      simp only [step]; split
      · rename_i p v _ _
        cases still v
        · rfl
        · simp only [cond_true]; split <;> rfl
      · rfl
    | load a n agg =>
      simp only [step]; split
      · split
        · split <;> rfl
        · rfl
      · rfl
    | loadO a =>
      simp only [step]; split
      · split
        · split
          · rename_i v _
            cases still v <;> rfl
          · rfl
        · rfl
      · split
        · split
          · split
            · rename_i v _
              cases still v <;> rfl
            · rfl
          · rfl
        · rfl
      · rfl
    | app zs s x lim =>
      simp only [step]; split
      · rename_i v _
        cases s with
        | t t =>
          dsimp only
          split
          · split
            · exact cb _ _ _ _
            · rfl
          · split
            · exact cb _ _ _ _
            · exact cb _ _ _ _
            · rfl
          · rfl
        | k c =>
          cases c with
          | nl sz =>
            dsimp only
            split
            · exact cb _ _ _ _
            · rfl
          | nlb =>
            dsimp only
            split
            · exact cb _ _ _ _
            · exact cb _ _ _ _
            · rfl
          | _ => rfl
        | f _ => rfl
      · rfl
    | call _ _ => cases h
    | callP _ _ => cases h
    | callv _ _ => cases h
    | _ => cases hp

theorem call_natz {C : CallF} (st : St) (f : FuncId) (vs : List T) (y : T → St → Option α) (g : St → Option α) (p : T → St → St) (hy : y = fun v s => g (p v s)) :
    st.call C f vs y (fun _ _ => none) = (st.call C f vs (fun v s => some (p v s)) (fun _ _ => none)).bind g := by
  subst hy
  unfold St.call
  split
  · rfl
  · rename_i ws _
    cases allD ws with
    | true =>
      simp only [cond_true]
      cases C f ws [] with
      | none => rfl
      | some res =>
        simp only [Option.bind_some]
        cases res with
        | ret v ou =>
          simp only
          cases unsh v <;> rfl
        | pan d ou => rfl
    | false =>
      simp only [cond_false]
      cases C f ws (st.ob :: st.ou) with
      | none => rfl
      | some res =>
        simp only [Option.bind_some]
        cases res with
        | ret v ou =>
          cases ou with
          | nil => rfl
          | cons ob ou =>
            simp only
            cases unsh v <;> rfl
        | pan d ou =>
          cases ou <;> rfl

theorem step_natz {C : CallF} (o : IOper) (st : St) (y : St → Option α) : step C o st y (fun _ _ => none) = (step C o st some fun _ _ => none).bind y := by
  cases h : o.op.isCall with
  | false => exact step_nat h st y _
  | true =>
    obtain ⟨d, op, g⟩ := o
    cases op with
    | call f l =>
      simp only [step]
      split
      · exact call_natz st f _ _ y (fun v s => s.put d v) rfl
      · rfl
    | callv x l =>
      simp only [step]
      split
      · exact call_natz st _ _ _ y (fun v s => s.put d v) rfl
      · rfl
    | callP f l =>
      simp only [step]
      split
      · split
        · rename_i ws _
          cases allD ws with
          | true =>
            simp only [cond_true]
            cases C f ws [] with
            | none => rfl
            | some res =>
              simp only [Option.bind_some]
              cases res with
              | ret v ou =>
                simp only
                cases unshP v <;> rfl
              | pan d ou => rfl
          | false => rfl
        · rfl
      · rfl
    | _ => cases h

theorem stepG_natz {C : CallF} (o : IOper) (st : St) (y : St → Option α) : stepG C o st y (fun _ _ => none) = (stepG C o st some fun _ _ => none).bind y := by
  unfold stepG
  split
  · exact step_natz o st y
  · rename_i t want hg
    split
    · rename_i x hx
      cases x <;> cases want <;> simp only [cond_true, cond_false] <;> first | exact step_natz o _ y | rfl
    · rfl
    · rfl

/-- A run in the text's order, and what each operation shared. -/
def execDF (C : CallF) : List IOper → St → Option (St × List Ft)
  | [], st => some (st, [])
  | o :: r, st => (stp C o st).bind fun st' => (execDF C r st').map fun p => (p.1, o.ft st :: p.2)

theorem Ft.empty_iff {f : Ft} (h : f.empty = true) : f = ⟨[], []⟩ := by
  obtain ⟨r, w⟩ := f
  cases r <;> cases w <;> first | rfl | cases h

theorem apart_none (f : Ft) : f.apart ⟨[], []⟩ = true := by
  unfold Ft.apart
  simp only [List.all_nil, Bool.and_true, List.all_eq_true]
  intro k _
  rfl

theorem none_apart (g : Ft) : Ft.apart ⟨[], []⟩ g = true := by
  unfold Ft.apart
  simp only [List.all_nil, Bool.true_and, List.all_eq_true]
  intro k _
  rfl

def okPair (a b : IOper × Ft) : Prop := depO a.1 b.1 = true ∨ a.2.apart b.2 = true

/-- A region of open order, in the text's order. -/
theorem execX_DF {C : CallF} : ∀ {l : List IOper} {acc : List (IOper × Ft)} {st : St} {y : St → Option α}, execX C acc l st y = some r →
    ∃ st2 fs, execDF C l st = some (st2, fs) ∧ fs.length = l.length ∧ y st2 = some r ∧ (∀ p ∈ acc, ∀ q ∈ l.zip fs, okPair p q) ∧ (l.zip fs).Pairwise okPair
  | [], acc, st, y, h => ⟨st, [], rfl, rfl, h, fun _ _ _ hq => by simp at hq, by simp⟩
  | o :: l, acc, st, y, h => by
    have key : ∀ acc', stepG C o st (fun st' => execX C acc' l st' y) (fun _ _ => none) = some r → ∃ st2 fs, execDF C (o :: l) st = some (st2, o.ft st :: fs) ∧ fs.length = l.length ∧ y st2 = some r ∧ (∀ p ∈ acc', ∀ q ∈ l.zip fs, okPair p q) ∧ (l.zip fs).Pairwise okPair := by
      intro acc' h
      rw [stepG_natz] at h
      obtain ⟨st', h1, h2⟩ := Option.bind_eq_some_iff.1 h
      obtain ⟨st2, fs, k1, k2, k3, k4, k5⟩ := execX_DF h2
      refine ⟨st2, fs, ?_, k2, k3, k4, k5⟩
      have : stp C o st = some st' := h1
      rw [execDF, this, Option.bind_some, k1]
      rfl
    simp only [execX] at h
    cases he : (o.ft st).empty with
    | true =>
      rw [he, cond_true] at h
      obtain ⟨st2, fs, k1, k2, k3, k4, k5⟩ := key _ h
      have e := Ft.empty_iff he
      refine ⟨st2, _, k1, by simp [k2], k3, fun p hp q hq => ?_, ?_⟩
      · rw [List.zip_cons_cons, List.mem_cons] at hq
        rcases hq with rfl | hq
        · exact .inr (by rw [e]; exact apart_none _)
        · exact k4 p hp q hq
      · rw [List.zip_cons_cons, List.pairwise_cons]
        exact ⟨fun q _ => .inr (by rw [e]; exact none_apart _), k5⟩
    | false =>
      rw [he, cond_false] at h
      cases ha : acc.all (fun p => depO p.1 o || p.2.apart (o.ft st)) with
      | false => rw [ha] at h; cases h
      | true =>
        rw [ha, cond_true] at h
        obtain ⟨st2, fs, k1, k2, k3, k4, k5⟩ := key _ h
        refine ⟨st2, _, k1, by simp [k2], k3, fun p hp q hq => ?_, ?_⟩
        · rw [List.zip_cons_cons, List.mem_cons] at hq
          rcases hq with rfl | hq
          · rw [List.all_eq_true] at ha
            have := ha p hp
            simpa [okPair, Bool.or_eq_true] using this
          · exact k4 p (List.mem_cons_of_mem _ hp) q hq
        · rw [List.zip_cons_cons, List.pairwise_cons]
          exact ⟨fun q hq => k4 _ (by simp) q hq, k5⟩

end
end Go.Eng
namespace Go.Eng
open Go.RowKit

theorem has_iff {l : List Nat} {n : Nat} : has l n = true ↔ n ∈ l := by
  induction l with
  | nil => simp [has]
  | cons k l ih =>
    simp only [has, List.mem_cons]
    by_cases h : n = k
    · subst h; simp
    · rw [nbeq_ne (fun e => h e.symm)]
      simp [ih, h]

theorem writes_sub {io : IOper} {t : Nat} (h : t ∈ io.writes) : io.dst = some t ∨ t ∈ io.op.reads := by
  obtain ⟨d, op, g⟩ := io
  unfold IOper.writes at h
  rw [List.mem_append] at h
  rcases h with h | h
  · cases d with
    | none => simp at h
    | some d => left; simp at h; rw [h]
  · right
    cases op <;> simp only [IOp.gives, List.not_mem_nil] at h
    · simpa [IOp.reads] using h
    · simp only [List.mem_singleton] at h; simp [IOp.reads, h]
    · rename_i sz s x lim
      cases s <;> simp [IOp.reads, Opd.slot, IOp.gives] at h ⊢
      exact .inl h

theorem tmFree_aset {d n : Nat} {v : T} : ∀ {l : List (Nat × T)}, tmFree d l = true → (n = d ∨ speaks d v = false) → tmFree d (aset n v l) = true
  | [], _, h => by
    simp only [aset, tmFree, Bool.and_true, Bool.or_eq_true, Bool.not_eq_true']
    rcases h with rfl | h
    · exact .inl (Nat.beq_refl _)
    · exact .inr h
  | (k, x) :: r, hl, h => by
    simp only [tmFree, Bool.and_eq_true] at hl
    have h1 : (Nat.beq n d || !speaks d v) = true := by
      rw [Bool.or_eq_true, Bool.not_eq_true']
      rcases h with rfl | h
      · exact .inl (Nat.beq_refl _)
      · exact .inr h
    simp only [aset]
    cases Nat.blt n k with
    | true => simp only [cond_true, tmFree, h1, hl.1, hl.2, Bool.and_self]
    | false =>
      cases Nat.beq n k with
      | true => simp only [cond_true, cond_false, tmFree, h1, hl.2, Bool.and_self]
      | false => simp only [cond_false, tmFree, hl.1, tmFree_aset hl.2 h, Bool.and_self]

theorem obFree_aset {d n : Nat} {c : List T} : ∀ {l : Ob}, obFree d l = true → (n = d ∨ ∀ x ∈ c, speaks d x = false) → obFree d (aset n c l) = true
  | [], _, h => by
    simp only [aset, obFree, Bool.and_true, Bool.or_eq_true, List.all_eq_true, Bool.not_eq_true']
    rcases h with rfl | h
    · exact .inl (Nat.beq_refl _)
    · exact .inr h
  | (k, x) :: r, hl, h => by
    simp only [obFree, Bool.and_eq_true] at hl
    have h1 : (Nat.beq n d || c.all fun x => !speaks d x) = true := by
      rw [Bool.or_eq_true, List.all_eq_true]
      rcases h with rfl | h
      · exact .inl (Nat.beq_refl _)
      · exact .inr fun x hx => by rw [h x hx]; rfl
    simp only [aset]
    cases Nat.blt n k with
    | true => simp only [cond_true, obFree, h1, hl.1, hl.2, Bool.and_self]
    | false =>
      cases Nat.beq n k with
      | true => simp only [cond_true, cond_false, obFree, h1, hl.2, Bool.and_self]
      | false => simp only [cond_false, obFree, hl.1, obFree_aset hl.2 h, Bool.and_self]

theorem eff_g {C : CallF} {io : IOper} {st st1 : St} (ho : io.op.open = true) (h : stp C io st = some st1) : ∃ e m, Eff C io st e m := by
  obtain ⟨d, op, g⟩ := io
  cases g with
  | none => exact eff_none ho h
  | some g =>
    obtain ⟨t, want⟩ := g
    have same : ∀ (st : St) (b : Bool), aget st.tm t = some (.d (.b b)) → ∀ u, aget (aset t (.d (.b b)) st.tm) u = aget st.tm u := by
      intro st b hb u
      rw [aget_aset]
      split
      · rename_i e; rw [e, hb]
      · rfl
    have w0 : (IOper.mk d op (some (t, want))).writes = (IOper.mk d op none).writes := rfl
    have f0 : ∀ s, (IOper.mk d op (some (t, want))).ft s = (IOper.mk d op none).ft s := fun s => by cases op <;> rfl
    have r0 : (IOper.mk d op (some (t, want))).frees = (IOper.mk d op none).frees := by cases op <;> rfl
    have ftb : ∀ (s : St) (b : Bool), aget s.tm t = some (.d (.b b)) → (IOper.mk d op none).ft { s with tm := aset t (.d (.b b)) s.tm } = (IOper.mk d op none).ft s := fun s b hb =>
      (agree.ft (m := []) (st := s) (st' := { s with tm := aset t (.d (.b b)) s.tm }) ⟨fun u _ => (same s b hb u).symm, fun k hk => by simp at hk⟩)
    have run : ∀ (b : Bool), aget st.tm t = some (.d (.b b)) → (∀ st' : St, aget st'.tm t = some (.d (.b b)) → stp C ⟨d, op, some (t, want)⟩ st' = stp C ⟨d, op, none⟩ { st' with tm := aset t (.d (.b b)) st'.tm }) → ∃ e m, Eff C ⟨d, op, some (t, want)⟩ st e m := by
      intro b hb hs
      rw [hs st hb] at h
      obtain ⟨e, m, he⟩ := eff_none ho h
      refine ⟨e, m, fun st' ha hfr => ?_⟩
      have hb' : aget st'.tm t = some (.d (.b b)) := by rw [← ha.1 t (by simp [IOper.reads])]; exact hb
      obtain ⟨st'', k1, k2, k3, k4⟩ := he { st' with tm := aset t (.d (.b b)) st'.tm } ⟨fun u hu => by
        show aget (aset t _ st.tm) u = aget (aset t _ st'.tm) u
        rw [same st b hb, same st' b hb']
        exact ha.1 u (by simp only [IOper.reads, List.mem_cons]; right; exact hu), fun k hk => ha.2 k (by rw [f0]; rw [ftb st b hb] at hk; exact hk)⟩ (fun q hq => by
          have := hfr q (by rw [r0]; exact hq)
          exact ⟨tmFree_aset this.1 (.inr rfl), this.2⟩)
      refine ⟨st'', by rw [hs st' hb']; exact k1, by rw [f0, f0, ← ftb st' b hb', k2, ftb st b hb], fun u => ?_, fun k => ?_⟩
      · rw [k3 u, w0]
        split
        · rfl
        · exact same st' b hb' u
      · rw [k4 k, f0, ftb st b hb]
        rfl
    have skip : (∀ st' : St, aget st'.tm t = aget st.tm t → ∃ st2 : St, stp C ⟨d, op, some (t, want)⟩ st' = some (st2.put d (.tup [])) ∧ st2.ob = st'.ob ∧ st2.ou = st'.ou ∧ ∀ u, aget st2.tm u = aget st'.tm u) → ∃ e m, Eff C ⟨d, op, some (t, want)⟩ st e m := by
      intro hs
      refine ⟨fun u => if d = some u then some (.tup []) else aget st.tm u, fun k => st.obk k, fun st' ha _ => ?_⟩
      obtain ⟨st2, k1, k2, k3, k4⟩ := hs st' (ha.1 t (by simp [IOper.reads])).symm
      refine ⟨_, k1, by rw [f0, f0]; exact agree.ft (m := []) ⟨fun u hu => ha.1 u (by simp only [IOper.reads, List.mem_cons]; right; exact hu), fun k hk => by simp at hk⟩, fun u => ?_, fun k => ?_⟩
      · rw [aget_put]
        by_cases hd : d = some u
        · rw [if_pos hd]
          have : u ∈ (IOper.mk d op (some (t, want))).writes := by
            unfold IOper.writes
            rw [hd]
            simp
          rw [if_pos this]
          simp only [if_pos hd]
        · rw [if_neg hd, k4 u]
          split
          · rename_i hw
            simp only [if_neg hd]
            rcases writes_sub hw with h1 | h1
            · exact absurd h1 hd
            · exact (ha.1 u (by simp only [IOper.reads, List.mem_cons]; right; exact h1)).symm
          · rfl
      · rw [put_obk]
        have : st2.obk k = st'.obk k := by unfold St.obk; rw [k2, k3]
        rw [this]
        split
        · rename_i hw
          exact (ha.2 k (by simp only [Ft.all, List.mem_append]; exact .inr hw)).symm
        · rfl
    unfold stp stepG at h
    simp only at h
    split at h
    · rename_i b hb
      cases b <;> cases want
      · refine run false hb fun st' hb' => ?_
        unfold stp stepG
        simp only [hb', cond_false]
        rfl
      · refine skip fun st' hb' => ?_
        refine ⟨{ st' with tm := aset t (.d (.b false)) st'.tm }, ?_, rfl, rfl, fun u => same st' false (by rw [hb', hb]) u⟩
        unfold stp stepG
        simp only [hb', hb, cond_false, cond_true]
      · refine skip fun st' hb' => ?_
        refine ⟨{ st' with tm := aset t (.d (.b true)) st'.tm }, ?_, rfl, rfl, fun u => same st' true (by rw [hb', hb]) u⟩
        unfold stp stepG
        simp only [hb', hb, cond_false, cond_true]
      · refine run true hb fun st' hb' => ?_
        unfold stp stepG
        simp only [hb', cond_true]
        rfl
    · rename_i hb
      refine skip fun st' hb' => ?_
      refine ⟨st', ?_, rfl, rfl, fun u => rfl⟩
      unfold stp stepG
      simp only [hb', hb]
    · cases h

theorem indep_iff {a b : IOper} (h : indep a b = true) : (∀ t ∈ a.writes, t ∉ b.reads ∧ t ∉ b.writes) ∧ ∀ t ∈ b.writes, t ∉ a.reads := by
  simp only [indep, Bool.and_eq_true, List.all_eq_true, Bool.not_eq_true'] at h
  refine ⟨fun t ht => ⟨fun h' => ?_, fun h' => ?_⟩, fun t ht h' => ?_⟩
  · have := (h.1 t ht).1; rw [has_iff.2 h'] at this; cases this
  · have := (h.1 t ht).2; rw [has_iff.2 h'] at this; cases this
  · have := h.2 t ht; rw [has_iff.2 h'] at this; cases this

theorem hasKy_iff {l : List (Nat × Nat)} {k : Nat × Nat} : hasKy l k = true ↔ k ∈ l := by
  induction l with
  | nil => simp [hasKy]
  | cons q l ih =>
    obtain ⟨a, b⟩ := q
    obtain ⟨c, e⟩ := k
    simp only [hasKy, Bool.or_eq_true, Bool.and_eq_true, List.mem_cons, Prod.mk.injEq, ih]
    constructor
    · rintro (⟨h1, h2⟩ | h)
      · exact .inl ⟨(nbeq_eq h1).symm, (nbeq_eq h2).symm⟩
      · exact .inr h
    · rintro (⟨rfl, rfl⟩ | h)
      · exact .inl ⟨Nat.beq_refl _, Nat.beq_refl _⟩
      · exact .inr h

theorem apart_iff {f g : Ft} (h : f.apart g = true) : (∀ k ∈ f.w, k ∉ g.all) ∧ ∀ k ∈ g.w, k ∉ f.r := by
  simp only [Ft.apart, Bool.and_eq_true, List.all_eq_true, Bool.not_eq_true'] at h
  refine ⟨fun k hk h' => ?_, fun k hk h' => ?_⟩
  · simp only [Ft.all, List.mem_append] at h'
    rcases h' with h' | h'
    · have := (h.1 k hk).1; rw [hasKy_iff.2 h'] at this; cases this
    · have := (h.1 k hk).2; rw [hasKy_iff.2 h'] at this; cases this
  · have := h.2 k hk; rw [hasKy_iff.2 h'] at this; cases this

theorem St.eqv.refl (st : St) : st.eqv st := ⟨fun _ => rfl, fun _ => rfl⟩
theorem St.eqv.trans {a b c : St} (h : a.eqv b) (k : b.eqv c) : a.eqv c := ⟨fun t => (h.1 t).trans (k.1 t), fun q => (h.2 q).trans (k.2 q)⟩
theorem St.eqv.symm {a b : St} (h : a.eqv b) : b.eqv a := ⟨fun t => (h.1 t).symm, fun q => (h.2 q).symm⟩

theorem St.eqv.ft {a b : St} (h : a.eqv b) (io : IOper) : io.ft a = io.ft b := agree.ft (m := []) ⟨fun t _ => (h.1 t).symm, fun k hk => by simp at hk⟩

theorem stp_eqv {C : CallF} {io : IOper} {st st1 st' : St} (ho : io.op.open = true) (h : stp C io st = some st1) (e : st.eqv st') (hf0 : ∀ d ∈ io.frees, FreeD d st) (hf1 : ∀ d ∈ io.frees, FreeD d st') : ∃ st1', stp C io st' = some st1' ∧ st1.eqv st1' := by
  obtain ⟨f, m, hf⟩ := eff_g ho h
  obtain ⟨a, a1, a2, a3, a4⟩ := hf st ⟨fun _ _ => rfl, fun _ _ => rfl⟩ hf0
  obtain ⟨b, b1, b2, b3, b4⟩ := hf st' ⟨fun t _ => e.1 t, fun k _ => e.2 k⟩ hf1
  rw [h] at a1
  cases a1
  refine ⟨b, b1, fun t => ?_, fun k => ?_⟩
  · rw [a3 t, b3 t, e.1 t]
  · rw [a4 k, b4 k, e.2 k]

theorem execD_cons {C : CallF} {io : IOper} {l : List IOper} {st : St} : execD C (io :: l) st = (stp C io st).bind (execD C l) := rfl

end Go.Eng
namespace Go.Eng
open Go.RowKit

def plainT : T → Bool
  | .d _ | .nl _ | .nlb => true
  | _ => false

def Opd.plain : Opd → Bool
  | .k x => plainT x
  | _ => true

def IOp.opds : IOp → List Opd
  | .pick c a b => [c, a, b]
  | .load a _ _ | .loadO a | .storeO a _ => [a]
  | .store a x _ => [a, x]
  | .app _ s x _ => [s, x]
  | .callP _ l => l
  | io => io.args

def IOp.zs : IOp → List T
  | .build z _ | .alloc z => z
  | _ => []

/-- Constants are data. -/
def IOper.plain (io : IOper) : Bool := io.op.opds.all Opd.plain && io.op.zs.all plainT

theorem plainT_speaks {x : T} {d : Nat} (h : plainT x = true) : speaks d x = false := by cases x <;> first | rfl | cases h

theorem speaks_cp (d : Nat) (x : T) : speaks d (cp x) = speaks d x := by cases x <;> rfl

theorem speaksL_iff {d : Nat} : ∀ {l : List T}, speaksL d l = false ↔ ∀ x ∈ l, speaks d x = false
  | [] => by simp [speaksL]
  | x :: l => by
    simp only [speaksL, Bool.or_eq_false_iff, List.mem_cons, forall_eq_or_imp]
    rw [speaksL_iff]

theorem still_speaks {d : Nat} {x : T} (h : still x = true) : speaks d x = false := by cases x <;> first | rfl | cases h

theorem opd_free {st : St} {d : Nat} (hf : FreeD d st) {x : Opd} {v : T} (hp : x.plain = true) (hd : d ∉ x.slot) (h : st.opd x = some v) : speaks d v = false := by
  cases x with
  | t n =>
    simp only [St.opd] at h
    cases e : aget st.tm n with
    | none => rw [e] at h; cases h
    | some y =>
      rw [e] at h
      simp only [Option.map_some, Option.some.injEq] at h
      rw [← h, speaks_cp]
      exact tmFree_get hf.1 e (by rintro rfl; exact hd (by simp [Opd.slot]))
  | k y => simp only [St.opd, Option.some.injEq] at h; rw [← h]; exact plainT_speaks hp
  | f g => simp only [St.opd, Option.some.injEq] at h; rw [← h]; rfl

theorem opds_free {st : St} {d : Nat} (hf : FreeD d st) : ∀ {l : List Opd} {vs : List T}, l.all Opd.plain = true → d ∉ l.flatMap Opd.slot → st.opds l = some vs → ∀ v ∈ vs, speaks d v = false
  | [], vs, _, _, h, v, hv => by simp only [St.opds, Option.some.injEq] at h; rw [← h] at hv; simp at hv
  | x :: l, vs, hp, hd, h, v, hv => by
    simp only [List.all_cons, Bool.and_eq_true] at hp
    simp only [List.flatMap_cons, List.mem_append, not_or] at hd
    simp only [St.opds] at h
    split at h
    · rename_i y ys h1 h2
      simp only [Option.some.injEq] at h
      rw [← h, List.mem_cons] at hv
      rcases hv with rfl | hv
      · exact opd_free hf hp.1 hd.1 h1
      · exact opds_free hf hp.2 hd.2 h2 v hv
    · cases h

theorem nth_d {β : Type} {l : List β} {n : Int} {f : β → T} {v : T} (h : (nth l n fun c => some (f c)) = some v) : ∃ c, v = f c := by
  unfold nth at h
  split at h
  · unfold opt at h
    split at h
    · cases h; exact ⟨_, rfl⟩
    · cases h
  · cases h

theorem binT_d {op : BinOp} {x z v : T} (h : binT op x z some = some v) : ∃ q, v = .d q := by
  unfold binT at h
  split at h
  · split at h
    · split at h
      · cases h
      · cases h; exact ⟨_, rfl⟩
    · split at h
      · cases h
      · cases h; exact ⟨_, rfl⟩
    · split at h
      · unfold intOp at h
        split at h <;> first
          | (cases h; exact ⟨_, rfl⟩)
          | (split at h <;> first | (cases h; exact ⟨_, rfl⟩) | cases h)
          | cases h
      · cases h
  · unfold strOp at h
    split at h <;> first
      | (cases h; exact ⟨_, rfl⟩)
      | (split at h <;> first | (cases h; exact ⟨_, rfl⟩) | cases h)
      | cases h
  · cases h

theorem cutAt_d {β : Type} {l : List β} {lo hi : Option T} {f : List β → T} {v : T} (h : (cutAt l lo hi fun m => some (f m)) = some v) : ∃ m, v = f m := by
  unfold cutAt at h
  split at h <;> first
    | (split at h <;> first | (cases h; exact ⟨_, rfl⟩) | cases h)
    | cases h

theorem asVal_free {d : Nat} {cells : List T} {n : Nat} {agg : Bool} {v : T} (h : asVal cells n agg = some v) (hc : ∀ x ∈ cells, speaks d x = false) : speaks d v = false := by
  cases agg with
  | true =>
    simp only [asVal] at h
    cases e : Nat.ble n cells.length with
    | false => rw [e] at h; cases h
    | true =>
      rw [e, cond_true] at h
      split at h
      · cases h; rfl
      · cases h
  | false =>
    simp only [asVal] at h
    split at h
    · cases h
      rw [speaks_cp]
      exact hc _ (by simp)
    · cases h

theorem cellsT_free {d : Nat} {x : T} (h : speaks d x = false) : ∀ y ∈ cellsT x, speaks d y = false := by
  unfold cellsT
  split
  · intro y hy
    obtain ⟨z, _, rfl⟩ := List.mem_map.1 hy
    rfl
  · rename_i l
    rw [speaks] at h
    exact speaksL_iff.1 h
  · intro y hy; simp at hy
  · intro y hy; simp at hy; rw [hy]; exact h

theorem splice_free {d : Nat} {z xs : List T} {off : Nat} (hz : ∀ x ∈ z, speaks d x = false) (hx : ∀ x ∈ xs, speaks d x = false) : ∀ x ∈ splice z off xs, speaks d x = false := by
  intro x h
  unfold splice at h
  rw [List.mem_append, List.mem_append] at h
  rcases h with (h | h) | h
  · exact hz x (List.mem_of_mem_take h)
  · exact hx x h
  · exact hz x (List.mem_of_mem_drop h)

theorem placed_free {d : Nat} : ∀ {z : List T} {parts : List (Nat × Nat × Opd)} {vs c : List T}, placed z parts vs = some c → (∀ x ∈ z, speaks d x = false) → (∀ x ∈ vs, speaks d x = false) → ∀ x ∈ c, speaks d x = false
  | z, [], vs, c, h, hz, _ => by
    cases vs <;> (simp only [placed, Option.some.injEq] at h; rw [← h]; exact hz)
  | z, (off, n, o) :: r, [], c, h, _, _ => by simp [placed] at h
  | z, (off, n, o) :: r, y :: l, c, h, hz, hv => by
    simp only [placed] at h
    cases e : (Nat.beq (cellsT y).length n && Nat.ble (off + n) z.length) with
    | false => rw [e] at h; cases h
    | true =>
      rw [e, cond_true] at h
      exact placed_free h (splice_free hz (cellsT_free (hv y (by simp)))) (fun x hx => hv x (by simp [hx]))

theorem pSlc_free {d sz : Nat} {x v : T} {lo hi : Option T} (h : pSlc sz x lo hi some = some v) : speaks d v = false := by
  unfold pSlc at h
  split at h
  · cases e : Nat.beq sz 0 with
    | false => rw [e] at h; cases h
    | true => rw [e, cond_true] at h; obtain ⟨m, rfl⟩ := cutAt_d (f := fun l => .d (.s l)) h; rfl
  · rename_i sz' _
    cases e : (Nat.beq sz sz' && !Nat.beq sz 0) with
    | false => rw [e] at h; cases h
    | true => rw [e, cond_true] at h; obtain ⟨m, rfl⟩ := cutAt_d (f := fun l => .d (.sl sz l)) h; rfl
  · cases e : Nat.beq sz 1 with
    | false => rw [e] at h; cases h
    | true => rw [e, cond_true] at h; obtain ⟨m, rfl⟩ := cutAt_d (f := fun l => .d (.bs l)) h; rfl
  · cases h

/-- What is made of values that don't speak of d doesn't. -/
theorem pop_free {d : Nat} {o : IOp} {vs : List T} {v : T} (hz : o.zs.all plainT = true) (h : pop o vs some = some v) (hv : ∀ x ∈ vs, speaks d x = false) : speaks d v = false := by
  cases o with
  | mov x => obtain ⟨y, e, h'⟩ := one_some h; clear h; subst e; have h := h'; clear h'; cases h; exact hv _ (by simp)
  | nilO sz => cases h; rfl
  | nilB => cases h; rfl
  | faddr x off =>
    obtain ⟨y, e, h'⟩ := one_some h; clear h; subst e; have h := h'; clear h'
    have hy := hv y (by simp)
    unfold pFaddr at h
    split at h
    · cases h; exact hy
    · cases h; rfl
    · cases h; rfl
    · cases h
  | fld x off n agg =>
    obtain ⟨y, e, h'⟩ := one_some h; clear h; subst e; have h := h'; clear h'
    have hy := hv y (by simp)
    unfold pFld at h
    split at h
    · obtain ⟨w, h1, h2⟩ := opt_some h
      cases h2
      refine asVal_free h1 fun x hx => ?_
      obtain ⟨z, _, rfl⟩ := List.mem_map.1 hx
      rfl
    · obtain ⟨w, h1, h2⟩ := opt_some h
      cases h2
      rw [speaks] at hy
      exact asVal_free h1 fun x hx => speaksL_iff.1 hy x (List.mem_of_mem_drop hx)
    · cases h
  | iaddr x i sz =>
    obtain ⟨y, z, e, h'⟩ := two_some h; clear h; subst e; have h := h'; clear h'
    unfold pIaddr at h
    split at h
    · rename_i sz' _ _ _
      cases e : Nat.beq sz sz' with
      | false => rw [e] at h; cases h
      | true => rw [e, cond_true] at h; obtain ⟨c, rfl⟩ := nth_d (f := fun r => .ro r 0) h; rfl
    · cases e : Nat.beq sz 1 with
      | false => rw [e] at h; cases h
      | true => rw [e, cond_true] at h; obtain ⟨c, rfl⟩ := nth_d (f := fun c : UInt8 => .ro [.i .u8 c.toNat] 0) h; rfl
    · cases h
  | idx x i =>
    obtain ⟨y, z, e, h'⟩ := two_some h; clear h; subst e; have h := h'; clear h'
    unfold pIdx at h
    split at h
    · obtain ⟨c, rfl⟩ := nth_d (f := fun c : UInt8 => .d (.i .u8 c.toNat)) h; rfl
    · cases h
  | bin op x z => obtain ⟨y, w, e, h'⟩ := two_some h; clear h; subst e; have h := h'; clear h'; obtain ⟨q, rfl⟩ := binT_d h; rfl
  | beqv neg x z =>
    obtain ⟨y, w, e, h'⟩ := two_some h; clear h; subst e; have h := h'; clear h'
    unfold pBeqv at h
    split at h <;> first | (cases h; rfl) | cases h
  | ieq neg x =>
    obtain ⟨y, e, h'⟩ := one_some h; clear h; subst e; have h := h'; clear h'
    unfold pIeq at h
    split at h <;> first | (cases h; rfl) | cases h
  | eqs neg ks x z =>
    obtain ⟨y, w, e, h'⟩ := two_some h; clear h; subst e; have h := h'; clear h'
    split at h
    · unfold pIeqv at h
      split at h
      · obtain ⟨_, h⟩ := cond_some h
        cases h; rfl
      · cases h
    · cases h
    · obtain ⟨_, h⟩ := cond_some h
      unfold pEqs at h
      obtain ⟨_, _, h⟩ := opt_some h
      obtain ⟨_, _, h⟩ := opt_some h
      obtain ⟨_, _, h⟩ := opt_some h
      cases h; rfl
  | un op x =>
    obtain ⟨y, e, h'⟩ := one_some h; clear h; subst e; have h := h'; clear h'
    unfold pUn at h
    split at h <;> first | (cases h; rfl) | cases h
  | conv c x =>
    obtain ⟨y, e, h'⟩ := one_some h; clear h; subst e; have h := h'; clear h'
    unfold pConv at h
    split at h <;> first | (cases h; rfl) | cases h
  | mkif t x =>
    obtain ⟨y, e, h'⟩ := one_some h; clear h; subst e; have h := h'; clear h'
    obtain ⟨_, _, h⟩ := opt_some h
    cases h; rfl
  | mkfn f caps => cases h; rw [speaks]; exact speaksL_iff.2 hv
  | build z parts =>
    obtain ⟨c, h1, h⟩ := opt_some h
    cases h
    rw [speaks]
    refine speaksL_iff.2 (placed_free h1 (fun x hx => ?_) hv)
    rw [List.all_eq_true] at hz
    exact plainT_speaks (hz x hx)
  | bsl sz parts => obtain ⟨_, _, h⟩ := opt_some h; cases h; rfl
  | bslb parts => obtain ⟨_, _, h⟩ := opt_some h; cases h; rfl
  | ext x i =>
    obtain ⟨y, e, h'⟩ := one_some h; clear h; subst e; have h := h'; clear h'
    have hy := hv y (by simp)
    unfold pExt at h
    split at h
    · obtain ⟨w, h1, h⟩ := opt_some h
      cases h
      rw [speaks] at hy
      exact speaksL_iff.1 hy _ (List.mem_of_getElem? h1)
    · cases h
  | lenS x =>
    obtain ⟨y, e, h'⟩ := one_some h; clear h; subst e; have h := h'; clear h'
    unfold pLenS at h
    split at h <;> first | (cases h; rfl) | cases h
  | lenL x =>
    obtain ⟨y, e, h'⟩ := one_some h; clear h; subst e; have h := h'; clear h'
    unfold pLenL at h
    split at h <;> first | (cases h; rfl) | cases h
  | mx x z =>
    obtain ⟨y, w, e, h'⟩ := two_some h; clear h; subst e; have h := h'; clear h'
    unfold pMx at h
    split at h <;> first | (cases h; rfl) | cases h
  | mn x z =>
    obtain ⟨y, w, e, h'⟩ := two_some h; clear h; subst e; have h := h'; clear h'
    unfold pMn at h
    split at h <;> first | (cases h; rfl) | cases h
  | slc sz x lo hi =>
    cases lo <;> cases hi
    · obtain ⟨y, e, h'⟩ := one_some h; clear h; subst e; have h := h'; clear h'
      have hy := hv y (by simp)
      split at h
      · obtain ⟨_, h⟩ := cond_some h; cases h; rfl
      · obtain ⟨_, h⟩ := cond_some h; cases h; rfl
      · obtain ⟨_, h⟩ := cond_some h; cases h; rfl
      · cases h
    · obtain ⟨y, w, e, h'⟩ := two_some h; clear h; subst e; have h := h'; clear h'; exact pSlc_free h
    · obtain ⟨y, w, e, h'⟩ := two_some h; clear h; subst e; have h := h'; clear h'; exact pSlc_free h
    · simp only [pop] at h
      split at h
      · exact pSlc_free h
      · cases h
  | _ => simp [pop] at h

theorem sh_free {d n : Nat} {x y : T} (h : sh (n + 1) x = some y) : speaks d y = false := by
  cases x with
  | fn f caps =>
    simp only [sh] at h
    cases e : shs (n + 1) caps with
    | none => rw [e] at h; cases h
    | some l =>
      rw [e] at h
      cases h
      rw [speaks]
      exact shs_free l e
  | agt l =>
    simp only [sh] at h
    cases e : toDs l with
    | none => rw [e] at h; cases h
    | some ds => rw [e] at h; cases h; rfl
  | _ => simp [sh] at h <;> (subst h; rfl)
where
  shs_free {n : Nat} : ∀ {caps : List T} (l : List T), shs (n + 1) caps = some l → speaksL d l = false
    | [], l, h => by simp only [shs, Option.some.injEq] at h; rw [← h]; rfl
    | x :: r, l, h => by
      simp only [shs] at h
      split at h
      · rename_i y ys h1 h2
        simp only [Option.some.injEq] at h
        rw [← h, speaksL, sh_free h1, shs_free ys h2]; rfl
      · cases h

theorem at_free {st : St} {d : Nat} (hf : FreeD d st) {p : T} {cells : List T} (hp : speaks d p = false) (h : st.at p = some cells) : ∀ x ∈ cells, speaks d x = false := by
  unfold St.at at h
  split at h
  · rename_i t off
    cases e : aget st.ob t with
    | none => rw [e] at h; cases h
    | some cs =>
      rw [e] at h
      simp only [Option.map_some, Option.some.injEq] at h
      have hn : t ≠ d := by
        rintro rfl
        simp [speaks] at hp
      intro x hx
      rw [← h] at hx
      exact obFree_get hf.2 e hn x (List.mem_of_mem_drop hx)
  · split at h
    · split at h
      · intro x hx
        exact speaksL_iff.1 (sh_free.shs_free cells h) x hx
      · cases h
    · cases h
  · simp only [Option.some.injEq] at h
    rw [← h]
    intro x hx
    obtain ⟨z, _, rfl⟩ := List.mem_map.1 hx
    rfl
  · cases h

theorem free_put {st : St} {d : Nat} (hf : FreeD d st) (o : Option Nat) {v : T} (hv : speaks d v = false) : FreeD d (st.put o v) := by
  cases o with
  | none => exact hf
  | some n => exact ⟨tmFree_aset hf.1 (.inr hv), hf.2⟩

theorem wr_free {st st1 : St} {d : Nat} (hf : FreeD d st) {p : T} {xs : List T} (hp : speaks d p = false) (hx : ∀ x ∈ xs, speaks d x = false) (h : st.wr p xs = some st1) : FreeD d st1 := by
  unfold St.wr at h
  split at h
  · rename_i t off
    have hn : t ≠ d := by
      rintro rfl
      simp [speaks] at hp
    split at h
    · rename_i cells hc
      obtain ⟨_, h⟩ := cond_some h
      cases h
      refine ⟨hf.1, obFree_aset hf.2 (.inr (splice_free (obFree_get hf.2 hc hn) fun x hx' => ?_))⟩
      obtain ⟨z, hz, rfl⟩ := List.mem_map.1 hx'
      exact speaks_laid (hx z hz)
    · cases h
  · split at h
    · split at h
      · obtain ⟨_, h⟩ := cond_some h
        cases h
        exact hf
      · cases h
    · cases h
  · cases h

theorem unshP_free {d : Nat} {v u : T} (h : unshP v = some u) : speaks d u = false := by
  obtain ⟨h1, h2⟩ := cond_some h
  unfold unsh at h2
  split at h2
  · cases h2; rfl
  · cases h2; rfl
  · cases h2; rfl
  · rename_i l
    obtain ⟨h3, h2⟩ := cond_some h2
    cases h2
    rw [speaks]
    clear h1 h h2
    induction l with
    | nil => rfl
    | cons x l ih =>
      cases x with
      | d y => rw [speaksL, ih (by simpa [allD] using h3)]; rfl
      | _ => simp [allD] at h3
  · cases h2; rfl
  · cases h1
  · cases h1
  · cases h2

/-- Whoever doesn't look at d, nor lays it, leaves nobody who speaks of it. -/
theorem free_keep0 {C : CallF} {d : Nat} {o : Option Nat} {op : IOp} {st st1 : St} (ho : op.open = true) (hp : (IOper.mk o op none).plain = true) (h : stp C ⟨o, op, none⟩ st = some st1) (hf : FreeD d st) (hr : d ∉ op.reads) (hw : d ∉ (IOper.mk o op none).writes) : FreeD d st1 := by
  unfold IOper.plain at hp
  rw [Bool.and_eq_true] at hp
  obtain ⟨hp1, hp2⟩ := hp
  replace h : step C ⟨o, op, none⟩ st some (fun _ _ => none) = some st1 := h
  cases hpu : op.pure with
  | true =>
    rw [step_pure hpu] at h
    split at h
    · rename_i vs hv
      rw [pop_nat] at h
      obtain ⟨v, h1, h2⟩ := Option.bind_eq_some_iff.1 h
      cases h2
      have hrd : op.reads = op.args.flatMap Opd.slot := by cases op <;> first | rfl | cases hpu
      have hod : op.opds = op.args := by cases op <;> first | rfl | cases hpu
      exact free_put hf _ (pop_free hp2 h1 (opds_free hf (by rw [← hod]; exact hp1) (by rw [← hrd]; exact hr) hv))
    · cases h
  | false =>
    cases op with
    | movO t =>
      simp only [step] at h
      split at h
      · rename_i v d' hv
        cases e1 : Nat.beq t d' with
        | true => rw [e1] at h; cases h
        | false =>
          rw [e1, cond_false] at h
          cases h
          have hs := tmFree_get hf.1 hv (by rintro rfl; exact hr (by simp [IOp.reads]))
          exact ⟨tmFree_aset (tmFree_aset hf.1 (.inr (by rw [speaks_cp]; exact hs))) (.inr (speaks_laid hs)), hf.2⟩
      · cases h
    | pick c a b =>
      simp only [IOp.opds, List.all_cons, List.all_nil, Bool.and_true, Bool.and_eq_true] at hp1
      simp only [IOp.reads, List.mem_append, not_or] at hr
      simp only [step] at h
      split at h
      · rename_i x hc
        cases x
        · rw [cond_false] at h
          split at h
          · rename_i v hv; cases h; exact free_put hf _ (opd_free hf hp1.2.2 hr.2 hv)
          · cases h
        · rw [cond_true] at h
          split at h
          · rename_i v hv; cases h; exact free_put hf _ (opd_free hf hp1.2.1 hr.1.2 hv)
          · cases h
      · cases h
    | load a m agg =>
      simp only [IOp.opds, List.all_cons, List.all_nil, Bool.and_true] at hp1
      simp only [step] at h
      split at h
      · rename_i p hp'
        split at h
        · rename_i cells hc
          split at h
          · rename_i v hv
            cases h
            exact free_put hf _ (asVal_free hv (at_free hf (opd_free hf hp1 hr hp') hc))
          · cases h
        · cases h
      · cases h
    | loadO a =>
      simp only [IOp.opds, List.all_cons, List.all_nil, Bool.and_true] at hp1
      simp only [step] at h
      split at h
      · rename_i t off hp'
        have hs := opd_free hf hp1 hr hp'
        have hn : t ≠ d := by
          rintro rfl
          simp [speaks] at hs
        split at h
        · rename_i cells hc
          split at h
          · rename_i v hv
            obtain ⟨h3, h⟩ := cond_some h
            cases h
            refine free_put (st := { st with ob := aset t (cells.set off (cp v)) st.ob }) ⟨hf.1, obFree_aset hf.2 (.inr fun x hx => ?_)⟩ _ (speaks_laid (still_speaks h3))
            rcases List.mem_or_eq_of_mem_set hx with hx | rfl
            · exact obFree_get hf.2 hc hn x hx
            · rw [speaks_cp]; exact still_speaks h3
          · cases h
        · cases h
      · split at h
        · split at h
          · split at h
            · obtain ⟨h3, h⟩ := cond_some h
              cases h
              refine free_put ?_ _ (speaks_laid (still_speaks h3))
              exact ⟨hf.1, hf.2⟩
            · cases h
          · cases h
        · cases h
      · cases h
    | store a x n =>
      simp only [IOp.opds, List.all_cons, List.all_nil, Bool.and_true, Bool.and_eq_true] at hp1
      simp only [IOp.reads, List.mem_append, not_or] at hr
      simp only [step] at h
      split at h
      · rename_i p v hp' hx
        obtain ⟨_, h⟩ := cond_some h
        split at h
        · rename_i st2 hw2
          cases h
          exact free_put (wr_free hf (opd_free hf hp1.1 hr.1 hp') (cellsT_free (opd_free hf hp1.2 hr.2 hx)) hw2) _ rfl
        · cases h
      · cases h
    | storeO a t =>
      simp only [IOp.opds, List.all_cons, List.all_nil, Bool.and_true] at hp1
      simp only [IOp.reads, List.mem_cons, not_or] at hr
      simp only [step] at h
      split at h
      · rename_i p v hp' hx
        obtain ⟨h3, h⟩ := cond_some h
        split at h
        · rename_i st2 hw2
          cases h
          have hs := still_speaks (d := d) h3
          exact free_put (wr_free (st := { st with tm := aset t (cp v) st.tm }) ⟨tmFree_aset hf.1 (.inr (by rw [speaks_cp]; exact hs)), hf.2⟩ (opd_free hf hp1 hr.2 hp') (fun y hy => by simp at hy; rw [hy]; exact hs) hw2) _ rfl
        · cases h
      · cases h
    | callP f l =>
      simp only [step] at h
      split at h
      · split at h
        · obtain ⟨_, h⟩ := cond_some h
          obtain ⟨res, _, h⟩ := Option.bind_eq_some_iff.1 h
          cases res with
          | pan _ _ => cases h
          | ret v ou =>
            simp only at h
            split at h
            · rename_i u hu
              cases h
              exact free_put hf _ (unshP_free hu)
            · cases h
        · cases h
      · cases h
    | app sz s x lim =>
      simp only [step] at h
      split at h
      · cases s with
        | f _ => cases h
        | k c =>
          cases c with
          | nl sz' =>
            dsimp only at h
            split at h
            · obtain ⟨_, h⟩ := cond_some h
              obtain ⟨_, h⟩ := ite_some h
              cases h
              exact free_put hf _ rfl
            · cases h
          | nlb =>
            dsimp only at h
            split at h
            · obtain ⟨_, h⟩ := cond_some h
              obtain ⟨_, h⟩ := ite_some h
              cases h
              exact free_put hf _ rfl
            · obtain ⟨_, h⟩ := cond_some h
              obtain ⟨_, h⟩ := ite_some h
              cases h
              exact free_put hf _ rfl
            · cases h
          | _ => cases h
        | t t =>
          dsimp only at h
          split at h
          · split at h
            · obtain ⟨_, h⟩ := cond_some h
              obtain ⟨_, h⟩ := ite_some h
              cases h
              exact ⟨tmFree_aset (tmFree_aset hf.1 (.inr rfl)) (.inr rfl), hf.2⟩
            · cases h
          · split at h
            · obtain ⟨_, h⟩ := cond_some h
              obtain ⟨_, h⟩ := ite_some h
              cases h
              exact ⟨tmFree_aset (tmFree_aset hf.1 (.inr rfl)) (.inr rfl), hf.2⟩
            · obtain ⟨_, h⟩ := cond_some h
              obtain ⟨_, h⟩ := ite_some h
              cases h
              exact ⟨tmFree_aset (tmFree_aset hf.1 (.inr rfl)) (.inr rfl), hf.2⟩
            · cases h
          · cases h
      · cases h
    | alloc c =>
      simp only [step] at h
      split at h
      · rename_i d'
        obtain ⟨_, h⟩ := cond_some h
        cases h
        have hn : d' ≠ d := by
          rintro rfl
          exact hw (by simp [IOper.writes])
        have hn' : speaks d (.loc d' 0) = false := by rw [speaks]; exact nbeq_ne hn
        refine ⟨tmFree_aset hf.1 (.inr hn'), obFree_aset hf.2 (.inr fun x hx => ?_)⟩
        obtain ⟨z, hz, rfl⟩ := List.mem_map.1 hx
        rw [List.all_eq_true] at hp2
        exact speaks_laid (plainT_speaks (hp2 z hz))
      · cases h
    | _ => simp [IOp.open, hpu] at ho

theorem free_keep {C : CallF} {d : Nat} {io : IOper} {st st1 : St} (ho : io.op.open = true) (hp : io.plain = true) (h : stp C io st = some st1) (hf : FreeD d st) (hr : d ∉ io.reads) (hw : d ∉ io.writes) : FreeD d st1 := by
  obtain ⟨o, op, g⟩ := io
  cases g with
  | none => exact free_keep0 ho hp h hf hr hw
  | some g =>
    obtain ⟨t, want⟩ := g
    have hr' : d ∉ op.reads := fun h' => hr (by simp only [IOper.reads, List.mem_cons]; exact .inr h')
    have go : ∀ b : Bool, FreeD d { st with tm := aset t (.d (.b b)) st.tm } := fun b => ⟨tmFree_aset hf.1 (.inr rfl), hf.2⟩
    unfold stp stepG at h
    simp only at h
    split at h
    · rename_i b hb
      cases b <;> cases want <;> simp only [cond_true, cond_false] at h
      · exact free_keep0 ho hp h (go _) hr' hw
      · cases h; exact free_put (go _) _ rfl
      · cases h; exact free_put (go _) _ rfl
      · exact free_keep0 ho hp h (go _) hr' hw
    · cases h; exact free_put hf _ rfl
    · cases h

theorem frees_writes {io : IOper} {d : Nat} (h : d ∈ io.frees) : d ∈ io.writes := by
  obtain ⟨o, op, g⟩ := io
  unfold IOper.frees at h
  split at h
  · rename_i d' e1 e2
    simp only at e1 e2
    subst e2
    simp only [List.mem_singleton] at h
    subst h
    simp [IOper.writes]
  · simp at h

theorem commute {C : CallF} {a b : IOper} {st sa sab : St} (ha : a.op.open = true) (hb : b.op.open = true) (pa : a.plain = true) (pb : b.plain = true) (hi : indep a b = true) (hd : (a.ft st).apart (b.ft sa) = true) (h1 : stp C a st = some sa) (h2 : stp C b sa = some sab)
    (fa : ∀ d ∈ a.frees, FreeD d st) (fb : ∀ d ∈ b.frees, FreeD d st) :
    ∃ sb sba, stp C b st = some sb ∧ stp C a sb = some sba ∧ sab.eqv sba ∧ b.ft st = b.ft sa ∧ a.ft sb = a.ft st := by
  obtain ⟨i1, i2⟩ := indep_iff hi
  obtain ⟨d1, d2⟩ := apart_iff hd
  obtain ⟨e, m, he⟩ := eff_g ha h1
  obtain ⟨f, n, hf⟩ := eff_g hb h2
  obtain ⟨sa', a1, _, a3, a4⟩ := he st ⟨fun _ _ => rfl, fun _ _ => rfl⟩ fa
  rw [h1] at a1
  cases a1
  have fb' : ∀ d ∈ b.frees, FreeD d sa := fun d hd => free_keep ha pa h1 (fb d hd) (fun h => i2 d (frees_writes hd) h) (fun h => (i1 d h).2 (frees_writes hd))
  obtain ⟨sab', b1, _, b3, b4⟩ := hf sa ⟨fun _ _ => rfl, fun _ _ => rfl⟩ fb'
  rw [h2] at b1
  cases b1
  obtain ⟨sb, c1, c2, c3, c4⟩ := hf st ⟨fun t ht => by rw [a3 t, if_neg (fun h => (i1 t h).1 ht)], fun k hk => by rw [a4 k, if_neg (fun h => d1 k h hk)]⟩ fb
  have fa' : ∀ d ∈ a.frees, FreeD d sb := fun d hd => free_keep hb pb c1 (fa d hd) (fun h => (i1 d (frees_writes hd)).1 h) (fun h => (i1 d (frees_writes hd)).2 h)
  have dab : ∀ k, k ∈ (a.ft st).all → k ∉ (b.ft sa).w := fun k hk hw => by
    simp only [Ft.all, List.mem_append] at hk
    rcases hk with hk | hk
    · exact d2 k hw hk
    · exact d1 k hk (by simp only [Ft.all, List.mem_append]; exact .inr hw)
  obtain ⟨sba, g1, g2, g3, g4⟩ := he sb ⟨fun t ht => by rw [c3 t, if_neg (fun h => i2 t h ht)], fun k hk => by rw [c4 k, if_neg (dab k hk)]⟩ fa'
  refine ⟨sb, sba, c1, g1, ⟨fun t => ?_, fun k => ?_⟩, c2, g2⟩
  · rw [b3 t, a3 t, g3 t, c3 t]
    by_cases hw : t ∈ a.writes
    · rw [if_neg (i1 t hw).2, if_pos hw, if_pos hw]
    · rw [if_neg hw, if_neg hw]
  · rw [b4 k, a4 k, g4 k, c4 k]
    by_cases hw : k ∈ (a.ft st).w
    · rw [if_neg (dab k (by simp only [Ft.all, List.mem_append]; exact .inr hw)), if_pos hw, if_pos hw]
    · rw [if_neg hw, if_neg hw]

/-- A run in the text's order, with what each operation shared. -/
def RunF (C : CallF) : List (IOper × Ft) → St → St → Prop
  | [], st, st2 => st = st2
  | x :: r, st, st2 => ∃ st', stp C x.1 st = some st' ∧ x.2 = x.1.ft st ∧ RunF C r st' st2

theorem runF_of {C : CallF} : ∀ {l : List IOper} {st st2 : St} {fs : List Ft}, execDF C l st = some (st2, fs) → RunF C (l.zip fs) st st2
  | [], st, st2, fs, h => by cases h; exact rfl
  | o :: l, st, st2, fs, h => by
    rw [execDF] at h
    obtain ⟨st', h1, h2⟩ := Option.bind_eq_some_iff.1 h
    cases h3 : execDF C l st' with
    | none => rw [h3] at h2; cases h2
    | some p =>
      rw [h3] at h2
      obtain ⟨s, g⟩ := p
      cases h2
      exact ⟨st', h1, rfl, runF_of h3⟩

/-- The first neither looks at nor lays what the second makes. -/
def NoTouch (y x : IOper × Ft) : Prop := ∀ d ∈ x.1.frees, d ∉ y.1.reads ∧ d ∉ y.1.writes

def Fit (l : List (IOper × Ft)) : Prop := (∀ x ∈ l, x.1.op.open = true ∧ x.1.plain = true) ∧ l.Pairwise NoTouch

def FreeL (l : List (IOper × Ft)) (st : St) : Prop := ∀ x ∈ l, ∀ d ∈ x.1.frees, FreeD d st

theorem FreeL.next {C : CallF} {x : IOper × Ft} {l : List (IOper × Ft)} {st st1 : St} (hx : x.1.op.open = true ∧ x.1.plain = true) (hn : ∀ y ∈ l, NoTouch x y) (hf : FreeL l st) (h : stp C x.1 st = some st1) : FreeL l st1 :=
  fun y hy d hd => free_keep hx.1 hx.2 h (hf y hy d hd) (hn y hy d hd).1 (hn y hy d hd).2

theorem runF_eqv {C : CallF} : ∀ {l : List (IOper × Ft)} {st st1 st' : St}, Fit l → FreeL l st → FreeL l st' → RunF C l st st1 → st.eqv st' → ∃ st1', RunF C l st' st1' ∧ st1.eqv st1'
  | [], st, st1, st', _, _, _, h, e => by cases h; exact ⟨st', rfl, e⟩
  | x :: l, st, st1, st', hfit, f0, f1, h, e => by
    obtain ⟨a, h1, h2, h3⟩ := h
    have hx := hfit.1 x (by simp)
    have hp := List.pairwise_cons.1 hfit.2
    obtain ⟨a', k1, k2⟩ := stp_eqv hx.1 h1 e (f0 x (by simp)) (f1 x (by simp))
    obtain ⟨b, k3, k4⟩ := runF_eqv ⟨fun y hy => hfit.1 y (by simp [hy]), hp.2⟩ (FreeL.next hx hp.1 (fun y hy => f0 y (by simp [hy])) h1) (FreeL.next hx hp.1 (fun y hy => f1 y (by simp [hy])) k1) h3 k2
    exact ⟨b, ⟨a', k1, by rw [h2]; exact e.ft x.1, k3⟩, k4⟩

/-- What may come first. -/
theorem bubble {C : CallF} {x : IOper × Ft} {post : List (IOper × Ft)} : ∀ {pre : List (IOper × Ft)} {st st1 : St}, (∀ p ∈ pre, indep p.1 x.1 = true ∧ p.2.apart x.2 = true) → Fit (pre ++ x :: post) → FreeL (pre ++ x :: post) st → RunF C (pre ++ x :: post) st st1 →
    ∃ sa sb, stp C x.1 st = some sa ∧ x.2 = x.1.ft st ∧ RunF C (pre ++ post) sa sb ∧ st1.eqv sb ∧ FreeL (pre ++ post) sa
  | [], st, st1, _, hfit, hf, h => by
    obtain ⟨a, h1, h2, h3⟩ := h
    have hp := List.pairwise_cons.1 hfit.2
    exact ⟨a, st1, h1, h2, h3, .refl _, FreeL.next (hfit.1 x (by simp)) hp.1 (fun y hy => hf y (by simp at hy ⊢; exact .inr hy)) h1⟩
  | p :: pre, st, st1, hi, hfit, hf, h => by
    obtain ⟨a, h1, h2, h3⟩ := h
    rw [List.cons_append] at hfit hf
    have hp := List.pairwise_cons.1 hfit.2
    have hpp := hfit.1 p (by simp)
    have hxx := hfit.1 x (by simp)
    have hfit' : Fit (pre ++ x :: post) := ⟨fun y hy => hfit.1 y (by simp at hy ⊢; exact .inr hy), hp.2⟩
    have hfa : FreeL (pre ++ x :: post) a := FreeL.next hpp hp.1 (fun y hy => hf y (by simp at hy ⊢; exact .inr hy)) h1
    obtain ⟨sa, sb, k1, k2, k3, k4, k5⟩ := bubble (fun q hq => hi q (by simp [hq])) hfit' hfa h3
    obtain ⟨ip, ap⟩ := hi p (by simp)
    have hap : (p.1.ft st).apart (x.1.ft a) = true := by rw [← h2, ← k2]; exact ap
    obtain ⟨c, d, c1, c2, c3, c4, c5⟩ := commute hpp.1 hxx.1 hpp.2 hxx.2 ip hap h1 k1 (hf p (by simp)) (hf x (by simp))
    -- who is left
    have sub : ∀ y, y ∈ pre ++ post → y ∈ pre ++ x :: post := fun y hy => by
      rw [List.mem_append] at hy ⊢
      rcases hy with hy | hy
      · exact .inl hy
      · exact .inr (List.mem_cons_of_mem _ hy)
    have fit2 : Fit (pre ++ post) := ⟨fun y hy => hfit'.1 y (sub y hy), hp.2.sublist (List.Sublist.append_left (List.sublist_cons_self _ _) _)⟩
    have nx : ∀ y ∈ pre ++ post, NoTouch x y := fun y hy => by
      rw [List.mem_append] at hy
      rcases hy with hy | hy
      · intro q hq
        obtain ⟨i1, i2⟩ := indep_iff (hi y (by simp [hy])).1
        exact i1 q (frees_writes hq)
      · exact (List.pairwise_cons.1 (List.pairwise_append.1 hp.2).2.1).1 y hy
    have fc : FreeL (pre ++ post) c := FreeL.next hxx nx (fun y hy => hf y (List.mem_cons_of_mem _ (sub y hy))) c1
    have fp : FreeL (p :: (pre ++ post)) c := by
      intro y hy
      rcases List.mem_cons.1 hy with rfl | hy
      · intro q hq
        obtain ⟨i1, _⟩ := indep_iff ip
        exact free_keep hxx.1 hxx.2 c1 (hf y (by simp) q hq) (i1 q (frees_writes hq)).1 (i1 q (frees_writes hq)).2
      · exact fc y hy
    have fd : FreeL (pre ++ post) d := FreeL.next hpp (fun y hy => hp.1 y (sub y hy)) fc c2
    obtain ⟨sb', k7, k8⟩ := runF_eqv fit2 k5 fd k3 c3
    exact ⟨c, sb', c1, by rw [k2, c4], ⟨d, c2, by rw [h2, c5], k7⟩, k4.trans k8, fp⟩

end Go.Eng
namespace Go.Eng
open Go.RowKit

/-- From operation i on: all may change places with the earlier ones that they need not follow. -/
def orderOne (ops : Array Oper) (il : List IOper) (i : Nat) (o : Oper) (io : IOper) : Bool :=
  (io.op.open && io.plain) && o.after.toList.all (fun e => !Region.binds .any e || Nat.blt e.on i) &&
  ((il.take i).zipIdx.all fun p => (!depO p.1 io || o.after.toList.any fun e => Region.binds .any e && Nat.beq e.on p.2) && io.frees.all fun d => !has p.1.reads d && !has p.1.writes d)

def orderP (ops : Array Oper) (il : List IOper) : Nat → List Oper → List IOper → Bool
  | i, o :: l, io :: r => orderOne ops il i o io && orderP ops il (i + 1) l r
  | _, [], [] => true
  | _, _, _ => false

def drawP (P : Program) (n : Nat) (ops : Array Oper) (il : List IOper) : Bool := matchAll P n ops ops.toList il && orderP ops il 0 ops.toList il

section
variable {P : Program} {w0 : World} {n : Nat} {ops : Array Oper}

theorem orderP_get {il : List IOper} : ∀ {k : Nat} {l : List Oper} {r : List IOper}, orderP ops il k l r = true → ∀ (i : Nat) (io : IOper), r[i]? = some io → ∃ o, l[i]? = some o ∧ orderOne ops il (k + i) o io = true
  | k, o :: l, io :: r, h, i, p, hp => by
    simp only [orderP, Bool.and_eq_true] at h
    cases i with
    | zero => simp only [List.getElem?_cons_zero, Option.some.injEq] at hp; subst hp; exact ⟨o, rfl, h.1⟩
    | succ i =>
      simp only [List.getElem?_cons_succ] at hp
      obtain ⟨q, h1, h2⟩ := orderP_get h.2 i p hp
      exact ⟨q, h1, by rw [show k + (i + 1) = k + 1 + i by omega]; exact h2⟩
  | _, [], [], _, i, p, hp => by simp at hp
  | _, [], _ :: _, h, _, _, _ => by simp [orderP] at h
  | _, _ :: _, [], h, _, _, _ => by simp [orderP] at h

theorem matchAll_get : ∀ {l : List Oper} {r : List IOper}, matchAll P n ops l r = true → ∀ (i : Nat) (io : IOper), r[i]? = some io → ∃ o, l[i]? = some o ∧ matchOp P n ops o io = true
  | o :: l, io :: r, h, i, p, hp => by
    simp only [matchAll, Bool.and_eq_true] at h
    cases i with
    | zero => simp only [List.getElem?_cons_zero, Option.some.injEq] at hp; subst hp; exact ⟨o, rfl, h.1⟩
    | succ i =>
      simp only [List.getElem?_cons_succ] at hp
      exact matchAll_get h.2 i p hp
  | [], [], _, i, p, hp => by simp at hp
  | [], _ :: _, h, _, _, _ => by simp [matchAll] at h
  | _ :: _, [], h, _, _, _ => by simp [matchAll] at h

theorem Rel.eqv {I : Fz} {κ : Km} {st st' : St} {tm : Array Value} {w : World} (h : Rel w0 n I κ st tm w) (e : st.eqv st') : Rel w0 n I κ st' tm w :=
  { below := h.below, sat := h.sat, size := h.size, tms := fun t x hx => h.tms t x (by rw [e.1]; exact hx),
    objs := fun f t cells hc => h.objs f t cells (by have := e.2 (f, t); simp only [St.obk] at this; rw [this]; exact hc),
    inj := h.inj, own := h.own }

theorem ready_iff {md : Region.Mode} {listed : Array Bool} {i : Nat} (h : i ∈ Region.ready md ops listed) : ∃ o, ops[i]? = some o ∧ listed.getD i true = false ∧ ∀ e ∈ o.after, Region.binds md e = true → listed.getD e.on false = true := by
  unfold Region.ready at h
  rw [List.mem_filter] at h
  obtain ⟨h1, h2⟩ := h
  have hi : i < ops.size := by simpa using h1
  have ho : ops[i]? = some ops[i] := Array.getElem?_eq_getElem hi
  rw [ho] at h2
  simp only [Option.map_some, Option.getD_some, Bool.and_eq_true, Bool.not_eq_true', Array.all_eq_true_iff_forall_mem, Bool.or_eq_true] at h2
  exact ⟨_, ho, h2.1, fun e he hb => by
    rcases h2.2 e he with h | h
    · rw [hb] at h; cases h
    · exact h⟩

theorem ready_of {md : Region.Mode} {listed : Array Bool} {i : Nat} {o : Oper} (ho : ops[i]? = some o) (h1 : listed.getD i true = false) (h2 : ∀ e ∈ o.after, Region.binds md e = true → listed.getD e.on false = true) : i ∈ Region.ready md ops listed := by
  unfold Region.ready
  rw [List.mem_filter]
  refine ⟨by simpa using (Array.getElem?_eq_some_iff.1 ho).1, ?_⟩
  rw [ho]
  simp only [Option.map_some, Option.getD_some, Bool.and_eq_true, Bool.not_eq_true', Array.all_eq_true_iff_forall_mem, Bool.or_eq_true]
  refine ⟨h1, fun e he => ?_⟩
  cases hb : Region.binds md e with
  | false => exact .inl rfl
  | true => exact .inr (h2 e he hb)

/-- What is left: in the text's order. -/
structure Left (il : List IOper) (listed : Array Bool) (rem : List (Nat × (IOper × Ft))) : Prop where
  size : listed.size = il.length
  sorted : rem.Pairwise fun a b => a.1 < b.1 ∧ okPair a.2 b.2
  get : ∀ p ∈ rem, il[p.1]? = some p.2.1
  iff : ∀ i, i < il.length → (listed.getD i true = false ↔ ∃ x, (i, x) ∈ rem)

theorem depO_not {a b : IOper} (h : depO a b = false) : indep a b = true := by
  unfold depO at h
  simp only [Bool.or_eq_false_iff, Bool.not_eq_false'] at h
  exact h.2

theorem orderOne_of {il : List IOper} {i : Nat} {o : Oper} {io : IOper} (h : orderOne ops il i o io = true) : (io.op.open = true ∧ io.plain = true) ∧ (∀ e ∈ o.after, Region.binds .any e = true → e.on < i) ∧
    ∀ j q, j < i → il[j]? = some q → (depO q io = false ∨ ∃ e ∈ o.after, Region.binds .any e = true ∧ e.on = j) ∧ ∀ d ∈ io.frees, d ∉ q.reads ∧ d ∉ q.writes := by
  unfold orderOne at h
  rw [Bool.and_eq_true, Bool.and_eq_true, Bool.and_eq_true] at h
  obtain ⟨⟨h1, h2⟩, h3⟩ := h
  refine ⟨h1, fun e he hb => ?_, fun j q hj hq => ?_⟩
  · rw [List.all_eq_true] at h2
    have := h2 e (by simpa using he)
    rw [hb] at this
    exact nblt_iff.1 (by simpa using this)
  · rw [List.all_eq_true] at h3
    have hz : (q, j) ∈ (il.take i).zipIdx := by
      rw [List.mem_zipIdx_iff_getElem?, List.getElem?_take, if_pos hj]
      exact hq
    have := h3 (q, j) hz
    rw [Bool.and_eq_true, Bool.or_eq_true, Bool.not_eq_true', List.any_eq_true, List.all_eq_true] at this
    refine ⟨?_, fun d hd => ?_⟩
    · rcases this.1 with h | ⟨e, he, hb⟩
      · exact .inl h
      · rw [Bool.and_eq_true] at hb
        exact .inr ⟨e, by simpa using he, hb.1, nbeq_eq hb.2⟩
    · have h4 := this.2 d hd
      rw [Bool.and_eq_true, Bool.not_eq_true', Bool.not_eq_true'] at h4
      exact ⟨fun h' => (by rw [has_iff.2 h'] at h4; cases h4.1), fun h' => (by rw [has_iff.2 h'] at h4; cases h4.2)⟩

theorem left_fit {il : List IOper} {listed : Array Bool} {rem : List (Nat × (IOper × Ft))} (hord : orderP ops il 0 ops.toList il = true) (hl : Left il listed rem) : Fit (rem.map (·.2)) := by
  refine ⟨fun x hx => ?_, ?_⟩
  · obtain ⟨⟨i, y⟩, hp, rfl⟩ := List.mem_map.1 hx
    obtain ⟨o, _, h⟩ := orderP_get hord i y.1 (hl.get _ hp)
    exact (orderOne_of h).1
  · rw [List.pairwise_map]
    refine (List.Pairwise.and_mem.1 hl.sorted).imp ?_
    rintro ⟨i, a⟩ ⟨j, b⟩ ⟨hi, hj, hlt, _⟩
    obtain ⟨o, _, h⟩ := orderP_get hord j b.1 (hl.get _ hj)
    rw [Nat.zero_add] at h
    exact ((orderOne_of h).2.2 i a.1 hlt (hl.get _ hi)).2

theorem any_sound {C : CallF} (hC : ∀ f ws ou res, C f ws ou = some res → CallOK P w0 f ws ou res) {il : List IOper} (hm : drawP P n ops il = true) {Q : Exit → Act → World → Prop} {st1 : St} {I0 : Fz} {κ0 : Km} {wb : World}
    (hQ : ∀ I' κ' tm' w', Rel w0 n I' κ' st1 tm' w' → Ext I0 κ0 wb I' κ' w' → Q .normal ⟨tm', []⟩ w') :
    ∀ (fuel : Nat) (listed : Array Bool) (rem : List (Nat × (IOper × Ft))) (I : Fz) (κ : Km) (st st2 : St) (tm : Array Value) (w : World), rem.length ≤ fuel → Left il listed rem → FreeL (rem.map (·.2)) st → Rel w0 n I κ st tm w → Ext I0 κ0 wb I κ w → RunF C (rem.map (·.2)) st st2 → st2.eqv st1 →
      wpAny P .any ops Q fuel listed ⟨tm, []⟩ w := by
  simp only [drawP, Bool.and_eq_true] at hm
  obtain ⟨hm, hord⟩ := hm
  have hlen := matchAll_len hm
  rw [Array.length_toList] at hlen
  -- where nothing is left
  have done : ∀ (listed : Array Bool) (rem : List (Nat × (IOper × Ft))) (I : Fz) (κ : Km) (st st2 : St) (tm : Array Value) (w : World), Left il listed rem → Rel w0 n I κ st tm w → Ext I0 κ0 wb I κ w → RunF C (rem.map (·.2)) st st2 → st2.eqv st1 →
      Region.ready .any ops listed = [] → rem = [] ∧ Q .normal ⟨tm, []⟩ w := by
    intro listed rem I κ st st2 tm w hl hr he hx hv hnil
    cases rem with
    | nil =>
      cases hx
      exact ⟨rfl, hQ _ _ _ _ (hr.eqv hv) he⟩
    | cons p rem =>
      exfalso
      obtain ⟨i, x⟩ := p
      have hg := hl.get (i, x) (by simp)
      obtain ⟨o, ho, h1⟩ := orderP_get hord i x.1 hg
      rw [Nat.zero_add] at h1
      have hi : i < il.length := (List.getElem?_eq_some_iff.1 hg).1
      have hrd : i ∈ Region.ready .any ops listed := by
        refine ready_of (by simpa using ho) ((hl.iff i hi).2 ⟨x, by simp⟩) fun e he hb => ?_
        have hlt := (orderOne_of h1).2.1 e he hb
        have hel : e.on < listed.size := by rw [hl.size]; omega
        cases hgd : listed.getD e.on true with
        | true =>
          simp only [Array.getD, hel, dif_pos] at hgd ⊢
          exact hgd
        | false =>
          exfalso
          obtain ⟨y, hp⟩ := (hl.iff e.on (by omega)).1 hgd
          rcases List.mem_cons.1 hp with h | h
          · cases h; omega
          · have := ((List.pairwise_cons.1 hl.sorted).1 _ h).1
            simp only at this
            omega
      rw [hnil] at hrd
      cases hrd
  intro fuel
  induction fuel with
  | zero =>
    intro listed rem I κ st st2 tm w hfuel hl hfr hr he hx hv
    have : rem = [] := List.length_eq_zero_iff.1 (by omega)
    subst this
    cases hx
    refine ⟨?_, hQ _ _ _ _ (hr.eqv hv) he⟩
    rw [List.eq_nil_iff_forall_not_mem]
    intro i hi
    obtain ⟨o, ho, h1, _⟩ := ready_iff hi
    have hil : i < il.length := by rw [← hlen]; exact (Array.getElem?_eq_some_iff.1 ho).1
    obtain ⟨x, h⟩ := (hl.iff i hil).1 h1
    cases h
  | succ fuel ih =>
    intro listed rem I κ st st2 tm w hfuel hl hfr hr he hx hv
    refine ⟨fun hnil => (done listed rem I κ st st2 tm w hl hr he hx hv hnil).2, fun i hi => ?_⟩
    obtain ⟨o, ho, h1, h2⟩ := ready_iff hi
    have hil : i < il.length := by rw [← hlen]; exact (Array.getElem?_eq_some_iff.1 ho).1
    obtain ⟨x, hmem⟩ := (hl.iff i hil).1 h1
    have hg := hl.get _ hmem
    have hfit := left_fit hord hl
    obtain ⟨pre, post, rfl⟩ := List.append_of_mem hmem
    obtain ⟨o', ho', hmo⟩ := matchAll_get hm i x.1 hg
    have : o' = o := by
      have h3 : ops[i]? = some o' := by simpa using ho'
      rw [ho] at h3
      exact (Option.some.inj h3).symm
    subst this
    have hpw := List.pairwise_append.1 hl.sorted
    have hind : ∀ p ∈ pre.map (·.2), indep p.1 x.1 = true ∧ p.2.apart x.2 = true := by
      intro p hp
      obtain ⟨⟨j, p'⟩, hj, rfl⟩ := List.mem_map.1 hp
      obtain ⟨hlt, hok⟩ := hpw.2.2 _ hj (i, x) (by simp)
      obtain ⟨q, hq, h3⟩ := orderP_get hord i x.1 hg
      rw [Nat.zero_add] at h3
      have : q = o' := by rw [ho'] at hq; exact (Option.some.inj hq).symm
      subst this
      have hgj := hl.get (j, p') (List.mem_append_left _ hj)
      have hdep : depO p'.1 x.1 = false := by
        rcases ((orderOne_of h3).2.2 j p'.1 hlt hgj).1 with h | ⟨e, he1, he2, rfl⟩
        · exact h
        · exfalso
          have h4 := h2 e he1 he2
          have h6 := (hl.iff e.on (by omega)).2 ⟨p', List.mem_append_left _ hj⟩
          have hjl : e.on < listed.size := by rw [hl.size]; omega
          simp only [Array.getD, hjl, dif_pos] at h4 h6
          rw [h4] at h6
          cases h6
      refine ⟨depO_not hdep, ?_⟩
      rcases hok with h | h
      · simp only at h; rw [hdep] at h; cases h
      · exact h
    rw [List.map_append, List.map_cons] at hx hfr hfit
    obtain ⟨sa, sb, k1, _, k2, k3, k4⟩ := bubble hind hfit hfr hx
    rw [← List.map_append] at k2 k4
    have hl' : Left il (listed.setIfInBounds i true) (pre ++ post) := by
      refine ⟨by simpa using hl.size, ?_, fun p hp => hl.get p ?_, fun j hj => ?_⟩
      · rw [List.pairwise_append]
        exact ⟨hpw.1, (List.pairwise_cons.1 hpw.2.1).2, fun a ha b hb => hpw.2.2 a ha b (List.mem_cons_of_mem _ hb)⟩
      · rcases List.mem_append.1 hp with h | h
        · exact List.mem_append_left _ h
        · exact List.mem_append_right _ (List.mem_cons_of_mem _ h)
      · by_cases hji : j = i
        · subst hji
          have hjl : j < listed.size := by rw [hl.size]; exact hj
          constructor
          · intro h
            simp [Array.getD, hjl] at h
          · rintro ⟨p, hp⟩
            exfalso
            rcases List.mem_append.1 hp with h | h
            · have := (hpw.2.2 _ h (j, x) (by simp)).1
              simp at this
            · have := ((List.pairwise_cons.1 hpw.2.1).1 _ h).1
              simp at this
        · have : (listed.setIfInBounds i true).getD j true = listed.getD j true := by
            have hjl : j < listed.size := by rw [hl.size]; exact hj
            simp [Array.getD, hjl, Ne.symm hji]
          rw [this, hl.iff j hj]
          constructor
          · rintro ⟨p, hp⟩
            refine ⟨p, ?_⟩
            rcases List.mem_append.1 hp with h | h
            · exact List.mem_append_left _ h
            · rcases List.mem_cons.1 h with h | h
              · cases h; exact absurd rfl hji
              · exact List.mem_append_right _ h
          · rintro ⟨p, hp⟩
            refine ⟨p, ?_⟩
            rcases List.mem_append.1 hp with h | h
            · exact List.mem_append_left _ h
            · exact List.mem_append_right _ (List.mem_cons_of_mem _ h)
    have hrem : (pre ++ post).length ≤ fuel := by
      simp only [List.length_append, List.length_cons] at hfuel ⊢
      omega
    have hK : Cont w0 n (wpAny P .any ops Q fuel (listed.setIfInBounds i true)) (fun s => some s) sa I κ w := by
      intro I' κ' st' tm' w' hr' he' hst
      cases hst
      exact ih _ _ I' κ' sa sb tm' w' hrem hl' k4 hr' (he.trans he') k2 (k3.symm.trans hv)
    have hZ : ContZ w0 n Q (fun _ _ => (none : Option St)) sa I κ w := by
      intro I' κ' st' tm' w' d v _ _ _ h
      cases h
    have hres := og_sound hC hr hmo k1 hK hZ
    unfold wpOp
    rw [ho]
    by_cases hw : Region.wanted o' (yielded ops tm) = true
    · simp only
      rw [if_pos hw]
      exact .inl (hres.1 hw)
    · simp only
      rw [if_neg hw]
      exact hres.2 (by simpa using hw)

theorem Rel.drew {I : Fz} {κ : Km} {st : St} {tm : Array Value} {w : World} (h : Rel w0 n I κ st tm w) (m : Nat) : Rel w0 n I κ st tm { w with drawn := m } ∧ Ext I κ w I κ { w with drawn := m } :=
  ⟨h.grow (Gr.drawn h.sat m), (Gr.drawn h.sat m).ext h.sat⟩

theorem zip_at {α β : Type} : ∀ {l : List α} {m : List β} {i : Nat} {p : α × β}, (l.zip m)[i]? = some p → l[i]? = some p.1
  | [], m, i, p, h => by simp at h
  | _ :: _, [], i, p, h => by simp at h
  | a :: l, b :: m, 0, p, h => by simp at h; rw [← h]; rfl
  | a :: l, b :: m, i + 1, p, h => by simp only [List.zip_cons_cons, List.getElem?_cons_succ] at h ⊢; exact zip_at h

theorem reg_any {C : CallF} (hP : P.follows .mixedOrders = true) (hC : ∀ f ws ou res, C f ws ou = some res → CallOK P w0 f ws ou res) {il : List IOper} {id : Nat} {Q : Exit → Act → World → Prop} {I : Fz} {κ : Km} {st st1 : St} {fs : List Ft} {tm : Array Value} {w : World}
    (hm : drawP P n ops il = true) (hr : Rel w0 n I κ st tm w) (hfr : st.free (il.flatMap IOper.frees) = true) (h : execDF C il st = some (st1, fs)) (hfl : fs.length = il.length) (hok : (il.zip fs).Pairwise okPair) (hQ : ∀ I' κ' tm' w', Rel w0 n I' κ' st1 tm' w' → Ext I κ w I' κ' w' → Q .normal ⟨tm', []⟩ w') :
    (Code.region id ops true).wp P Q ⟨tm, []⟩ w := by
  have hlen : ops.size = il.length := by
    simp only [drawP, Bool.and_eq_true] at hm
    have := matchAll_len hm.1
    rwa [Array.length_toList] at this
  have hzl : (il.zip fs).length = il.length := by rw [List.length_zip, hfl, Nat.min_self]
  refine wp_region_any hP ?_
  obtain ⟨hr', he⟩ := hr.drew (w.drawn + 1)
  have hmap : ((il.zip fs).zipIdx.map fun p => ((p.2, p.1) : Nat × (IOper × Ft))).map (·.2) = il.zip fs := by
    rw [List.map_map]
    exact List.zipIdx_map_fst 0 (il.zip fs)
  refine any_sound hC hm hQ ops.size (Array.replicate ops.size false) ((il.zip fs).zipIdx.map fun p => (p.2, p.1)) I κ st st1 tm _ (by simp [hlen, hfl]) ⟨by simp [hlen], ?_, ?_, ?_⟩ (by
      rw [hmap]
      intro x hx d hd
      unfold St.free at hfr
      rw [List.all_eq_true] at hfr
      have hxl : x.1 ∈ il := by
        obtain ⟨i, hi⟩ := List.getElem?_of_mem hx
        exact List.mem_of_getElem? (zip_at hi)
      have := hfr d (List.mem_flatMap.2 ⟨x.1, hxl, hd⟩)
      rw [Bool.and_eq_true] at this
      exact this) hr' he (by rw [hmap]; exact runF_of h) (.refl _)
  · rw [List.pairwise_map]
    refine List.pairwise_iff_getElem.2 fun i j hi hj hij => ?_
    simp only [List.getElem_zipIdx]
    refine ⟨by omega, ?_⟩
    rw [List.length_zipIdx] at hi hj
    exact List.pairwise_iff_getElem.1 hok i j hi hj hij
  · intro p hp
    obtain ⟨q, hq, rfl⟩ := List.mem_map.1 hp
    rw [List.mem_zipIdx_iff_getElem?] at hq
    exact zip_at hq
  · intro i hi
    constructor
    · intro _
      have hi' : i < (il.zip fs).length := by rw [hzl]; exact hi
      refine ⟨(il.zip fs)[i], List.mem_map.2 ⟨((il.zip fs)[i], i), ?_, rfl⟩⟩
      rw [List.mem_zipIdx_iff_getElem?]
      exact List.getElem?_eq_getElem hi'
    · intro _
      simp [Array.getD, hlen, hi]

end
end Go.Eng
