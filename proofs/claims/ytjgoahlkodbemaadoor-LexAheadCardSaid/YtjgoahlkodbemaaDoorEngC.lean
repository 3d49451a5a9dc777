/-
  The engine, part P: calls.
-/
import Derived.Test.YtjgoahlkodbemaaDoorEngB
import Derived.Orders
namespace Go.Eng
open Go.RowKit

def Km.push (κ : Km) : Km := fun k => match k.fr with
  | 0 => none
  | m + 1 => κ ⟨m, k.k, k.t, k.j⟩

def Km.pop (κ : Km) : Km := fun k => κ ⟨k.fr + 1, k.k, k.t, k.j⟩

def resKey : Key := ⟨0, 3, 0, 0⟩

def Callable (P : Program) (f : FuncId) : Prop := ∃ fn c, P.funcs[f]? = some fn ∧ (fn.name == "runtime.NumGoroutine") = false ∧ fn.body = some c

/-- What a call leaves, as the callee sees it. -/
def RetOK (w0 : World) (r : Res) (I : Fz) (κ : Km) (e : Ending) (w : World) : Prop := match r, e with
  | .ret v ou, .returned u => Rel w0 0 I κ ⟨[], [], ou⟩ #[] w ∧ ∀ z, unsh v = some z → RT I κ w 0 (κ resKey) v u
  | .pan d ou, .panicked chain => Rel w0 0 I κ ⟨[], [], ou⟩ #[] w ∧ ∃ v, chain = [{ v, recovered := false }] ∧ RD I d v
  | _, _ => False

/-- A call comes to what the plain one comes to. -/
structure CallOK (P : Program) (w0 : World) (f : FuncId) (ws : List T) (ou : List Ob) (r : Res) : Prop where
  callable : Callable P f
  go : ∀ I κ w us, Rel w0 0 I κ ⟨[], [], ou⟩ #[] w → (∀ k b, κ k = some b → 1 ≤ k.fr) → RTs I κ w 0 ws us →
    Calls P f ⟨us⟩ w (fun e w' => ∃ I' κ', RetOK w0 r I' κ' e w' ∧ Ext I κ w I' κ' w')

section
variable {P : Program} {w0 : World} {n : Nat} {I : Fz} {κ : Km} {st : St} {tm : Array Value} {w : World} {α : Type} {r : α}

theorem obAt_push {ob : Ob} {ou : List Ob} {f t : Nat} : obAt [] (ob :: ou) f t = match f with
  | 0 => none
  | g + 1 => obAt ob ou g t := by
  cases f with
  | zero => rfl
  | succ g => cases g <;> rfl

theorem obAt_nil {f t : Nat} : obAt [] [] f t = none := by cases f <;> simp [obAt, aget]

theorem push_prot {b : Nat} (h : Prot κ b) : Prot κ.push b := by
  intro k hk
  unfold Km.push at hk
  split at hk
  · cases hk
  · rename_i m e
    have := h _ hk
    exact ⟨by omega, this.2⟩

theorem Rel.push (hr : Rel w0 n I κ st tm w) : Rel w0 0 I κ.push ⟨[], [], st.ob :: st.ou⟩ #[] w := by
  refine ⟨hr.below, hr.sat, rfl, fun t x hx => by simp [aget] at hx, fun f t cells hc => ?_, ?_, ?_⟩
  · simp only [obAt_push] at hc
    split at hc
    · cases hc
    · rename_i g
      obtain ⟨b, cs, ty, e1, e2, e3, e4, e5⟩ := hr.objs g t cells hc
      refine ⟨b, cs, ty, e1, e2, e3, e4, fun j x hx => ?_⟩
      obtain ⟨v, g1, g2, g3⟩ := e5 j x hx
      refine ⟨v, g1, g2, RT.mono (Fz.le_refl I) (fun h t => ?_) (fun _ _ => ⟨rfl, rfl⟩) g3⟩
      show κ.push ⟨g + 1 + h, 0, t, 0⟩ = _
      have : g + 1 + h = g + h + 1 := by omega
      rw [this]
      rfl
  · intro k k' b h h'
    unfold Km.push at h h'
    split at h
    · cases h
    · split at h'
      · cases h'
      · rename_i m e m' e'
        have := hr.inj _ _ _ h h'
        simp only [Key.mk.injEq] at this
        cases k; cases k'
        simp only at *
        simp only [Key.mk.injEq]
        omega
  · intro k b h
    unfold Km.push at h
    split at h
    · cases h
    · exact hr.own _ _ h

theorem RTs.allD {κ' : Km} {f f' : Nat} {w' : World} : ∀ {l : List T} {us : List Value}, allD l = true → RTs I κ w f l us → RTs I κ' w' f' l us
  | [], us, _, h => by simp only [RTs] at *; exact h
  | x :: l, us, hl, h => by
    simp only [RTs] at *
    obtain ⟨v, ws, rfl, h1, h2⟩ := h
    cases x <;> simp [Eng.allD] at hl
    exact ⟨v, ws, rfl, by simpa only [RT] using h1, RTs.allD hl h2⟩

/-- Back in the caller. -/
theorem Rel.back {I' : Fz} {κ' : Km} {w' : World} {ob : Ob} {ou : List Ob} (hr : Rel w0 n I κ st tm w) (hc : Rel w0 0 I' κ' ⟨[], [], ob :: ou⟩ #[] w') (he : Ext I κ.push w I' κ' w') :
    Rel w0 n I' κ'.pop { st with ob, ou } tm w' ∧ Ext I κ w I' κ'.pop w' := by
  have hkeys : ∀ k : Key, k.k ≠ 2 → κ'.pop k = κ k := fun k hk => he.keys ⟨k.fr + 1, k.k, k.t, k.j⟩ (by simp) hk
  refine ⟨⟨hc.below, hc.sat, hr.size, fun t x hx => ?_, fun f t cells hcs => ?_, ?_, fun k b h => hc.own _ _ h⟩, he.le, he.size, fun k h1 h2 => hkeys k h2, fun b hb hp => he.keep b hb (push_prot hp), fun q b hq hb => ?_⟩
  · obtain ⟨v, e1, e2⟩ := hr.tms t x hx
    refine ⟨v, e1, ?_⟩
    rw [hkeys _ (by simp)]
    refine RT.mono he.le (fun g t => hkeys _ (by simp)) (fun b hb => ?_) e2
    refine he.keep b (hr.own _ _ hb).2 (fun k hk => ?_)
    unfold Km.push at hk
    split at hk
    · cases hk
    · rename_i m e
      have := hr.inj _ _ _ hk hb
      simp only [Key.mk.injEq] at this
      omega
  · obtain ⟨b, cs, ty, e1, e2, e3, e4, e5⟩ := hc.objs (f + 1) t cells (by rw [obAt_push]; exact hcs)
    refine ⟨b, cs, ty, e1, e2, e3, e4, fun j x hx => ?_⟩
    obtain ⟨v, g1, g2, g3⟩ := e5 j x hx
    refine ⟨v, g1, g2, RT.mono (Fz.le_refl I') (fun h t => ?_) (fun _ _ => ⟨rfl, rfl⟩) g3⟩
    show κ' ⟨f + h + 1, 0, t, 0⟩ = κ' ⟨f + 1 + h, 0, t, 0⟩
    congr 2
    omega
  · intro k k' b h h'
    have := hc.inj _ _ _ h h'
    simp only [Key.mk.injEq] at this
    cases k; cases k'
    simp only at *
    simp only [Key.mk.injEq]
    omega
  · rcases he.old _ _ hq hb with h | h
    · exact .inl h
    · exact .inr fun hp => h (push_prot hp)

theorem unsh_sound {κ' : Km} {bo : Option Nat} {v u : T} {x : Value} (hu : unsh v = some u) (h : RT I κ' w 0 bo v x) : RT I κ'.pop w 0 bo u x := by
  unfold unsh at hu
  split at hu
  · cases hu; simpa only [RT] using h
  · cases hu; simpa only [RT] using h
  · cases hu; simpa only [RT] using h
  · cases e : allD ‹List T› with
    | false => rw [e] at hu; cases hu
    | true =>
      rw [e] at hu
      cases hu
      simp only [RT] at *
      obtain ⟨vs, rfl, h⟩ := h
      exact ⟨vs, rfl, h.allD e⟩
  · cases hu; simpa only [RT] using h
  · cases hu
    simp only [RT] at *
    exact h
  · cases hu
    simp only [RT] at *
    obtain ⟨b, h, rfl⟩ := h
    refine ⟨b, ?_, rfl⟩
    rw [← h]
    show κ' ⟨_, _, _, _⟩ = _
    congr 2
  · cases hu

/-- A call whose arguments hold no address: it touches nothing of the caller's. -/
theorem call_data {f : FuncId} {vs ws : List T} {us : List Value} {res : Res} (hr : Rel w0 n I κ st tm w) (hC : CallOK P w0 f ws [] res) (hs : shs 1 vs = some ws) (hd : allD ws = true) (hus : RTs I κ w 0 vs us) :
    Calls P f ⟨us⟩ w (fun e w' => match res, e with
      | .ret v _, .returned x => ∀ u, unsh v = some u → ∃ I' bo, Gr I w I' w' ∧ RT I' κ w' 0 bo u x ∧ ∀ b, bo = some b → w.heap.size ≤ b ∧ b < w'.heap.size
      | .pan d _, .panicked chain => ∃ I' v, Gr I w I' w' ∧ chain = [{ v, recovered := false }] ∧ RD I' d v
      | _, _ => False) := by
  have h1 : RTs I κ.push w 0 ws us := shs_sound (fun _ _ => rfl) hus hs
  have h0 : Rel w0 0 I (fun _ => none) ⟨[], [], []⟩ #[] w :=
    ⟨hr.below, hr.sat, rfl, (fun t x hx => by simp [aget] at hx), (fun f t cells hc => by rw [obAt_nil] at hc; cases hc), (fun _ _ _ h => by cases h), (fun _ _ h => by cases h)⟩
  have grow : ∀ {I' : Fz} {κ' : Km} {w' : World} {ou : List Ob}, Rel w0 0 I' κ' ⟨[], [], ou⟩ #[] w' → Ext I (fun _ => none) w I' κ' w' → Gr I w I' w' := by
    intro I' κ' w' ou hr' he
    have keep : ∀ b, b < w.heap.size → w'.heap[b]? = w.heap[b]? ∧ I' b = I b := fun b hb => he.keep b hb (fun k hk => by cases hk)
    exact ⟨⟨hr'.below.os.trans hr.below.os.symm, hr'.below.tape.trans hr.below.tape.symm, hr'.below.output.trans hr.below.output.symm, he.size, fun b hb => (keep b hb).1⟩, fun b hb => (keep b hb).2, hr'.sat⟩
  refine (hC.go I (fun _ => none) w us h0 (fun k b h => by cases h) (h1.allD hd)).mono fun e w' h => ?_
  obtain ⟨I', κ', h, he⟩ := h
  cases res with
  | ret v ou =>
    cases e with
    | returned x =>
      obtain ⟨hr', hx⟩ := h
      intro u hu
      replace hx := hx u hu
      refine ⟨I', κ' resKey, grow hr' he, ?_, fun b hb => ⟨?_, (hr'.own _ _ hb).2⟩⟩
      · unfold unsh at hu
        split at hu
        · cases hu; simpa only [RT] using hx
        · cases hu; simpa only [RT] using hx
        · cases hu; simpa only [RT] using hx
        · cases e : allD ‹List T› with
          | false => rw [e] at hu; cases hu
          | true =>
            rw [e] at hu
            cases hu
            simp only [RT] at *
            obtain ⟨vs, rfl, h⟩ := hx
            exact ⟨vs, rfl, h.allD e⟩
        · cases hu; simpa only [RT] using hx
        · simp only [RT] at hx
          obtain ⟨b, hb, _⟩ := hx
          rw [he.keys _ (by simp) (by simp)] at hb
          cases hb
        · simp only [RT] at hx
          obtain ⟨b, hb, _⟩ := hx
          rw [he.keys _ (by simp) (by simp)] at hb
          cases hb
        · cases hu
      · rcases Nat.lt_or_ge b w.heap.size with hlt | hge
        · rcases he.old _ _ hb hlt with h | h
          · cases h
          · exact absurd (fun k hk => by cases hk) h
        · exact hge
    | _ => exact h.elim
  | pan d ou =>
    cases e with
    | panicked chain =>
      obtain ⟨hr', v, hv, hx⟩ := h
      exact ⟨I', v, grow hr' he, hv, hx⟩
    | _ => exact h.elim

/-- Any other call. -/
theorem call_full {f : FuncId} {vs ws : List T} {us : List Value} {res : Res} (hr : Rel w0 n I κ st tm w) (hC : CallOK P w0 f ws (st.ob :: st.ou) res) (hs : shs 1 vs = some ws) (hus : RTs I κ w 0 vs us) {dst : Option Nat} (hd : ∀ d, dst = some d → d < n) :
    Calls P f ⟨us⟩ w (fun e w' => match res, e with
      | .ret v (ob :: ou), .returned x => ∀ u, unsh v = some u → ∃ I' κ', Rel w0 n I' κ' (St.put { st with ob, ou } dst u) (putA tm dst x) w' ∧ Ext I κ w I' κ' w'
      | .pan d (ob :: ou), .panicked chain => ∃ I' κ' v, Rel w0 n I' κ' { st with ob, ou } tm w' ∧ Ext I κ w I' κ' w' ∧ chain = [{ v, recovered := false }] ∧ RD I' d v
      | .ret _ [], .returned _ | .pan _ [], .panicked _ => True
      | _, _ => False) := by
  refine (hC.go I κ.push w us hr.push (fun k b h => by
    unfold Km.push at h
    split at h
    · cases h
    · omega) (shs_sound (fun _ _ => rfl) hus hs)).mono fun e w' h => ?_
  obtain ⟨I', κ', h, he⟩ := h
  cases res with
  | ret v ou' =>
    cases e with
    | returned x =>
      cases ou' with
      | nil => trivial
      | cons ob ou =>
        obtain ⟨hr', hx⟩ := h
        intro u hu
        replace hx := hx u hu
        obtain ⟨hb, heb⟩ := hr.back hr' he
        have hx' := unsh_sound hu hx
        cases dst with
        | none => exact ⟨I', κ'.pop, hb, heb⟩
        | some d =>
          refine ⟨I', _, hb.set (hd d rfl) hx' (fun b e => ⟨hr'.own _ _ e, fun k hk => ?_⟩), heb.le, heb.size, fun k h1 h2 => ?_, heb.keep, fun q b hq hlt => ?_⟩
          · have := hr'.inj _ _ _ hk e
            simp [resKey] at this
          · rw [Km.set_ne _ _ (by rintro rfl; simp at h1)]
            exact heb.keys k h1 h2
          · unfold Km.set at hq
            split at hq
            · rcases he.old _ _ hq hlt with h | h
              · cases h
              · exact .inr fun hp => h (push_prot hp)
            · exact heb.old q b hq hlt
    | _ => exact h.elim
  | pan d ou' =>
    cases e with
    | panicked chain =>
      cases ou' with
      | nil => trivial
      | cons ob ou =>
        obtain ⟨hr', v, hv, hx⟩ := h
        obtain ⟨hb, heb⟩ := hr.back hr' he
        exact ⟨I', κ'.pop, v, hb, heb, hv, hx⟩
    | _ => exact h.elim

end
end Go.Eng
namespace Go.Eng
open Go.RowKit

/-- A call. -/
def matchC (io : IOp) (op : Op) : Bool := match io with
  | .call f l | .callP f l => match op with
    | .call ⟨.value a, args, _⟩ => matchO a (.f f) && matchOs args.toList l
    | _ => false
  | .callv x l => match op with
    | .call ⟨.value a, args, _⟩ => matchO a x && matchOs args.toList l
    | _ => false
  | _ => false

def dstP (n : Nat) : Option Nat → Option Nat → Bool
  | none, none => true
  | some d, some e => Nat.beq d e && Nat.blt d n
  | _, _ => false

def guardP (ops : Array Oper) : Option (Nat × Bool) → Option (Nat × Bool) → Bool
  | none, none => true
  | some (j, a), some (t, b) => (a == b) && (match ops[j]? with
    | some p => (match p.dst with
      | some d => Nat.beq d t
      | none => false)
    | none => false)
  | _, _ => false

def matchOp (P : Program) (n : Nat) (ops : Array Oper) (o : Oper) (io : IOper) : Bool :=
  dstP n o.dst io.dst && needs io.op io.dst && (matchV P io.op o.op || matchS P io.op o.op || matchC io.op o.op) && guardP ops o.guard io.g

def Cont {α : Type} (w0 : World) (n : Nat) (K : Act → World → Prop) (y : St → Option α) (r : α) (I : Fz) (κ : Km) (w : World) : Prop :=
  ∀ I' κ' st' tm' w', Rel w0 n I' κ' st' tm' w' → Ext I κ w I' κ' w' → y st' = some r → K ⟨tm', []⟩ w'

def ContZ {α : Type} (w0 : World) (n : Nat) (Q : Exit → Act → World → Prop) (z : D → St → Option α) (r : α) (I : Fz) (κ : Km) (w : World) : Prop :=
  ∀ I' κ' st' tm' w' d v, Rel w0 n I' κ' st' tm' w' → Ext I κ w I' κ' w' → RD I' d v → z d st' = some r → Q (.panic [{ v, recovered := false }]) ⟨tm', []⟩ w'

section
variable {P : Program} {w0 : World} {n : Nat} {I : Fz} {κ : Km} {st : St} {tm : Array Value} {w : World} {α : Type} {r : α}

theorem Cont.from {K : Act → World → Prop} {y : St → Option α} {I' : Fz} {κ' : Km} {w' : World} (h : Cont w0 n K y r I κ w) (e : Ext I κ w I' κ' w') : Cont w0 n K y r I' κ' w' :=
  fun _ _ _ _ _ hr he hy => h _ _ _ _ _ hr (e.trans he) hy

theorem ContZ.from {Q : Exit → Act → World → Prop} {z : D → St → Option α} {I' : Fz} {κ' : Km} {w' : World} (h : ContZ w0 n Q z r I κ w) (e : Ext I κ w I' κ' w') : ContZ w0 n Q z r I' κ' w' :=
  fun _ _ _ _ _ _ _ hr he hd hz => h _ _ _ _ _ _ _ hr (e.trans he) hd hz

theorem put_act (dst : Option Nat) (v : Value) : (⟨tm, []⟩ : Act).put dst v = ⟨putA tm dst v, []⟩ := by cases dst <;> rfl

theorem StepR.wp {o : Oper} {y : St → Option α} {K : Act → World → Prop} {Q : Exit → Act → World → Prop} (h : StepR P w0 n o y r I κ tm w) (hK : Cont w0 n K y r I κ w) : o.wp P ⟨tm, []⟩ w K Q := by
  obtain ⟨nx, v, w', I', κ', st', h1, h2, h3, h4, h5⟩ := h
  unfold Oper.wp
  rw [h1]
  cases nx with
  | value u =>
    simp only [nextV, Option.some.injEq] at h2
    subst h2
    rw [Oper.upon_value, put_act]
    exact hK _ _ _ _ _ h3 h4 h5
  | skip =>
    simp only [nextV, Option.some.injEq] at h2
    subst h2
    rw [Oper.upon_skip, put_act]
    exact hK _ _ _ _ _ h3 h4 h5
  | _ => simp [nextV] at h2

theorem run_enter {f : FuncId} (hf : Callable P f) {o : Oper} {a : Operand} {args : Array Operand} {ats : Array TypeId} (ho : o.op = .call { callee := .value a, args := args, argTypes := ats }) {ρ : Operand → Value} {caps : Array Value}
    (ha : ρ a = .func (.func f) #[] caps) : (execOp ρ o).run P w = .ok (.enter f (args.map ρ ++ caps)) w := by
  obtain ⟨fn, c, h1, h2, h3⟩ := hf
  have h4 : ¬ fn.name = "runtime.NumGoroutine" := by simpa using h2
  unfold execOp
  rw [ho]
  simp only [resolve, Deferred.ofValue, ha, invoke, Sem.run_bind, Sem.run_pure, Result.andThen_ok, callFunc, run_program, h1, h2, h3, Option.isNone_some, Bool.false_eq_true, if_false, Array.empty_append]

theorem args_list {args : Array Operand} {ρ : Operand → Value} : args.map ρ ++ (⟨[]⟩ : Array Value) = ⟨args.toList.map ρ⟩ := by
  apply Array.ext'
  simp

theorem RTs.app {f : Nat} : ∀ {l m : List T} {us vs : List Value}, RTs I κ w f l us → RTs I κ w f m vs → RTs I κ w f (l ++ m) (us ++ vs)
  | [], m, us, vs, h, k => by simp only [RTs] at h; subst h; exact k
  | x :: l, m, us, vs, h, k => by
    simp only [RTs] at h
    obtain ⟨v, ws, rfl, h1, h2⟩ := h
    simp only [List.cons_append, RTs]
    exact ⟨v, ws ++ vs, rfl, h1, RTs.app h2 k⟩

/-- Calls through St.call. -/
theorem call_wp {C : CallF} (hC : ∀ f ws ou res, C f ws ou = some res → CallOK P w0 f ws ou res) (hr : Rel w0 n I κ st tm w) {o : Oper} (hd : ∀ d, o.dst = some d → d < n) {f : FuncId} {vs : List T} {us : List Value} (hus : RTs I κ w 0 vs us)
    {y : St → Option α} {z : D → St → Option α} (h : st.call C f vs (fun v st' => y (st'.put o.dst v)) z = some r) (hrun : Callable P f → (execOp (⟨tm, []⟩ : Act).eval o).run P w = .ok (.enter f ⟨us⟩) w)
    {K : Act → World → Prop} {Q : Exit → Act → World → Prop} (hK : Cont w0 n K y r I κ w) (hZ : ContZ w0 n Q z r I κ w) : o.wp P ⟨tm, []⟩ w K Q := by
  unfold St.call at h
  split at h
  · cases h
  · rename_i ws hs
    cases ea : allD ws with
    | true =>
      rw [ea] at h
      simp only [cond_true] at h
      obtain ⟨res, hres, h⟩ := Option.bind_eq_some_iff.1 h
      have ok := hC _ _ _ _ hres
      unfold Oper.wp
      rw [hrun ok.callable, Oper.upon_enter]
      refine (call_data hr ok hs ea hus).mono fun e w' he => ?_
      cases res with
      | ret v ou =>
        cases e with
        | returned x =>
          simp only at h
          split at h
          · rename_i u hu
            obtain ⟨I', bo, g, hx, hb⟩ := he u hu
            obtain ⟨κ', k1, k2⟩ := hr.put g hd hx hb
            show K _ _
            rw [put_act]
            exact hK _ _ _ _ _ k1 k2 h
          · cases h
        | _ => exact he.elim
      | pan d ou =>
        cases e with
        | panicked chain =>
          obtain ⟨I', v, g, rfl, hx⟩ := he
          exact hZ _ _ _ _ _ _ _ (hr.grow g) (g.ext hr.sat) hx h
        | _ => exact he.elim
    | false =>
      rw [ea] at h
      simp only [cond_false] at h
      obtain ⟨res, hres, h⟩ := Option.bind_eq_some_iff.1 h
      have ok := hC _ _ _ _ hres
      unfold Oper.wp
      rw [hrun ok.callable, Oper.upon_enter]
      refine (call_full hr ok hs hus hd).mono fun e w' he => ?_
      cases res with
      | ret v ou' =>
        cases ou' with
        | nil => simp at h
        | cons ob ou =>
          cases e with
          | returned x =>
            simp only at h
            split at h
            · rename_i u hu
              obtain ⟨I', κ', k1, k2⟩ := he u hu
              show K _ _
              rw [put_act]
              exact hK _ _ _ _ _ k1 k2 h
            · cases h
          | _ => exact he.elim
      | pan d ou' =>
        cases ou' with
        | nil => simp at h
        | cons ob ou =>
          cases e with
          | panicked chain =>
            obtain ⟨I', κ', v, k1, k2, rfl, hx⟩ := he
            exact hZ _ _ _ _ _ _ _ k1 k2 hx h
          | _ => exact he.elim

theorem o_sound {C : CallF} (hC : ∀ f ws ou res, C f ws ou = some res → CallOK P w0 f ws ou res) (hr : Rel w0 n I κ st tm w) {ops : Array Oper} {o : Oper} {io : IOper} (hm : matchOp P n ops o io = true)
    {y : St → Option α} {z : D → St → Option α} (h : step C io st y z = some r)
    {K : Act → World → Prop} {Q : Exit → Act → World → Prop} (hK : Cont w0 n K y r I κ w) (hZ : ContZ w0 n Q z r I κ w) : o.wp P ⟨tm, []⟩ w K Q := by
  simp only [matchOp, Bool.and_eq_true, Bool.or_eq_true] at hm
  obtain ⟨⟨⟨m1, m2⟩, m3⟩, _⟩ := hm
  have hd : o.dst = io.dst ∧ ∀ d, o.dst = some d → d < n := by
    unfold dstP at m1
    split at m1
    · rename_i e1 e2
      exact ⟨by rw [e1, e2], fun d e => by rw [e1] at e; cases e⟩
    · rename_i d e e1 e2
      simp only [Bool.and_eq_true] at m1
      have := nbeq_eq m1.1
      subst this
      exact ⟨by rw [e1, e2], fun d' e' => by rw [e1] at e'; cases e'; exact nblt_iff.1 m1.2⟩
    · cases m1
  obtain ⟨hdd, hd⟩ := hd
  obtain ⟨idst, iop, ig⟩ := io
  simp only at hdd m2 m3
  subst hdd
  rcases m3 with m3 | m3
  · exact (s_sound hr hd m3 m2 h).wp hK
  · cases iop with
    | call f l =>
      simp only [matchC] at m3
      split at m3
      · rename_i a args ats e
        simp only [Bool.and_eq_true] at m3
        simp only [step] at h
        split at h
        · rename_i vs hv
          have hus := hr.opds m3.2 hv
          have ha := hr.opd m3.1 (v := .fn f []) rfl
          simp only [RT] at ha
          obtain ⟨caps, ha, hcaps⟩ := ha
          simp only [RTs] at hcaps
          subst hcaps
          refine call_wp hC hr hd hus h (fun hc => ?_) hK hZ
          rw [run_enter hc e ha, args_list]
        · cases h
      · cases m3
    | callP f l =>
      simp only [matchC] at m3
      split at m3
      · rename_i a args ats e
        simp only [Bool.and_eq_true] at m3
        simp only [step] at h
        split at h
        · rename_i vs hv
          split at h
          · rename_i ws hs
            obtain ⟨ea, h⟩ := cond_some h
            obtain ⟨res, hres, h⟩ := Option.bind_eq_some_iff.1 h
            have ok := hC _ _ _ _ hres
            have hus := hr.opds m3.2 hv
            have ha := hr.opd m3.1 (v := .fn f []) rfl
            simp only [RT] at ha
            obtain ⟨caps, ha, hcaps⟩ := ha
            simp only [RTs] at hcaps
            subst hcaps
            unfold Oper.wp
            have hrun := run_enter (w := w) ok.callable e ha
            rw [args_list] at hrun
            rw [hrun, Oper.upon_enter]
            refine (call_data hr ok hs ea hus).mono fun e w' he => ?_
            cases res with
            | ret v ou =>
              cases e with
              | returned x =>
                simp only at h
                split at h
                · rename_i u hu
                  obtain ⟨I', bo, g, hx, hb⟩ := he u hu
                  obtain ⟨κ', k1, k2⟩ := hr.put g hd hx hb
                  show K _ _
                  rw [put_act]
                  exact hK _ _ _ _ _ k1 k2 h
                · cases h
              | _ => exact he.elim
            | pan d ou => simp at h
          · cases h
        · cases h
      · cases m3
    | callv x l =>
      simp only [matchC] at m3
      split at m3
      · rename_i a args ats e
        simp only [Bool.and_eq_true] at m3
        simp only [step] at h
        split at h
        · rename_i f caps vs hx hv
          have hus := hr.opds m3.2 hv
          have ha := hr.opd m3.1 hx
          simp only [RT] at ha
          obtain ⟨cs, ha, hcaps⟩ := ha
          refine call_wp hC hr hd (hus.app hcaps) h (fun hc => ?_) hK hZ
          rw [run_enter hc e ha]
          simp
        · cases h
      · cases m3
    | _ => simp [matchC] at m3

/-- With its guard. -/
theorem og_sound {C : CallF} (hC : ∀ f ws ou res, C f ws ou = some res → CallOK P w0 f ws ou res) (hr : Rel w0 n I κ st tm w) {ops : Array Oper} {o : Oper} {io : IOper} (hm : matchOp P n ops o io = true)
    {y : St → Option α} {z : D → St → Option α} (h : stepG C io st y z = some r)
    {K : Act → World → Prop} {Q : Exit → Act → World → Prop} (hK : Cont w0 n K y r I κ w) (hZ : ContZ w0 n Q z r I κ w) :
    (Region.wanted o (yielded ops tm) = true → o.wp P ⟨tm, []⟩ w K Q) ∧ (Region.wanted o (yielded ops tm) = false → K ((⟨tm, []⟩ : Act).put o.dst undef) w) := by
  have hm' := hm
  simp only [matchOp, Bool.and_eq_true, Bool.or_eq_true] at hm'
  obtain ⟨⟨⟨m1, m2⟩, m3⟩, m4⟩ := hm'
  have hd : o.dst = io.dst ∧ ∀ d, o.dst = some d → d < n := by
    unfold dstP at m1
    split at m1
    · rename_i e1 e2
      exact ⟨by rw [e1, e2], fun d e => by rw [e1] at e; cases e⟩
    · rename_i d e e1 e2
      simp only [Bool.and_eq_true] at m1
      have := nbeq_eq m1.1
      subst this
      exact ⟨by rw [e1, e2], fun d' e' => by rw [e1] at e'; cases e'; exact nblt_iff.1 m1.2⟩
    · cases m1
  obtain ⟨hdd, hd⟩ := hd
  have skip : ∀ st' : St, Rel w0 n I κ st' tm w → y (st'.put io.dst (.tup [])) = some r → K ((⟨tm, []⟩ : Act).put o.dst undef) w := by
    intro st' hr' hy
    obtain ⟨κ', k1, k2⟩ := hr'.put (Gr.refl hr.sat) hd (x := .tup []) (v := undef) (bo := none) (by simp only [RT, RTs]; exact ⟨[], rfl, rfl⟩) (fun b e => by cases e)
    rw [put_act]
    rw [hdd] at k1 ⊢
    exact hK _ _ _ _ _ k1 k2 hy
  unfold guardP at m4
  split at m4
  · rename_i e1 e2
    have hw : Region.wanted o (yielded ops tm) = true := by unfold Region.wanted; rw [e1]
    refine ⟨fun _ => ?_, fun h' => by rw [hw] at h'; cases h'⟩
    unfold stepG at h
    rw [e2] at h
    exact o_sound hC hr hm h hK hZ
  · rename_i j a t b e1 e2
    simp only [Bool.and_eq_true, beq_iff_eq] at m4
    obtain ⟨rfl, m5⟩ := m4
    split at m5
    · rename_i p hp
      split at m5
      · rename_i d hpd
        obtain rfl := nbeq_eq m5
        unfold stepG at h
        rw [e2] at h
        simp only at h
        have hy : ∀ v, tm[d]? = some v → yielded ops tm j = match v with
          | .bool b => some b
          | _ => none := by
          intro v hv
          unfold yielded
          rw [hp, Option.bind_some, hpd, Option.bind_some, hv]
          cases v <;> rfl
        have hwd : Region.wanted o (yielded ops tm) = (yielded ops tm j == some a) := by unfold Region.wanted; rw [e1]
        split at h
        · rename_i x hx
          obtain ⟨v, g1, g2⟩ := hr.tms _ _ hx
          simp only [RT, RD] at g2
          subst g2
          have hyj := hy _ g1
          simp only at hyj
          have hr' : Rel w0 n I κ { st with tm := aset d (.d (.b x)) st.tm } tm w := hr.sub (fun u z hz => by
            have hz' : aget (aset d (.d (.b x)) st.tm) u = some z := hz
            rw [aget_aset] at hz'
            split at hz'
            · rename_i e
              rw [e, hx]
              exact hz'
            · exact hz') (fun _ _ hc => hc) rfl
          have hxa : (x = a → step C io { st with tm := aset d (.d (.b x)) st.tm } y z = some r) ∧ (x ≠ a → y (St.put { st with tm := aset d (.d (.b x)) st.tm } io.dst (.tup [])) = some r) := by
            cases x <;> cases a <;> simp_all
          rw [hwd, hyj]
          refine ⟨fun hw => o_sound hC hr' hm (hxa.1 (by simpa using hw)) hK hZ, fun hw => skip _ hr' (hxa.2 (by simpa using hw))⟩
        · rename_i hx
          obtain ⟨v, g1, g2⟩ := hr.tms _ _ hx
          simp only [RT, RTs] at g2
          obtain ⟨vs, rfl, rfl⟩ := g2
          have hyj := hy _ g1
          simp only at hyj
          rw [hwd, hyj]
          exact ⟨fun hw => by simp at hw, fun _ => skip _ hr h⟩
        · cases h
      · cases m5
    · cases m5
  · cases m4

end
end Go.Eng
namespace Go.Eng
open Go.RowKit

def matchAll (P : Program) (n : Nat) (ops : Array Oper) : List Oper → List IOper → Bool
  | [], [] => true
  | o :: l, io :: r => matchOp P n ops o io && matchAll P n ops l r
  | _, _ => false

section
variable {P : Program} {w0 : World} {n : Nat} {I : Fz} {κ : Km} {st : St} {tm : Array Value} {w : World} {α : Type} {r : α}

theorem matchAll_len {ops : Array Oper} : ∀ {l : List Oper} {r : List IOper}, matchAll P n ops l r = true → l.length = r.length
  | [], [], _ => rfl
  | _ :: l, _ :: r, h => by
    simp only [matchAll, Bool.and_eq_true] at h
    simp [matchAll_len h.2]
  | [], _ :: _, h => by simp [matchAll] at h
  | _ :: _, [], h => by simp [matchAll] at h

theorem region_seq {C : CallF} (hC : ∀ f ws ou res, C f ws ou = some res → CallOK P w0 f ws ou res) {ops : Array Oper} {Q : Exit → Act → World → Prop} {y : St → Option α} {z : D → St → Option α} :
    ∀ {l : List Oper} {il : List IOper} {k : Nat} {I : Fz} {κ : Km} {st : St} {tm : Array Value} {w : World}, ops.toList.drop k = l → matchAll P n ops l il = true → Rel w0 n I κ st tm w → execOps C il st y z = some r →
      Cont w0 n (Q .normal) y r I κ w → ContZ w0 n Q z r I κ w → wpOps P ops Q (List.range' k l.length) ⟨tm, []⟩ w
  | [], il, k, I, κ, st, tm, w, hl, hm, hr, h, hK, hZ => by
    cases il with
    | cons _ _ => simp [matchAll] at hm
    | nil => exact hK _ _ _ _ _ hr (Ext.refl _ _ _) h
  | o :: l, il, k, I, κ, st, tm, w, hl, hm, hr, h, hK, hZ => by
    cases il with
    | nil => simp [matchAll] at hm
    | cons io il =>
      simp only [matchAll, Bool.and_eq_true] at hm
      have ho : ops[k]? = some o := by
        have : (ops.toList.drop k)[0]? = some o := by rw [hl]; rfl
        rw [List.getElem?_drop] at this
        simpa using this
      have hl' : ops.toList.drop (k + 1) = l := by
        rw [← List.drop_drop, hl]
        rfl
      have hrec : ∀ (I' : Fz) (κ' : Km) (st' : St) (tm' : Array Value) (w' : World), Rel w0 n I' κ' st' tm' w' → Ext I κ w I' κ' w' → execOps C il st' y z = some r → wpOps P ops Q (List.range' (k + 1) l.length) ⟨tm', []⟩ w' :=
        fun I' κ' st' tm' w' hr' he h' => region_seq hC hl' hm.2 hr' h' (hK.from he) (hZ.from he)
      have := og_sound hC hr hm.1 (K := wpOps P ops Q (List.range' (k + 1) l.length)) (Q := Q) (y := fun st' => execOps C il st' y z) h hrec hZ
      rw [List.length_cons, List.range'_succ]
      simp only [wpOps, ho]
      by_cases hw : Region.wanted o (yielded ops tm) = true
      · rw [if_pos hw]
        exact .inl (this.1 hw)
      · rw [if_neg hw]
        exact this.2 (by simpa using hw)

theorem reg_seq {C : CallF} (hC : ∀ f ws ou res, C f ws ou = some res → CallOK P w0 f ws ou res) {ops : Array Oper} {il : List IOper} {id : Nat} {Q : Exit → Act → World → Prop} {y : St → Option α} {z : D → St → Option α}
    (hm : matchAll P n ops ops.toList il = true) (hr : Rel w0 n I κ st tm w) (h : execOps C il st y z = some r) (hK : Cont w0 n (Q .normal) y r I κ w) (hZ : ContZ w0 n Q z r I κ w) :
    (Code.region id ops false).wp P Q ⟨tm, []⟩ w := by
  refine wp_region ?_
  have := region_seq hC (k := 0) (l := ops.toList) (by simp) hm hr h hK hZ
  rwa [Array.length_toList, ← List.range_eq_range'] at this

end
end Go.Eng
namespace Go.Eng
open Go.RowKit

section
variable {α : Type}

theorem binT_nat (op : BinOp) (x z : T) (y : T → Option α) : binT op x z y = (binT op x z some).bind y := by
  unfold binT
  split
  · split
    · split <;> rfl
    · split <;> rfl
    · split
      · unfold intOp
        split <;> first | rfl | (split <;> rfl)
      · rfl
  · unfold strOp
    split <;> first | rfl | (split <;> rfl)
  · rfl

theorem cutAt_nat {β : Type} (l : List β) (lo hi : Option T) (f : List β → T) (y : T → Option α) : (cutAt l lo hi fun m => y (f m)) = (cutAt l lo hi fun m => some (f m)).bind y := by
  unfold cutAt
  split <;> first | rfl | (split <;> rfl)

theorem pSlc_nat (sz : Nat) (x : T) (lo hi : Option T) (y : T → Option α) : pSlc sz x lo hi y = (pSlc sz x lo hi some).bind y := by
  unfold pSlc
  split
  · cases Nat.beq sz 0
    · rfl
    · exact cutAt_nat _ lo hi (fun l => .d (.s l)) y
  · rename_i sz' _
    cases (Nat.beq sz sz' && !Nat.beq sz 0)
    · rfl
    · exact cutAt_nat _ lo hi (fun l => .d (.sl sz l)) y
  · cases Nat.beq sz 1
    · rfl
    · exact cutAt_nat _ lo hi (fun l => .d (.bs l)) y
  · rfl

theorem opt_nat {β γ : Type} (x : Option β) (f : β → Option γ) (y : γ → Option α) : (opt x fun v => (f v).bind y) = (opt x f).bind y := by
  unfold opt
  split <;> rfl

theorem nth_nat {β : Type} (l : List β) (n : Int) (f : β → T) (y : T → Option α) : (nth l n fun v => y (f v)) = (nth l n fun v => some (f v)).bind y := by
  unfold nth
  split
  · unfold opt
    split <;> rfl
  · rfl

theorem pop_nat (o : IOp) (vs : List T) (y : T → Option α) : pop o vs y = (pop o vs some).bind y := by
  cases o with
  | mov x => simp only [pop, one]; split <;> rfl
  | nilO sz => rfl
  | nilB => rfl
  | faddr x off =>
    simp only [pop, one, pFaddr]; split
    · split <;> rfl
    · rfl
  | fld x off n agg =>
    simp only [pop, one, pFld, opt]; split
    · split
      · split <;> rfl
      · split <;> rfl
      · rfl
    · rfl
  | iaddr x i sz =>
    simp only [pop, two, pIaddr]; split
    · split
      · rename_i sz' _ _ _
        cases Nat.beq sz sz'
        · rfl
        · exact nth_nat _ _ (fun r => .ro r 0) y
      · cases Nat.beq sz 1
        · rfl
        · exact nth_nat _ _ (fun c : UInt8 => .ro [.i .u8 c.toNat] 0) y
      · rfl
    · rfl
  | idx x i =>
    simp only [pop, two, pIdx]; split
    · split
      · exact nth_nat _ _ (fun c : UInt8 => .d (.i .u8 c.toNat)) y
      · rfl
    · rfl
  | bin op x z =>
    simp only [pop, two]; split
    · exact binT_nat _ _ _ y
    · rfl
  | beqv neg x z =>
    simp only [pop, two, pBeqv]; split
    · split <;> rfl
    · rfl
  | ieq neg x =>
    simp only [pop, one, pIeq]; split
    · split <;> rfl
    · rfl
  | eqs neg ks x z =>
    simp only [pop, two, pEqs, opt, pIeqv]; split
    · rename_i a b
      split
      · rename_i t
        split
        · rename_i s k a s' k' b
          cases (Nat.beq s t && Nat.beq s' t && decide (k = k')) <;> rfl
        · rfl
      · rfl
      · cases (isAg a && isAg b)
        · rfl
        · simp only [cond_true]
          split
          · split
            · split <;> rfl
            · rfl
          · rfl
    · rfl
  | un op x =>
    simp only [pop, one, pUn]; split
    · split <;> rfl
    · rfl
  | conv c x =>
    simp only [pop, one, pConv]; split
    · split <;> rfl
    · rfl
  | mkif t x =>
    simp only [pop, one, opt]; split
    · split <;> rfl
    · rfl
  | mkfn f caps => rfl
  | build z parts => simp only [pop, opt]; split <;> rfl
  | bsl sz parts => simp only [pop, opt]; split <;> rfl
  | bslb parts => simp only [pop, opt]; split <;> rfl
  | ext x i =>
    simp only [pop, one, pExt, opt]; split
    · split
      · split <;> rfl
      · rfl
    · rfl
  | lenS x =>
    simp only [pop, one, pLenS]; split
    · split <;> rfl
    · rfl
  | lenL x =>
    simp only [pop, one, pLenL]; split
    · split <;> rfl
    · rfl
  | mx x z =>
    simp only [pop, two, pMx]; split
    · split <;> rfl
    · rfl
  | mn x z =>
    simp only [pop, two, pMn]; split
    · split <;> rfl
    · rfl
  | slc sz x lo hi =>
    cases lo <;> cases hi
    · simp only [pop, one]; split
      · split
        · cases Nat.beq sz 0 <;> rfl
        · rename_i sz' _
          cases (Nat.beq sz sz' && !Nat.beq sz 0) <;> rfl
        · cases Nat.beq sz 1 <;> rfl
        · rfl
      · rfl
    · simp only [pop, two]; split
      · exact pSlc_nat _ _ _ _ y
      · rfl
    · simp only [pop, two]; split
      · exact pSlc_nat _ _ _ _ y
      · rfl
    · simp only [pop]; split
      · exact pSlc_nat _ _ _ _ y
      · rfl
  | _ => rfl

end

/-- One operation, alone. -/
def stp (C : CallF) (io : IOper) (st : St) : Option St := stepG C io st some fun _ _ => none

def St.eqv (st st' : St) : Prop := (∀ t, aget st.tm t = aget st'.tm t) ∧ st.ob = st'.ob ∧ st.ou = st'.ou

def Opd.slot : Opd → List Nat
  | .t n => [n]
  | _ => []

def IOp.reads : IOp → List Nat
  | .movO t => [t]
  | .pick c a b => c.slot ++ a.slot ++ b.slot
  | .load a _ _ => a.slot
  | .app _ s x _ => s.slot ++ x.slot
  | .callP _ l => l.flatMap Opd.slot
  | io => io.args.flatMap Opd.slot

def IOper.reads (io : IOper) : List Nat := match io.g with
  | none => io.op.reads
  | some (t, _) => t :: io.op.reads

def IOper.writes (io : IOper) : List Nat := (match io.dst with
  | some d => [d]
  | none => []) ++ (match io.op with
  | .movO t => [t]
  | .app _ (.t t) _ _ => [t]
  | _ => [])

/-- May stand in a region of open order. -/
def IOp.open : IOp → Bool
  | .movO _ | .pick .. | .load .. | .app .. | .callP .. => true
  | io => io.pure

def agree (st st' : St) (l : List Nat) : Prop := (∀ t ∈ l, aget st.tm t = aget st'.tm t) ∧ st.ob = st'.ob ∧ st.ou = st'.ou

/-- What an operation does, wherever it reads the same. -/
def Eff (C : CallF) (io : IOper) (st : St) (e : Nat → Option T) : Prop :=
  ∀ st', agree st st' io.reads → ∃ st'', stp C io st' = some st'' ∧ st''.ob = st'.ob ∧ st''.ou = st'.ou ∧ ∀ t, aget st''.tm t = if t ∈ io.writes then e t else aget st'.tm t

theorem agree.opd {st st' : St} {l : List Nat} (h : agree st st' l) {x : Opd} (hx : ∀ t ∈ x.slot, t ∈ l) : st'.opd x = st.opd x := by
  cases x with
  | t n => simp only [St.opd]; rw [h.1 n (hx n (by simp [Opd.slot]))]
  | k _ => rfl
  | f _ => rfl

theorem agree.opds {st st' : St} {l : List Nat} (h : agree st st' l) : ∀ {xs : List Opd}, (∀ t ∈ xs.flatMap Opd.slot, t ∈ l) → st'.opds xs = st.opds xs
  | [], _ => rfl
  | x :: r, hx => by
    simp only [List.flatMap_cons, List.mem_append] at hx
    simp only [St.opds]
    rw [h.opd (fun t ht => hx t (.inl ht)), h.opds (fun t ht => hx t (.inr ht))]

theorem agree.at {st st' : St} {l : List Nat} (h : agree st st' l) (p : T) : st'.at p = st.at p := by
  unfold St.at
  rw [h.2.1, h.2.2]

theorem aget_put (st : St) (d : Option Nat) (v : T) (t : Nat) : aget (st.put d v).tm t = if d = some t then some v else aget st.tm t := by
  cases d with
  | none => simp [St.put]
  | some d =>
    simp only [St.put, aget_aset, Option.some.injEq]
    by_cases h : t = d
    · rw [if_pos h, if_pos h.symm]
    · rw [if_neg h, if_neg (fun e => h e.symm)]

theorem put_ob (st : St) (d : Option Nat) (v : T) : (st.put d v).ob = st.ob ∧ (st.put d v).ou = st.ou := by cases d <;> exact ⟨rfl, rfl⟩

theorem writes_put {d : Option Nat} {op : IOp} {g : Option (Nat × Bool)} (h : (match op with
  | .movO t => [t]
  | .app _ (.t t) _ _ => [t]
  | _ => []) = []) (t : Nat) : t ∈ (IOper.mk d op g).writes ↔ d = some t := by
  unfold IOper.writes
  simp only [h, List.append_nil]
  cases d with
  | none => simp
  | some d =>
    simp only [List.mem_singleton, Option.some.injEq]
    exact eq_comm

/-- Whoever only puts. -/
theorem eff_put {C : CallF} {d : Option Nat} {op : IOp} {st : St} {v : T} (hw : (match op with
  | .movO t => [t]
  | .app _ (.t t) _ _ => [t]
  | _ => []) = []) (h : ∀ st', agree st st' op.reads → stp C ⟨d, op, none⟩ st' = some (st'.put d v)) : ∃ e, Eff C ⟨d, op, none⟩ st e := by
  refine ⟨fun _ => some v, fun st' ha => ⟨_, h st' ha, (put_ob _ _ _).1, (put_ob _ _ _).2, fun t => ?_⟩⟩
  rw [aget_put]
  simp only [writes_put hw]

theorem eff_none {C : CallF} {d : Option Nat} {op : IOp} {st st1 : St} (ho : op.open = true) (h : stp C ⟨d, op, none⟩ st = some st1) : ∃ e, Eff C ⟨d, op, none⟩ st e := by
  have hst : ∀ st' : St, stp C ⟨d, op, none⟩ st' = step C ⟨d, op, none⟩ st' some (fun _ _ => none) := fun _ => rfl
  rw [hst] at h
  cases hp : op.pure with
  | true =>
    rw [step_pure hp] at h
    split at h
    · rename_i vs hv
      rw [pop_nat] at h
      obtain ⟨v, h1, h2⟩ := Option.bind_eq_some_iff.1 h
      have hrd : op.reads = op.args.flatMap Opd.slot := by cases op <;> first | rfl | cases hp
      refine eff_put (v := v) (by cases op <;> first | rfl | cases hp) fun st' ha => ?_
      rw [hst, step_pure hp, ha.opds (xs := op.args) (by rw [hrd]; exact fun t ht => ht), hv]
      show pop op vs _ = _
      rw [pop_nat, h1]
      rfl
    · cases h
  | false =>
    cases op with
    | movO t =>
      simp only [step] at h
      split at h
      · rename_i v d' hv
        cases e1 : Nat.beq t d' with
        | true => rw [e1] at h; cases h
        | false =>
          refine ⟨fun u => if u = d' then some (laid v) else some (cp v), fun st' ha => ?_⟩
          have hv' : aget st'.tm t = some v := by rw [← ha.1 t (by simp [IOper.reads, IOp.reads])]; exact hv
          refine ⟨{ st' with tm := aset d' (laid v) (aset t (cp v) st'.tm) }, ?_, rfl, rfl, fun u => ?_⟩
          · rw [hst]
            simp only [step, hv', e1, cond_false]
          · simp only [aget_aset, IOper.writes, List.mem_append, List.mem_singleton]
            by_cases h1 : u = d' <;> by_cases h2 : u = t <;> simp [h1, h2]
      · cases h
    | pick c a b =>
      simp only [step] at h
      split at h
      · rename_i x hc
        cases x with
        | true =>
          simp only [cond_true] at h
          split at h
          · rename_i v hv
            refine eff_put (v := v) rfl fun st' ha => ?_
            rw [hst]
            simp only [step]
            rw [ha.opd (x := c) (by intro t ht; simp [IOp.reads, ht]), hc]
            simp only [cond_true]
            rw [ha.opd (x := a) (by intro t ht; simp [IOp.reads, ht]), hv]
          · cases h
        | false =>
          simp only [cond_false] at h
          split at h
          · rename_i v hv
            refine eff_put (v := v) rfl fun st' ha => ?_
            rw [hst]
            simp only [step]
            rw [ha.opd (x := c) (by intro t ht; simp [IOp.reads, ht]), hc]
            simp only [cond_false]
            rw [ha.opd (x := b) (by intro t ht; simp [IOp.reads, ht]), hv]
          · cases h
      · cases h
    | load a m agg =>
      simp only [step] at h
      split at h
      · rename_i p hp
        split at h
        · rename_i cells hc
          split at h
          · rename_i v hv
            refine eff_put (v := v) rfl fun st' ha => ?_
            rw [hst]
            simp only [step]
            rw [ha.opd (x := a) (by intro t ht; simpa [IOp.reads] using ht), hp]
            simp only
            rw [ha.at p, hc]
            simp only
            rw [hv]
          · cases h
        · cases h
      · cases h
    | callP f l =>
      simp only [step] at h
      split at h
      · rename_i vs hv
        split at h
        · rename_i ws hs
          obtain ⟨ea, h⟩ := cond_some h
          obtain ⟨res, hres, h⟩ := Option.bind_eq_some_iff.1 h
          cases res with
          | pan _ _ => cases h
          | ret v ou =>
            simp only at h
            split at h
            · rename_i u hu
              refine eff_put (v := u) rfl fun st' ha => ?_
              rw [hst]
              simp only [step]
              rw [ha.opds (xs := l) (by intro t ht; simpa [IOp.reads] using ht), hv]
              simp only
              rw [hs]
              simp only [ea, cond_true, hres, Option.bind_some]
              rw [hu]
            · cases h
        · cases h
      · cases h
    | app sz s x lim =>
      simp only [step] at h
      split at h
      · rename_i v hv
        cases s with
        | f _ => cases h
        | k c =>
          cases c with
          | nl sz' =>
            dsimp only at h
            split at h
            · rename_i sz'' m
              obtain ⟨h1, h'⟩ := cond_some h
              obtain ⟨hl, h''⟩ := ite_some h'
              refine eff_put (v := .own sz' m) rfl fun st' ha => ?_
              rw [hst]
              simp only [step]
              rw [ha.opd (x := x) (by intro t ht; simp [IOp.reads, ht]), hv]
              simp only [h1, cond_true, if_pos hl]
            · cases h
          | nlb =>
            dsimp only at h
            split at h
            · rename_i m
              obtain ⟨h1, h'⟩ := cond_some h
              obtain ⟨hl, h''⟩ := ite_some h'
              refine eff_put (v := .ownb m) rfl fun st' ha => ?_
              rw [hst]
              simp only [step]
              rw [ha.opd (x := x) (by intro t ht; simp [IOp.reads, ht]), hv]
              simp only [h1, cond_true, if_pos hl]
            · rename_i m
              obtain ⟨h1, h'⟩ := cond_some h
              obtain ⟨hl, h''⟩ := ite_some h'
              refine eff_put (v := .ownb m) rfl fun st' ha => ?_
              rw [hst]
              simp only [step]
              rw [ha.opd (x := x) (by intro t ht; simp [IOp.reads, ht]), hv]
              simp only [h1, cond_true, if_pos hl]
            · cases h
          | _ => cases h
        | t t =>
          dsimp only at h
          split at h
          · rename_i sz' l d' hs
            split at h
            · rename_i sz'' m
              obtain ⟨h1, h'⟩ := cond_some h
              obtain ⟨hl, h''⟩ := ite_some h'
              refine ⟨fun u => if u = d' then some (.own sz' (l ++ m)) else some (.d (.sl sz' l)), fun st' ha => ?_⟩
              have hs' : aget st'.tm t = some (.own sz' l) := by rw [← ha.1 t (by simp [IOper.reads, IOp.reads, Opd.slot])]; exact hs
              refine ⟨{ st' with tm := aset d' (.own sz' (l ++ m)) (aset t (.d (.sl sz' l)) st'.tm) }, ?_, rfl, rfl, fun u => ?_⟩
              · rw [hst]
                simp only [step]
                rw [ha.opd (x := x) (by intro t ht; simp [IOper.reads, IOp.reads, ht]), hv]
                simp only [hs', h1, cond_true, if_pos hl]
              · simp only [aget_aset, IOper.writes, List.mem_append, List.mem_singleton]
                by_cases h1 : u = d' <;> by_cases h2 : u = t <;> simp [h1, h2]
            · cases h
          · rename_i l d' hs
            split at h
            · rename_i m
              obtain ⟨h1, h'⟩ := cond_some h
              obtain ⟨hl, h''⟩ := ite_some h'
              refine ⟨fun u => if u = d' then some (.ownb (l ++ m)) else some (.d (.bs l)), fun st' ha => ?_⟩
              have hs' : aget st'.tm t = some (.ownb l) := by rw [← ha.1 t (by simp [IOper.reads, IOp.reads, Opd.slot])]; exact hs
              refine ⟨{ st' with tm := aset d' (.ownb (l ++ m)) (aset t (.d (.bs l)) st'.tm) }, ?_, rfl, rfl, fun u => ?_⟩
              · rw [hst]
                simp only [step]
                rw [ha.opd (x := x) (by intro t ht; simp [IOper.reads, IOp.reads, ht]), hv]
                simp only [hs', h1, cond_true, if_pos hl]
              · simp only [aget_aset, IOper.writes, List.mem_append, List.mem_singleton]
                by_cases h1 : u = d' <;> by_cases h2 : u = t <;> simp [h1, h2]
            · rename_i m
              obtain ⟨h1, h'⟩ := cond_some h
              obtain ⟨hl, h''⟩ := ite_some h'
              refine ⟨fun u => if u = d' then some (.ownb (l ++ m)) else some (.d (.bs l)), fun st' ha => ?_⟩
              have hs' : aget st'.tm t = some (.ownb l) := by rw [← ha.1 t (by simp [IOper.reads, IOp.reads, Opd.slot])]; exact hs
              refine ⟨{ st' with tm := aset d' (.ownb (l ++ m)) (aset t (.d (.bs l)) st'.tm) }, ?_, rfl, rfl, fun u => ?_⟩
              · rw [hst]
                simp only [step]
                rw [ha.opd (x := x) (by intro t ht; simp [IOper.reads, IOp.reads, ht]), hv]
                simp only [hs', h1, cond_true, if_pos hl]
              · simp only [aget_aset, IOper.writes, List.mem_append, List.mem_singleton]
                by_cases h1 : u = d' <;> by_cases h2 : u = t <;> simp [h1, h2]
            · cases h
          · cases h
      · cases h
    | _ => simp [IOp.open, hp] at ho

end Go.Eng
namespace Go.Eng
open Go.RowKit

def IOp.isCall : IOp → Bool
  | .call .. | .callP .. | .callv .. => true
  | _ => false

section
variable {α : Type} {r : α}

theorem cb (b : Bool) (c : Prop) [Decidable c] (s : St) (y : St → Option α) : (bif b then (if c then y s else none) else none) = (bif b then (if c then some s else none) else none).bind y := by
  cases b
  · rfl
  · simp only [cond_true]
    split <;> rfl

/-- An operation that calls nothing: first what it does, then what follows. -/
theorem step_nat {C C' : CallF} {o : IOper} (h : o.op.isCall = false) (st : St) (y : St → Option α) (z : D → St → Option α) : step C o st y z = (step C' o st some fun _ _ => none).bind y := by
  obtain ⟨d, op, g⟩ := o
  cases hp : op.pure with
  | true =>
    rw [step_pure hp, step_pure hp]
    split
    · rw [pop_nat, pop_nat (y := fun v => some (St.put st d v)), Option.bind_assoc]
      rfl
    · rfl
  | false =>
    cases op with
    | movO t =>
      simp only [step]; split
      · rename_i v e _
        cases Nat.beq t e <;> rfl
      · rfl
    | pick c a b =>
      simp only [step]; split
      · rename_i x _
        cases x
        · simp only [cond_false]; split <;> rfl
        · simp only [cond_true]; split <;> rfl
      · rfl
    | alloc c =>
      simp only [step]; split
      · rename_i e
        cases (tmFree e st.tm && obFree e st.ob) <;> rfl
      · rfl
    | box x n =>
      simp only [step]; split
      · rename_i e v _
        cases (tmFree e st.tm && obFree e st.ob && Nat.beq (cellsT v).length n && !speaks e v) <;> rfl
      · rfl
    | store a x n =>
      simp only [step]; split
      · rename_i p v _ _
        cases Nat.beq (cellsT v).length n
        · rfl
        · simp only [cond_true]; split <;> rfl
      · rfl
    | storeO a t =>
      simp only [step]; split
      · rename_i p v _ _
        cases still v
        · rfl
        · simp only [cond_true]; split <;> rfl
      · rfl
    | load a n agg =>
      simp only [step]; split
      · split
        · split <;> rfl
        · rfl
      · rfl
    | loadO a =>
      simp only [step]; split
      · split
        · split
          · rename_i v _
            cases still v <;> rfl
          · rfl
        · rfl
      · split
        · split
          · split
            · rename_i v _
              cases still v <;> rfl
            · rfl
          · rfl
        · rfl
      · rfl
    | app zs s x lim =>
      simp only [step]; split
      · rename_i v _
        cases s with
        | t t =>
          dsimp only
          split
          · split
            · exact cb _ _ _ _
            · rfl
          · split
            · exact cb _ _ _ _
            · exact cb _ _ _ _
            · rfl
          · rfl
        | k c =>
          cases c with
          | nl sz =>
            dsimp only
            split
            · exact cb _ _ _ _
            · rfl
          | nlb =>
            dsimp only
            split
            · exact cb _ _ _ _
            · exact cb _ _ _ _
            · rfl
          | _ => rfl
        | f _ => rfl
      · rfl
    | call _ _ => cases h
    | callP _ _ => cases h
    | callv _ _ => cases h
    | _ => cases hp

theorem call_natz {C : CallF} (st : St) (f : FuncId) (vs : List T) (y : T → St → Option α) (g : St → Option α) (p : T → St → St) (hy : y = fun v s => g (p v s)) :
    st.call C f vs y (fun _ _ => none) = (st.call C f vs (fun v s => some (p v s)) (fun _ _ => none)).bind g := by
  subst hy
  unfold St.call
  split
  · rfl
  · rename_i ws _
    cases allD ws with
    | true =>
      simp only [cond_true]
      cases C f ws [] with
      | none => rfl
      | some res =>
        simp only [Option.bind_some]
        cases res with
        | ret v ou =>
          simp only
          cases unsh v <;> rfl
        | pan d ou => rfl
    | false =>
      simp only [cond_false]
      cases C f ws (st.ob :: st.ou) with
      | none => rfl
      | some res =>
        simp only [Option.bind_some]
        cases res with
        | ret v ou =>
          cases ou with
          | nil => rfl
          | cons ob ou =>
            simp only
            cases unsh v <;> rfl
        | pan d ou =>
          cases ou <;> rfl

theorem step_natz {C : CallF} (o : IOper) (st : St) (y : St → Option α) : step C o st y (fun _ _ => none) = (step C o st some fun _ _ => none).bind y := by
  cases h : o.op.isCall with
  | false => exact step_nat h st y _
  | true =>
    obtain ⟨d, op, g⟩ := o
    cases op with
    | call f l =>
      simp only [step]
      split
      · exact call_natz st f _ _ y (fun v s => s.put d v) rfl
      · rfl
    | callv x l =>
      simp only [step]
      split
      · exact call_natz st _ _ _ y (fun v s => s.put d v) rfl
      · rfl
    | callP f l =>
      simp only [step]
      split
      · split
        · rename_i ws _
          cases allD ws with
          | true =>
            simp only [cond_true]
            cases C f ws [] with
            | none => rfl
            | some res =>
              simp only [Option.bind_some]
              cases res with
              | ret v ou =>
                simp only
                cases unsh v <;> rfl
              | pan d ou => rfl
          | false => rfl
        · rfl
      · rfl
    | _ => cases h

theorem stepG_natz {C : CallF} (o : IOper) (st : St) (y : St → Option α) : stepG C o st y (fun _ _ => none) = (stepG C o st some fun _ _ => none).bind y := by
  unfold stepG
  split
  · exact step_natz o st y
  · rename_i t want hg
    split
    · rename_i x hx
      cases x <;> cases want <;> simp only [cond_true, cond_false] <;> first | exact step_natz o _ y | rfl
    · rfl
    · rfl

/-- A region of open order, in the text's order. -/
theorem opsD {C : CallF} : ∀ {il : List IOper} {st : St} {y : St → Option α}, execOps C il st y (fun _ _ => none) = (execD C il st).bind y
  | [], _, _ => rfl
  | o :: il, st, y => by
    rw [execOps, execD, stepG_natz, Option.bind_assoc]
    congr 1
    funext st'
    exact opsD

end
end Go.Eng
namespace Go.Eng
open Go.RowKit

theorem has_iff {l : List Nat} {n : Nat} : has l n = true ↔ n ∈ l := by
  induction l with
  | nil => simp [has]
  | cons k l ih =>
    simp only [has, List.mem_cons]
    by_cases h : n = k
    · subst h; simp
    · rw [nbeq_ne (fun e => h e.symm)]
      simp [ih, h]

theorem writes_sub {io : IOper} {t : Nat} (h : t ∈ io.writes) : io.dst = some t ∨ t ∈ io.op.reads := by
  obtain ⟨d, op, g⟩ := io
  unfold IOper.writes at h
  rw [List.mem_append] at h
  rcases h with h | h
  · cases d with
    | none => simp at h
    | some d => left; simp at h; rw [h]
  · right
    cases op <;> simp only [List.not_mem_nil] at h
    · simpa [IOp.reads] using h
    · rename_i sz s x lim
      cases s <;> simp [IOp.reads, Opd.slot] at h ⊢
      exact .inl h

theorem eff_g {C : CallF} {io : IOper} {st st1 : St} (ho : io.op.open = true) (h : stp C io st = some st1) : ∃ e, Eff C io st e := by
  obtain ⟨d, op, g⟩ := io
  cases g with
  | none => exact eff_none ho h
  | some g =>
    obtain ⟨t, want⟩ := g
    have same : ∀ (st : St) (b : Bool), aget st.tm t = some (.d (.b b)) → ∀ u, aget (aset t (.d (.b b)) st.tm) u = aget st.tm u := by
      intro st b hb u
      rw [aget_aset]
      split
      · rename_i e; rw [e, hb]
      · rfl
    have w0 : (IOper.mk d op (some (t, want))).writes = (IOper.mk d op none).writes := rfl
    have run : ∀ (b : Bool), aget st.tm t = some (.d (.b b)) → (∀ st' : St, aget st'.tm t = some (.d (.b b)) → stp C ⟨d, op, some (t, want)⟩ st' = stp C ⟨d, op, none⟩ { st' with tm := aset t (.d (.b b)) st'.tm }) → ∃ e, Eff C ⟨d, op, some (t, want)⟩ st e := by
      intro b hb hs
      rw [hs st hb] at h
      obtain ⟨e, he⟩ := eff_none ho h
      refine ⟨e, fun st' ha => ?_⟩
      have hb' : aget st'.tm t = some (.d (.b b)) := by rw [← ha.1 t (by simp [IOper.reads])]; exact hb
      obtain ⟨st'', k1, k2, k3, k4⟩ := he { st' with tm := aset t (.d (.b b)) st'.tm } ⟨fun u hu => by
        show aget (aset t _ st.tm) u = aget (aset t _ st'.tm) u
        rw [same st b hb, same st' b hb']
        exact ha.1 u (by simp only [IOper.reads, List.mem_cons]; right; exact hu), ha.2.1, ha.2.2⟩
      refine ⟨st'', by rw [hs st' hb']; exact k1, k2, k3, fun u => ?_⟩
      rw [k4 u, w0]
      split
      · rfl
      · exact same st' b hb' u
    have skip : (∀ st' : St, aget st'.tm t = aget st.tm t → ∃ st2 : St, stp C ⟨d, op, some (t, want)⟩ st' = some (st2.put d (.tup [])) ∧ st2.ob = st'.ob ∧ st2.ou = st'.ou ∧ ∀ u, aget st2.tm u = aget st'.tm u) → ∃ e, Eff C ⟨d, op, some (t, want)⟩ st e := by
      intro hs
      refine ⟨fun u => if d = some u then some (.tup []) else aget st.tm u, fun st' ha => ?_⟩
      obtain ⟨st2, k1, k2, k3, k4⟩ := hs st' (ha.1 t (by simp [IOper.reads])).symm
      refine ⟨_, k1, (put_ob _ _ _).1.trans k2, (put_ob _ _ _).2.trans k3, fun u => ?_⟩
      rw [aget_put]
      by_cases hd : d = some u
      · rw [if_pos hd]
        have : u ∈ (IOper.mk d op (some (t, want))).writes := by
          unfold IOper.writes
          rw [hd]
          simp
        rw [if_pos this]
        simp only [if_pos hd]
      · rw [if_neg hd, k4 u]
        split
        · rename_i hw
          simp only [if_neg hd]
          rcases writes_sub hw with h1 | h1
          · exact absurd h1 hd
          · exact (ha.1 u (by simp only [IOper.reads, List.mem_cons]; right; exact h1)).symm
        · rfl
    unfold stp stepG at h
    simp only at h
    split at h
    · rename_i b hb
      cases b <;> cases want
      · refine run false hb fun st' hb' => ?_
        unfold stp stepG
        simp only [hb', cond_false]
        rfl
      · refine skip fun st' hb' => ?_
        refine ⟨{ st' with tm := aset t (.d (.b false)) st'.tm }, ?_, rfl, rfl, fun u => same st' false (by rw [hb', hb]) u⟩
        unfold stp stepG
        simp only [hb', hb, cond_false, cond_true]
      · refine skip fun st' hb' => ?_
        refine ⟨{ st' with tm := aset t (.d (.b true)) st'.tm }, ?_, rfl, rfl, fun u => same st' true (by rw [hb', hb]) u⟩
        unfold stp stepG
        simp only [hb', hb, cond_false, cond_true]
      · refine run true hb fun st' hb' => ?_
        unfold stp stepG
        simp only [hb', cond_true]
        rfl
    · rename_i hb
      refine skip fun st' hb' => ?_
      refine ⟨st', ?_, rfl, rfl, fun u => rfl⟩
      unfold stp stepG
      simp only [hb', hb]
    · cases h

/-- Neither looks at what the other changes. -/
def indep (a b : IOper) : Bool := a.writes.all (fun t => !has b.reads t && !has b.writes t) && b.writes.all fun t => !has a.reads t

theorem indep_iff {a b : IOper} (h : indep a b = true) : (∀ t ∈ a.writes, t ∉ b.reads ∧ t ∉ b.writes) ∧ ∀ t ∈ b.writes, t ∉ a.reads := by
  simp only [indep, Bool.and_eq_true, List.all_eq_true, Bool.not_eq_true'] at h
  refine ⟨fun t ht => ⟨fun h' => ?_, fun h' => ?_⟩, fun t ht h' => ?_⟩
  · have := (h.1 t ht).1; rw [has_iff.2 h'] at this; cases this
  · have := (h.1 t ht).2; rw [has_iff.2 h'] at this; cases this
  · have := h.2 t ht; rw [has_iff.2 h'] at this; cases this

theorem St.eqv.refl (st : St) : st.eqv st := ⟨fun _ => rfl, rfl, rfl⟩
theorem St.eqv.trans {a b c : St} (h : a.eqv b) (k : b.eqv c) : a.eqv c := ⟨fun t => (h.1 t).trans (k.1 t), h.2.1.trans k.2.1, h.2.2.trans k.2.2⟩
theorem St.eqv.symm {a b : St} (h : a.eqv b) : b.eqv a := ⟨fun t => (h.1 t).symm, h.2.1.symm, h.2.2.symm⟩

theorem stp_eqv {C : CallF} {io : IOper} {st st1 st' : St} (ho : io.op.open = true) (h : stp C io st = some st1) (e : st.eqv st') : ∃ st1', stp C io st' = some st1' ∧ st1.eqv st1' := by
  obtain ⟨f, hf⟩ := eff_g ho h
  obtain ⟨a, a1, a2, a3, a4⟩ := hf st ⟨fun _ _ => rfl, rfl, rfl⟩
  obtain ⟨b, b1, b2, b3, b4⟩ := hf st' ⟨fun t _ => e.1 t, e.2.1, e.2.2⟩
  rw [h] at a1
  cases a1
  refine ⟨b, b1, fun t => ?_, by rw [a2, b2, e.2.1], by rw [a3, b3, e.2.2]⟩
  rw [a4 t, b4 t, e.1 t]

theorem execD_cons {C : CallF} {io : IOper} {l : List IOper} {st : St} : execD C (io :: l) st = (stp C io st).bind (execD C l) := rfl

theorem execD_eqv {C : CallF} : ∀ {l : List IOper} {st st1 st' : St}, (∀ p ∈ l, p.op.open = true) → execD C l st = some st1 → st.eqv st' → ∃ st1', execD C l st' = some st1' ∧ st1.eqv st1'
  | [], st, st1, st', _, h, e => by cases h; exact ⟨st', rfl, e⟩
  | io :: l, st, st1, st', ho, h, e => by
    rw [execD_cons] at h
    obtain ⟨a, h1, h2⟩ := Option.bind_eq_some_iff.1 h
    obtain ⟨a', k1, k2⟩ := stp_eqv (ho io (by simp)) h1 e
    obtain ⟨b, k3, k4⟩ := execD_eqv (fun p hp => ho p (by simp [hp])) h2 k2
    exact ⟨b, by rw [execD_cons, k1]; exact k3, k4⟩

theorem commute {C : CallF} {a b : IOper} {st sa sab : St} (ha : a.op.open = true) (hb : b.op.open = true) (hi : indep a b = true) (h1 : stp C a st = some sa) (h2 : stp C b sa = some sab) :
    ∃ sb sba, stp C b st = some sb ∧ stp C a sb = some sba ∧ sab.eqv sba := by
  obtain ⟨i1, i2⟩ := indep_iff hi
  obtain ⟨e, he⟩ := eff_g ha h1
  obtain ⟨f, hf⟩ := eff_g hb h2
  obtain ⟨sa', a1, a2, a3, a4⟩ := he st ⟨fun _ _ => rfl, rfl, rfl⟩
  rw [h1] at a1
  cases a1
  obtain ⟨sab', b1, b2, b3, b4⟩ := hf sa ⟨fun _ _ => rfl, rfl, rfl⟩
  rw [h2] at b1
  cases b1
  obtain ⟨sb, c1, c2, c3, c4⟩ := hf st ⟨fun t ht => by rw [a4 t, if_neg (fun h => (i1 t h).1 ht)], a2, a3⟩
  obtain ⟨sba, d1, d2, d3, d4⟩ := he sb ⟨fun t ht => by rw [c4 t, if_neg (fun h => i2 t h ht)], c2.symm, c3.symm⟩
  refine ⟨sb, sba, c1, d1, fun t => ?_, by rw [b2, a2, d2, c2], by rw [b3, a3, d3, c3]⟩
  rw [b4 t, a4 t, d4 t, c4 t]
  by_cases hw : t ∈ a.writes
  · rw [if_neg (i1 t hw).2, if_pos hw, if_pos hw]
  · rw [if_neg hw, if_neg hw]

/-- What may come first. -/
theorem bubble {C : CallF} {io : IOper} {post : List IOper} : ∀ {pre : List IOper} {st st1 : St}, (∀ p ∈ pre, indep p io = true) → (∀ p ∈ pre ++ io :: post, p.op.open = true) → execD C (pre ++ io :: post) st = some st1 →
    ∃ sa sb, stp C io st = some sa ∧ execD C (pre ++ post) sa = some sb ∧ st1.eqv sb
  | [], st, st1, _, _, h => by
    rw [List.nil_append, execD_cons] at h
    obtain ⟨a, h1, h2⟩ := Option.bind_eq_some_iff.1 h
    exact ⟨a, st1, h1, h2, .refl _⟩
  | p :: pre, st, st1, hi, ho, h => by
    rw [List.cons_append, execD_cons] at h
    obtain ⟨a, h1, h2⟩ := Option.bind_eq_some_iff.1 h
    obtain ⟨sa, sb, k1, k2, k3⟩ := bubble (fun q hq => hi q (by simp [hq])) (fun q hq => ho q (by rw [List.cons_append]; exact List.mem_cons_of_mem _ hq)) h2
    obtain ⟨c, d, k4, k5, k6⟩ := commute (ho p (by simp)) (ho io (by simp)) (hi p (by simp)) h1 k1
    obtain ⟨sb', k7, k8⟩ := execD_eqv (fun q hq => ho q (by
      rw [List.cons_append]
      refine List.mem_cons_of_mem _ ?_
      rcases List.mem_append.1 hq with h | h
      · exact List.mem_append_left _ h
      · exact List.mem_append_right _ (List.mem_cons_of_mem _ h))) k2 k6
    exact ⟨c, sb', k4, by rw [List.cons_append, execD_cons, k5]; exact k7, k3.trans k8⟩

end Go.Eng
namespace Go.Eng
open Go.RowKit

/-- From operation i on: all may change places with the earlier ones that they need not follow. -/
def orderOne (ops : Array Oper) (il : List IOper) (i : Nat) (o : Oper) (io : IOper) : Bool :=
  io.op.open && o.after.toList.all (fun e => !Region.binds .any e || Nat.blt e.on i) &&
  (il.take i).zipIdx.all fun p => indep p.1 io || o.after.toList.any fun e => Region.binds .any e && Nat.beq e.on p.2

def orderP (ops : Array Oper) (il : List IOper) : Nat → List Oper → List IOper → Bool
  | i, o :: l, io :: r => orderOne ops il i o io && orderP ops il (i + 1) l r
  | _, [], [] => true
  | _, _, _ => false

def drawP (P : Program) (n : Nat) (ops : Array Oper) (il : List IOper) : Bool := matchAll P n ops ops.toList il && orderP ops il 0 ops.toList il

section
variable {P : Program} {w0 : World} {n : Nat} {ops : Array Oper}

theorem orderP_get {il : List IOper} : ∀ {k : Nat} {l : List Oper} {r : List IOper}, orderP ops il k l r = true → ∀ (i : Nat) (io : IOper), r[i]? = some io → ∃ o, l[i]? = some o ∧ orderOne ops il (k + i) o io = true
  | k, o :: l, io :: r, h, i, p, hp => by
    simp only [orderP, Bool.and_eq_true] at h
    cases i with
    | zero => simp only [List.getElem?_cons_zero, Option.some.injEq] at hp; subst hp; exact ⟨o, rfl, h.1⟩
    | succ i =>
      simp only [List.getElem?_cons_succ] at hp
      obtain ⟨q, h1, h2⟩ := orderP_get h.2 i p hp
      exact ⟨q, h1, by rw [show k + (i + 1) = k + 1 + i by omega]; exact h2⟩
  | _, [], [], _, i, p, hp => by simp at hp
  | _, [], _ :: _, h, _, _, _ => by simp [orderP] at h
  | _, _ :: _, [], h, _, _, _ => by simp [orderP] at h

theorem matchAll_get : ∀ {l : List Oper} {r : List IOper}, matchAll P n ops l r = true → ∀ (i : Nat) (io : IOper), r[i]? = some io → ∃ o, l[i]? = some o ∧ matchOp P n ops o io = true
  | o :: l, io :: r, h, i, p, hp => by
    simp only [matchAll, Bool.and_eq_true] at h
    cases i with
    | zero => simp only [List.getElem?_cons_zero, Option.some.injEq] at hp; subst hp; exact ⟨o, rfl, h.1⟩
    | succ i =>
      simp only [List.getElem?_cons_succ] at hp
      exact matchAll_get h.2 i p hp
  | [], [], _, i, p, hp => by simp at hp
  | [], _ :: _, h, _, _, _ => by simp [matchAll] at h
  | _ :: _, [], h, _, _, _ => by simp [matchAll] at h

theorem Rel.eqv {I : Fz} {κ : Km} {st st' : St} {tm : Array Value} {w : World} (h : Rel w0 n I κ st tm w) (e : st.eqv st') : Rel w0 n I κ st' tm w :=
  h.sub (fun t x hx => by rw [e.1]; exact hx) (fun t x hx => by rw [e.2.1]; exact hx) e.2.2.symm

theorem ready_iff {md : Region.Mode} {listed : Array Bool} {i : Nat} (h : i ∈ Region.ready md ops listed) : ∃ o, ops[i]? = some o ∧ listed.getD i true = false ∧ ∀ e ∈ o.after, Region.binds md e = true → listed.getD e.on false = true := by
  unfold Region.ready at h
  rw [List.mem_filter] at h
  obtain ⟨h1, h2⟩ := h
  have hi : i < ops.size := by simpa using h1
  have ho : ops[i]? = some ops[i] := Array.getElem?_eq_getElem hi
  rw [ho] at h2
  simp only [Option.map_some, Option.getD_some, Bool.and_eq_true, Bool.not_eq_true', Array.all_eq_true_iff_forall_mem, Bool.or_eq_true] at h2
  exact ⟨_, ho, h2.1, fun e he hb => by
    rcases h2.2 e he with h | h
    · rw [hb] at h; cases h
    · exact h⟩

theorem ready_of {md : Region.Mode} {listed : Array Bool} {i : Nat} {o : Oper} (ho : ops[i]? = some o) (h1 : listed.getD i true = false) (h2 : ∀ e ∈ o.after, Region.binds md e = true → listed.getD e.on false = true) : i ∈ Region.ready md ops listed := by
  unfold Region.ready
  rw [List.mem_filter]
  refine ⟨by simpa using (Array.getElem?_eq_some_iff.1 ho).1, ?_⟩
  rw [ho]
  simp only [Option.map_some, Option.getD_some, Bool.and_eq_true, Bool.not_eq_true', Array.all_eq_true_iff_forall_mem, Bool.or_eq_true]
  refine ⟨h1, fun e he => ?_⟩
  cases hb : Region.binds md e with
  | false => exact .inl rfl
  | true => exact .inr (h2 e he hb)

/-- What is left: in the text's order. -/
structure Left (il : List IOper) (listed : Array Bool) (rem : List (Nat × IOper)) : Prop where
  size : listed.size = il.length
  sorted : rem.Pairwise fun a b => a.1 < b.1
  get : ∀ p ∈ rem, il[p.1]? = some p.2
  iff : ∀ i, i < il.length → (listed.getD i true = false ↔ ∃ io, (i, io) ∈ rem)

theorem any_sound {C : CallF} (hC : ∀ f ws ou res, C f ws ou = some res → CallOK P w0 f ws ou res) {il : List IOper} (hm : drawP P n ops il = true) {Q : Exit → Act → World → Prop} {st1 : St} {I0 : Fz} {κ0 : Km} {wb : World}
    (hQ : ∀ I' κ' tm' w', Rel w0 n I' κ' st1 tm' w' → Ext I0 κ0 wb I' κ' w' → Q .normal ⟨tm', []⟩ w') :
    ∀ (fuel : Nat) (listed : Array Bool) (rem : List (Nat × IOper)) (I : Fz) (κ : Km) (st st2 : St) (tm : Array Value) (w : World), rem.length ≤ fuel → Left il listed rem → Rel w0 n I κ st tm w → Ext I0 κ0 wb I κ w → execD C (rem.map (·.2)) st = some st2 → st2.eqv st1 →
      wpAny P .any ops Q fuel listed ⟨tm, []⟩ w := by
  simp only [drawP, Bool.and_eq_true] at hm
  obtain ⟨hm, hord⟩ := hm
  have hlen := matchAll_len hm
  rw [Array.length_toList] at hlen
  -- where nothing is left
  have done : ∀ (listed : Array Bool) (rem : List (Nat × IOper)) (I : Fz) (κ : Km) (st st2 : St) (tm : Array Value) (w : World), Left il listed rem → Rel w0 n I κ st tm w → Ext I0 κ0 wb I κ w → execD C (rem.map (·.2)) st = some st2 → st2.eqv st1 →
      Region.ready .any ops listed = [] → rem = [] ∧ Q .normal ⟨tm, []⟩ w := by
    intro listed rem I κ st st2 tm w hl hr he hx hv hnil
    cases rem with
    | nil =>
      cases hx
      exact ⟨rfl, hQ _ _ _ _ (hr.eqv hv) he⟩
    | cons p rem =>
      exfalso
      obtain ⟨i, io⟩ := p
      have hg := hl.get (i, io) (by simp)
      obtain ⟨o, ho, h1⟩ := orderP_get hord i io hg
      have hi : i < il.length := (List.getElem?_eq_some_iff.1 hg).1
      have hrd : i ∈ Region.ready .any ops listed := by
        refine ready_of (by simpa using ho) ((hl.iff i hi).2 ⟨io, by simp⟩) fun e he hb => ?_
        simp only [orderOne, Bool.and_eq_true, List.all_eq_true, Bool.or_eq_true, Bool.not_eq_true'] at h1
        have hlt : e.on < i := by
          rcases h1.1.2 e (by simpa using he) with h | h
          · rw [hb] at h; cases h
          · have := nblt_iff.1 h; omega
        have hel : e.on < listed.size := by rw [hl.size]; omega
        cases hgd : listed.getD e.on true with
        | true =>
          simp only [Array.getD, hel, dif_pos] at hgd ⊢
          exact hgd
        | false =>
          exfalso
          obtain ⟨p, hp⟩ := (hl.iff e.on (by omega)).1 hgd
          rcases List.mem_cons.1 hp with h | h
          · cases h; omega
          · have := (List.pairwise_cons.1 hl.sorted).1 _ h
            simp only at this
            omega
      rw [hnil] at hrd
      cases hrd
  intro fuel
  induction fuel with
  | zero =>
    intro listed rem I κ st st2 tm w hfuel hl hr he hx hv
    have : rem = [] := List.length_eq_zero_iff.1 (by omega)
    subst this
    cases hx
    refine ⟨?_, hQ _ _ _ _ (hr.eqv hv) he⟩
    rw [List.eq_nil_iff_forall_not_mem]
    intro i hi
    obtain ⟨o, ho, h1, _⟩ := ready_iff hi
    have hil : i < il.length := by rw [← hlen]; exact (Array.getElem?_eq_some_iff.1 ho).1
    obtain ⟨io, h⟩ := (hl.iff i hil).1 h1
    cases h
  | succ fuel ih =>
    intro listed rem I κ st st2 tm w hfuel hl hr he hx hv
    refine ⟨fun hnil => (done listed rem I κ st st2 tm w hl hr he hx hv hnil).2, fun i hi => ?_⟩
    obtain ⟨o, ho, h1, h2⟩ := ready_iff hi
    have hil : i < il.length := by rw [← hlen]; exact (Array.getElem?_eq_some_iff.1 ho).1
    obtain ⟨io, hmem⟩ := (hl.iff i hil).1 h1
    have hg := hl.get _ hmem
    obtain ⟨pre, post, rfl⟩ := List.append_of_mem hmem
    obtain ⟨o', ho', hmo⟩ := matchAll_get hm i io hg
    have : o' = o := by
      have h3 : ops[i]? = some o' := by simpa using ho'
      rw [ho] at h3
      exact (Option.some.inj h3).symm
    subst this
    have hopen : ∀ p ∈ il, p.op.open = true := by
      intro p hp
      obtain ⟨j, hj⟩ := List.getElem?_of_mem hp
      obtain ⟨q, _, h3⟩ := orderP_get hord j p hj
      simp only [orderOne, Bool.and_eq_true] at h3
      exact h3.1.1
    have hpw := List.pairwise_append.1 hl.sorted
    have hind : ∀ p ∈ pre.map (·.2), indep p io = true := by
      intro p hp
      obtain ⟨⟨j, p'⟩, hj, rfl⟩ := List.mem_map.1 hp
      have hlt : j < i := hpw.2.2 _ hj (i, io) (by simp)
      obtain ⟨q, hq, h3⟩ := orderP_get hord i io hg
      have : q = o' := by rw [ho'] at hq; exact (Option.some.inj hq).symm
      subst this
      simp only [orderOne, Nat.zero_add, Bool.and_eq_true, List.all_eq_true, Bool.or_eq_true, List.any_eq_true] at h3
      have hgj := hl.get (j, p') (List.mem_append_left _ hj)
      have hz : (p', j) ∈ (il.take i).zipIdx := by
        rw [List.mem_zipIdx_iff_getElem?, List.getElem?_take, if_pos hlt]
        exact hgj
      rcases h3.2 _ hz with h | ⟨e, he1, he2⟩
      · exact h
      · exfalso
        have h4 := h2 e (by simpa using he1) he2.1
        have h5 := nbeq_eq he2.2
        simp only at h5
        rw [h5] at h4
        have h6 := (hl.iff j (by omega)).2 ⟨p', List.mem_append_left _ hj⟩
        have hjl : j < listed.size := by rw [hl.size]; omega
        simp only [Array.getD, hjl, dif_pos] at h4 h6
        rw [h4] at h6
        cases h6
    rw [List.map_append, List.map_cons] at hx
    obtain ⟨sa, sb, k1, k2, k3⟩ := bubble hind (fun p hp => hopen p (by
      have : p ∈ (pre ++ (i, io) :: post).map (·.2) := by simpa using hp
      obtain ⟨q, hq, rfl⟩ := List.mem_map.1 this
      exact List.mem_of_getElem? (hl.get q hq))) hx
    rw [← List.map_append] at k2
    have hl' : Left il (listed.setIfInBounds i true) (pre ++ post) := by
      refine ⟨by simpa using hl.size, ?_, fun p hp => hl.get p ?_, fun j hj => ?_⟩
      · rw [List.pairwise_append]
        exact ⟨hpw.1, (List.pairwise_cons.1 hpw.2.1).2, fun a ha b hb => hpw.2.2 a ha b (List.mem_cons_of_mem _ hb)⟩
      · rcases List.mem_append.1 hp with h | h
        · exact List.mem_append_left _ h
        · exact List.mem_append_right _ (List.mem_cons_of_mem _ h)
      · by_cases hji : j = i
        · subst hji
          have hjl : j < listed.size := by rw [hl.size]; exact hj
          constructor
          · intro h
            simp [Array.getD, hjl] at h
          · rintro ⟨p, hp⟩
            exfalso
            rcases List.mem_append.1 hp with h | h
            · have := hpw.2.2 _ h (j, io) (by simp)
              simp at this
            · have := (List.pairwise_cons.1 hpw.2.1).1 _ h
              simp at this
        · have : (listed.setIfInBounds i true).getD j true = listed.getD j true := by
            have hjl : j < listed.size := by rw [hl.size]; exact hj
            simp [Array.getD, hjl, Array.getElem_setIfInBounds, Ne.symm hji]
          rw [this, hl.iff j hj]
          constructor
          · rintro ⟨p, hp⟩
            refine ⟨p, ?_⟩
            rcases List.mem_append.1 hp with h | h
            · exact List.mem_append_left _ h
            · rcases List.mem_cons.1 h with h | h
              · cases h; exact absurd rfl hji
              · exact List.mem_append_right _ h
          · rintro ⟨p, hp⟩
            refine ⟨p, ?_⟩
            rcases List.mem_append.1 hp with h | h
            · exact List.mem_append_left _ h
            · exact List.mem_append_right _ (List.mem_cons_of_mem _ h)
    have hrem : (pre ++ post).length ≤ fuel := by
      simp only [List.length_append, List.length_cons] at hfuel ⊢
      omega
    have hK : Cont w0 n (wpAny P .any ops Q fuel (listed.setIfInBounds i true)) (fun s => some s) sa I κ w := by
      intro I' κ' st' tm' w' hr' he' hst
      cases hst
      exact ih _ _ I' κ' sa sb tm' w' hrem hl' hr' (he.trans he') k2 (k3.symm.trans hv)
    have hZ : ContZ w0 n Q (fun _ _ => (none : Option St)) sa I κ w := by
      intro I' κ' st' tm' w' d v _ _ _ h
      cases h
    have hres := og_sound hC hr hmo k1 hK hZ
    unfold wpOp
    rw [ho]
    by_cases hw : Region.wanted o' (yielded ops tm) = true
    · simp only
      rw [if_pos hw]
      exact .inl (hres.1 hw)
    · simp only
      rw [if_neg hw]
      exact hres.2 (by simpa using hw)

theorem Rel.drew {I : Fz} {κ : Km} {st : St} {tm : Array Value} {w : World} (h : Rel w0 n I κ st tm w) (m : Nat) : Rel w0 n I κ st tm { w with drawn := m } ∧ Ext I κ w I κ { w with drawn := m } :=
  ⟨h.grow (Gr.drawn h.sat m), (Gr.drawn h.sat m).ext h.sat⟩

theorem reg_any {C : CallF} (hP : P.follows .mixedOrders = true) (hC : ∀ f ws ou res, C f ws ou = some res → CallOK P w0 f ws ou res) {il : List IOper} {id : Nat} {Q : Exit → Act → World → Prop} {I : Fz} {κ : Km} {st st1 : St} {tm : Array Value} {w : World}
    (hm : drawP P n ops il = true) (hr : Rel w0 n I κ st tm w) (h : execD C il st = some st1) (hQ : ∀ I' κ' tm' w', Rel w0 n I' κ' st1 tm' w' → Ext I κ w I' κ' w' → Q .normal ⟨tm', []⟩ w') :
    (Code.region id ops true).wp P Q ⟨tm, []⟩ w := by
  have hlen : ops.size = il.length := by
    simp only [drawP, Bool.and_eq_true] at hm
    have := matchAll_len hm.1
    rwa [Array.length_toList] at this
  refine wp_region_any hP ?_
  obtain ⟨hr', he⟩ := hr.drew (w.drawn + 1)
  have hsw : ∀ (l : List IOper) (k : Nat), (l.zipIdx k).map (fun p => ((p.2, p.1) : Nat × IOper).2) = l := by
    intro l k
    rw [show (fun p : IOper × Nat => ((p.2, p.1) : Nat × IOper).2) = Prod.fst from rfl]
    exact List.zipIdx_map_fst k l
  refine any_sound hC hm hQ ops.size (Array.replicate ops.size false) (il.zipIdx.map fun p => (p.2, p.1)) I κ st st1 tm _ (by simp [hlen]) ⟨by simp [hlen], ?_, ?_, ?_⟩ hr' he (by rw [List.map_map]; exact (congrArg (execD C · st) (hsw il 0)).trans h) (.refl _)
  · rw [List.pairwise_map]
    refine List.pairwise_iff_getElem.2 fun i j hi hj hij => ?_
    simp only [List.getElem_zipIdx]
    omega
  · intro p hp
    obtain ⟨q, hq, rfl⟩ := List.mem_map.1 hp
    rw [List.mem_zipIdx_iff_getElem?] at hq
    exact hq
  · intro i hi
    constructor
    · intro _
      refine ⟨il[i], List.mem_map.2 ⟨(il[i], i), ?_, rfl⟩⟩
      rw [List.mem_zipIdx_iff_getElem?]
      exact List.getElem?_eq_getElem hi
    · intro _
      simp [Array.getD, hlen, hi]

end
end Go.Eng
