/-
  The engine, part V: loops and scopes a round at a time; whole code.
-/
import Derived.Test.YtjgoahlkodbemaaDoorEc
import Derived.Scope
import Derived.Lib.ItoaNum
import Derived.Lib.IndexMore
import Derived.Lib.IndexBytes
namespace Go.Eng
open Go.RowKit

section
variable {P : Program} {Q : Exit → Act → World → Prop} {a : Act} {w : World}

/-- At the beginning of a round. -/
def LoopW (P : Program) (c : Code) (Q : Exit → Act → World → Prop) (a : Act) (w : World) : Prop :=
  ∀ (b : Frame) (k : List Item) (cs : List Frame), ∃ e a' w', Q e a' w' ∧ Arrives P (lone (b.at a (.code c :: .inLoop c :: k)) cs w) b k cs e a' w'

theorem loop_round {c : Code} (h : c.wp P (Exit.then (LoopW P c Q) Q) a w) : LoopW P c Q a w := by
  intro b k cs
  obtain ⟨e, a₁, w₁, hq, harr⟩ := h b (.inLoop c :: k) cs
  cases e with
  | normal =>
    obtain ⟨e₂, a₂, w₂, hq₂, harr₂⟩ := hq b k cs
    exact ⟨e₂, a₂, w₂, hq₂, .of_steps (Steps.trans harr (.one step_inLoop)) harr₂⟩
  | exit id => exact ⟨_, a₁, w₁, hq, .pass (x := .inLoop c) rfl (fun _ _ => .inl (by simp)) harr⟩
  | goto l => exact ⟨_, a₁, w₁, hq, .pass (x := .inLoop c) rfl (fun _ _ => .inl (by simp)) harr⟩
  | ret => exact ⟨_, a₁, w₁, hq, .pass (x := .inLoop c) rfl (fun _ _ => .inl (by simp)) harr⟩
  | panic ch => exact ⟨_, a₁, w₁, hq, .pass (x := .inLoop c) rfl (fun _ _ => .inl (by simp)) harr⟩
  | outgrown => exact ⟨_, a₁, w₁, hq, .pass (x := .inLoop c) rfl (fun _ _ => .inl (by simp)) harr⟩

theorem loop_wp {c : Code} (h : LoopW P c Q a w) : (Code.loop c).wp P Q a w := by
  intro b k cs
  obtain ⟨e, a', w', hq, harr⟩ := h b k cs
  exact ⟨e, a', w', hq, .of_steps (.one step_loop) harr⟩

/-- In a scope, at the beginning of what stands behind a label (or of the whole). -/
def ScopeW (P : Program) (c sc : Code) (Q : Exit → Act → World → Prop) (a : Act) (w : World) : Prop :=
  ∀ (b : Frame) (k : List Item) (cs : List Frame), ∃ e a' w', Q e a' w' ∧ Arrives P (lone (b.at a (.code sc :: .inScope c :: k)) cs w) b k cs e a' w'

def ScopeQ (P : Program) (c : Code) (Q : Exit → Act → World → Prop) : Exit → Act → World → Prop
  | .goto m, a, w => match findLabel c m with
    | some rest => ScopeW P c rest Q a w
    | none => Q (.goto m) a w
  | e, a, w => Q e a w

theorem scope_stretch {c sc : Code} (h : sc.wp P (ScopeQ P c Q) a w) : ScopeW P c sc Q a w := by
  intro b k cs
  obtain ⟨e, a₁, w₁, hq, harr⟩ := h b (.inScope c :: k) cs
  cases e with
  | normal => exact ⟨.normal, a₁, w₁, hq, Steps.trans harr (.one step_inScope)⟩
  | exit id => exact ⟨.exit id, a₁, w₁, hq, fun k' hk => harr k' (by simp [exitTo, hk])⟩
  | goto l =>
    simp only [ScopeQ] at hq
    split at hq
    · rename_i rest hf
      obtain ⟨e₂, a₂, w₂, hq₂, harr₂⟩ := hq b k cs
      exact ⟨e₂, a₂, w₂, hq₂, .of_steps (harr _ (by simp [gotoIn, hf])) harr₂⟩
    · rename_i hf
      exact ⟨.goto l, a₁, w₁, hq, fun k' hk => harr k' (by simp [gotoIn, hf, hk])⟩
  | ret => exact ⟨_, a₁, w₁, hq, harr⟩
  | panic ch => exact ⟨_, a₁, w₁, hq, harr⟩
  | outgrown => exact ⟨_, a₁, w₁, hq, harr⟩

theorem scope_wp {c : Code} (h : ScopeW P c c Q a w) : (Code.scope c).wp P Q a w := by
  intro b k cs
  obtain ⟨e, a', w', hq, harr⟩ := h b k cs
  exact ⟨e, a', w', hq, .of_steps (.one step_scope) harr⟩

end

def matchCode (P : Program) (n : Nat) (ic : IC) (c : Code) : Bool := match ic with
  | .skip => match c with
    | .skip => true
    | _ => false
  | .ret => match c with
    | .ret => true
    | _ => false
  | .exit i => match c with
    | .exit j => Nat.beq i j
    | _ => false
  | .goto i => match c with
    | .goto j => Nat.beq i j
    | _ => false
  | .label i _ => match c with
    | .label j => Nat.beq i j
    | _ => false
  | .seq x y => match c with
    | .seq a b => matchCode P n x a && matchCode P n y b
    | _ => false
  | .cond o x y => match c with
    | .cond p a b => matchO p o && matchCode P n x a && matchCode P n y b
    | _ => false
  | .block i x => match c with
    | .block j a => Nat.beq i j && matchCode P n x a
    | _ => false
  | .loop _ x => match c with
    | .loop a => matchCode P n x a
    | _ => false
  | .scope x => match c with
    | .scope a => matchCode P n x a
    | _ => false
  | .kp _ x => matchCode P n x c
  | .reg dr il _ => match c with
    | .region _ ops dr' => bif dr then dr' && drawP P n ops il else !dr' && matchAll P n ops ops.toList il
    | _ => false

/-- What an exit of the plain run says of the machine's. -/
def XQ (Q : Exit → Act → World → Prop) (I : Fz) : X → Act → World → Prop
  | .n, a, w => Q .normal a w
  | .ex id, a, w => Q (.exit id) a w
  | .ret, a, w => Q .ret a w
  | .go l, a, w => Q (.goto l) a w
  | .pan d, a, w => ∀ v, RD I d v → Q (.panic [{ v, recovered := false }]) a w

/-- All that may follow. -/
def PostX (w0 : World) (n : Nat) (Q : Exit → Act → World → Prop) (x : X) (st : St) (I : Fz) (κ : Km) (w : World) : Prop :=
  ∀ I' κ' tm' w', Rel w0 n I' κ' st tm' w' → Ext I κ w I' κ' w' → XQ Q I' x ⟨tm', []⟩ w'

/-- A loop, or a scope, comes to what the plain one comes to. -/
def LoopOK (P : Program) (w0 : World) (c : IC) (l : Option Nat) (st : St) (x : X) (st' : St) : Prop :=
  ∀ n I κ tm w Q, Rel w0 n I κ st tm w → PostX w0 n Q x st' I κ w → match c with
    | .loop _ a => l = none → ∀ c, matchCode P n a c = true → LoopW P c Q ⟨tm, []⟩ w
    | .scope a => ∀ c, matchCode P n a c = true → match l with
      | none => ScopeW P c c Q ⟨tm, []⟩ w
      | some m => ∀ sc, findLabel c m = some sc → ScopeW P c sc Q ⟨tm, []⟩ w
    | .kp _ a => ∀ c, matchCode P n a c = true → c.wp P Q ⟨tm, []⟩ w
    | _ => True

section
variable {P : Program} {w0 : World} {n : Nat} {α : Type} {r : α}

theorem exec_sound {C : CallF} {L : LoopF} (hP : P.follows .mixedOrders = true) (hC : ∀ f ws ou res, C f ws ou = some res → CallOK P w0 f ws ou res) (hL : ∀ c l st x st', L c l st = some (x, st') → LoopOK P w0 c l st x st') :
    ∀ (ic : IC) {c : Code} {y : X → St → Option α} {I : Fz} {κ : Km} {st : St} {tm : Array Value} {w : World} {Q : Exit → Act → World → Prop}, matchCode P n ic c = true → Rel w0 n I κ st tm w → exec C L ic st y = some r →
      (∀ x st', y x st' = some r → PostX w0 n Q x st' I κ w) → c.wp P Q ⟨tm, []⟩ w := by
  intro ic
  induction ic with
  | skip =>
    intro c y I κ st tm w Q hm hr h hQ
    simp only [matchCode] at hm
    split at hm
    · exact wp_skip (hQ _ _ h _ _ _ _ hr (Ext.refl _ _ _))
    · cases hm
  | ret =>
    intro c y I κ st tm w Q hm hr h hQ
    simp only [matchCode] at hm
    split at hm
    · exact wp_ret (hQ _ _ h _ _ _ _ hr (Ext.refl _ _ _))
    · cases hm
  | exit i =>
    intro c y I κ st tm w Q hm hr h hQ
    simp only [matchCode] at hm
    split at hm
    · obtain rfl := nbeq_eq hm
      exact wp_exit (hQ _ _ h _ _ _ _ hr (Ext.refl _ _ _))
    · cases hm
  | goto i =>
    intro c y I κ st tm w Q hm hr h hQ
    simp only [matchCode] at hm
    split at hm
    · obtain rfl := nbeq_eq hm
      exact wp_goto (hQ _ _ h _ _ _ _ hr (Ext.refl _ _ _))
    · cases hm
  | label i ks =>
    intro c y I κ st tm w Q hm hr h hQ
    simp only [matchCode] at hm
    split at hm
    · exact wp_label (hQ _ _ h _ _ _ _ (hr.keep ks) (Ext.refl _ _ _))
    · cases hm
  | seq a b iha ihb =>
    intro c y I κ st tm w Q hm hr h hQ
    simp only [matchCode] at hm
    split at hm
    · rename_i ca cb
      simp only [Bool.and_eq_true] at hm
      refine wp_seq (iha hm.1 hr h fun x st' hy I' κ' tm' w' hr' he => ?_)
      cases x with
      | n => exact ihb hm.2 hr' hy fun x st'' hy' I'' κ'' tm'' w'' hr'' he' => hQ _ _ hy' _ _ _ _ hr'' (he.trans he')
      | ex id => exact hQ _ _ hy _ _ _ _ hr' he
      | ret => exact hQ _ _ hy _ _ _ _ hr' he
      | go l => exact hQ _ _ hy _ _ _ _ hr' he
      | pan d => exact hQ _ _ hy _ _ _ _ hr' he
    · cases hm
  | cond o a b iha ihb =>
    intro c y I κ st tm w Q hm hr h hQ
    simp only [matchCode] at hm
    split at hm
    · rename_i p ca cb
      simp only [Bool.and_eq_true] at hm
      simp only [exec] at h
      split at h
      · rename_i t ht
        have := hr.opd hm.1.1 ht
        simp only [RT, RD] at this
        cases t with
        | true => exact wp_cond_true this (iha hm.1.2 hr h hQ)
        | false => exact wp_cond_false this (ihb hm.2 hr h hQ)
      · cases h
    · cases hm
  | block i a iha =>
    intro c y I κ st tm w Q hm hr h hQ
    simp only [matchCode] at hm
    split at hm
    · rename_i j ca
      simp only [Bool.and_eq_true] at hm
      obtain rfl := nbeq_eq hm.1
      refine wp_block (iha hm.2 hr h fun x st' hy I' κ' tm' w' hr' he => ?_)
      cases x with
      | n => exact hQ _ _ hy _ _ _ _ hr' he
      | ex id =>
        show Exit.inBlock i Q (.exit id) _ _
        simp only [Exit.inBlock]
        simp only at hy
        by_cases hid : id = i
        · subst hid
          rw [Nat.beq_refl] at hy
          rw [if_pos rfl]
          exact hQ _ _ hy _ _ _ _ hr' he
        · rw [nbeq_ne hid] at hy
          rw [if_neg hid]
          exact hQ _ _ hy _ _ _ _ hr' he
      | ret => exact hQ _ _ hy _ _ _ _ hr' he
      | go l => exact hQ _ _ hy _ _ _ _ hr' he
      | pan d => exact hQ _ _ hy _ _ _ _ hr' he
    · cases hm
  | loop ks a iha =>
    intro c y I κ st tm w Q hm hr h hQ
    simp only [matchCode] at hm
    split at hm
    · rename_i ca
      simp only [exec] at h
      obtain ⟨⟨x, st'⟩, h1, h2⟩ := Option.bind_eq_some_iff.1 h
      exact loop_wp (hL _ _ _ _ _ h1 n I κ tm w Q (hr.keep ks) (hQ _ _ h2) rfl ca hm)
    · cases hm
  | scope a iha =>
    intro c y I κ st tm w Q hm hr h hQ
    simp only [matchCode] at hm
    split at hm
    · rename_i ca
      simp only [exec] at h
      obtain ⟨⟨x, st'⟩, h1, h2⟩ := Option.bind_eq_some_iff.1 h
      exact scope_wp (hL _ _ _ _ _ h1 n I κ tm w Q hr (hQ _ _ h2) ca hm)
    · cases hm
  | kp ks a iha =>
    intro c y I κ st tm w Q hm hr h hQ
    simp only [matchCode] at hm
    simp only [exec] at h
    obtain ⟨⟨x, st'⟩, h1, h2⟩ := Option.bind_eq_some_iff.1 h
    exact hL _ _ _ _ _ h1 n I κ tm w Q (hr.keep ks) (hQ _ _ h2) c hm
  | reg dr il drop =>
    intro c y I κ st tm w Q hm hr h hQ
    simp only [matchCode] at hm
    split at hm
    · rename_i id ops dr'
      cases dr with
      | true =>
        simp only [cond_true, Bool.and_eq_true] at hm
        obtain ⟨rfl, hm⟩ := hm
        simp only [exec] at h
        obtain ⟨hfr, h⟩ := cond_some h
        obtain ⟨st', fs, h1, h2, h3, _, h5⟩ := execX_DF h
        exact reg_any hP hC hm hr hfr h1 h2 h5 fun I' κ' tm' w' hr' he => hQ _ _ h3 _ _ _ _ (hr'.drop drop) he
      | false =>
        simp only [cond_false, Bool.and_eq_true, Bool.not_eq_true'] at hm
        obtain ⟨rfl, hm⟩ := hm
        simp only [exec] at h
        exact reg_seq hC hm hr h (fun I' κ' st' tm' w' hr' he hy => hQ _ _ hy _ _ _ _ (hr'.drop drop) he) (fun I' κ' st' tm' w' d v hr' he hd hy => hQ _ _ hy _ _ _ _ hr' he v hd)
    · cases hm

theorem behind_match : ∀ {a : IC} {c : Code} {m : Nat}, matchCode P n a c = true → match a.behind m with
    | some (_, r) => ∃ sc, findLabel c m = some sc ∧ matchCode P n r sc = true
    | none => findLabel c m = none := by
  intro a
  induction a with
  | seq a b iha ihb =>
    intro c m hm
    simp only [matchCode] at hm
    split at hm
    · rename_i ca cb
      simp only [Bool.and_eq_true] at hm
      have h1 := iha (m := m) hm.1
      have h2 := ihb (m := m) hm.2
      simp only [IC.behind, findLabel]
      cases ha : a.behind m with
      | some p =>
        rw [ha] at h1
        obtain ⟨sc, e1, e2⟩ := h1
        rw [e1]
        exact ⟨_, rfl, by simp only [matchCode, e2, hm.2, Bool.and_self]⟩
      | none =>
        rw [ha] at h1
        simp only at h1
        rw [h1]
        exact h2
    · cases hm
  | label i ks =>
    intro c m hm
    simp only [matchCode] at hm
    split at hm
    · rename_i j
      obtain rfl := nbeq_eq hm
      simp only [IC.behind, findLabel]
      by_cases h : i = m
      · subst h
        simp [matchCode]
      · rw [nbeq_ne h]
        simp [h]
    · cases hm
  | skip => intro c m hm; simp only [matchCode] at hm; split at hm <;> first | rfl | cases hm
  | ret => intro c m hm; simp only [matchCode] at hm; split at hm <;> first | rfl | cases hm
  | exit i => intro c m hm; simp only [matchCode] at hm; split at hm <;> first | rfl | cases hm
  | goto i => intro c m hm; simp only [matchCode] at hm; split at hm <;> first | rfl | cases hm
  | cond o x y _ _ => intro c m hm; simp only [matchCode] at hm; split at hm <;> first | rfl | cases hm
  | block i x _ => intro c m hm; simp only [matchCode] at hm; split at hm <;> first | rfl | cases hm
  | loop ks x _ => intro c m hm; simp only [matchCode] at hm; split at hm <;> first | rfl | cases hm
  | scope x _ => intro c m hm; simp only [matchCode] at hm; split at hm <;> first | rfl | cases hm
  | kp ks x ih =>
    intro c m hm
    simp only [matchCode] at hm
    simp only [IC.behind]
    exact ih hm
  | reg dr il drop => intro c m hm; simp only [matchCode] at hm; split at hm <;> first | rfl | cases hm

theorem round_sound {C : CallF} {L : LoopF} (hP : P.follows .mixedOrders = true) (hC : ∀ f ws ou res, C f ws ou = some res → CallOK P w0 f ws ou res) (hL : ∀ c l st x st', L c l st = some (x, st') → LoopOK P w0 c l st x st')
    {c : IC} {l : Option Nat} {st st' : St} {x : X} (h : round C L c l st = some (x, st')) : LoopOK P w0 c l st x st' := by
  intro n I κ tm w Q hr hQ
  unfold round at h
  split at h
  · rename_i ks a
    dsimp only
    intro _ c hm
    refine loop_round (exec_sound hP hC hL a hm hr h fun x1 st1 hy I' κ' tm' w' hr' he => ?_)
    cases x1 with
    | n => exact hL _ _ _ _ _ hy n I' κ' tm' w' Q (hr'.keep ks) (fun _ _ _ _ hr'' he' => hQ _ _ _ _ hr'' (he.trans he')) rfl c hm
    | ex id => cases hy; exact hQ _ _ _ _ hr' he
    | ret => cases hy; exact hQ _ _ _ _ hr' he
    | go l => cases hy; exact hQ _ _ _ _ hr' he
    | pan d => cases hy; exact hQ _ _ _ _ hr' he
  · rename_i a
    dsimp only
    intro c hm
    have go : ∀ (b : IC) (sc : Code), matchCode P n b sc = true → exec C L b st (fun x st' => match x with
        | .go m => match a.behind m with
          | some (ks, _) => L (.scope a) (some m) (st'.keep ks)
          | none => some (.go m, st')
        | x => some (x, st')) = some (x, st') → ScopeW P c sc Q ⟨tm, []⟩ w := by
      intro b sc hb h
      refine scope_stretch (exec_sound hP hC hL b hb hr h fun x1 st1 hy I' κ' tm' w' hr' he => ?_)
      cases x1 with
      | n => cases hy; exact hQ _ _ _ _ hr' he
      | ex id => cases hy; exact hQ _ _ _ _ hr' he
      | ret => cases hy; exact hQ _ _ _ _ hr' he
      | pan d => cases hy; exact hQ _ _ _ _ hr' he
      | go m =>
        have hbm := behind_match (m := m) hm
        show ScopeQ P c Q (.goto m) _ _
        simp only [ScopeQ]
        simp only at hy
        cases hb : a.behind m with
        | some p =>
          rw [hb] at hbm hy
          obtain ⟨sc', e1, _⟩ := hbm
          rw [e1]
          exact hL _ _ _ _ _ hy n I' κ' tm' w' Q (hr'.keep _) (fun _ _ _ _ hr'' he' => hQ _ _ _ _ hr'' (he.trans he')) c hm sc' e1
        | none =>
          rw [hb] at hbm hy
          simp only at hbm
          rw [hbm]
          cases hy
          exact hQ _ _ _ _ hr' he
    cases l with
    | none => exact go a c hm h
    | some m =>
      simp only at h
      have hbm := behind_match (m := m) hm
      cases hb : a.behind m with
      | none => rw [hb] at h; cases h
      | some p =>
        rw [hb] at h hbm
        obtain ⟨sc', e1, e2⟩ := hbm
        intro sc hsc
        rw [e1] at hsc
        cases hsc
        exact go p.2 sc' e2 h
  · rename_i ks a
    dsimp only
    intro c hm
    exact exec_sound hP hC hL a hm hr h fun x1 st1 hy I' κ' tm' w' hr' he => by
      cases hy
      exact hQ _ _ _ _ hr' he
  · cases h

end
end Go.Eng
namespace Go.Eng
open Go.RowKit

def matchRV (P : Program) : ResultVar → RV → Bool
  | .tmp t, .tmp u => Nat.beq t u
  | .cell a ty, .cell t m agg => Nat.beq a t && !Nat.beq m 0 && Nat.beq (P.cellsOf ty) m && aggOf P ty == some agg && (agg || Nat.beq m 1)
  | _, _ => false

def matchRVs (P : Program) : List ResultVar → List RV → Bool
  | [], [] => true
  | x :: l, y :: r => matchRV P x y && matchRVs P l r
  | _, _ => false

def matchF (P : Program) (fn : Func) (f : IFn) : Bool :=
  !(fn.name == "runtime.NumGoroutine") && Nat.beq fn.ntmps f.ntmps && matchRVs P fn.results.toList f.results && match fn.body with
  | some c => matchCode P f.ntmps f.body c
  | none => false

section
variable {P : Program} {w0 : World} {n : Nat} {I : Fz} {κ : Km} {st : St} {tm : Array Value} {w : World}

def readRV (tm : Array Value) : ResultVar → Sem Value
  | .tmp t => pure (tm.getD t undef)
  | .cell a t => do loadVar t (← asAddr (tm.getD a undef))

theorem rv_sound (hr : Rel w0 n I κ st tm w) {x : ResultVar} {y : RV} (hm : matchRV P x y = true) {v : T} (h : st.res y = some v) :
    ∃ u, (readRV tm x).run P w = .ok u w ∧ ∃ bo, RT I κ w 0 bo v u ∧ (bo = none ∨ ∃ t, bo = κ ⟨0, 1, t, 0⟩) := by
  unfold matchRV at hm
  split at hm
  · rename_i t u
    obtain rfl := nbeq_eq hm
    simp only [St.res] at h
    obtain ⟨z, e1, e2⟩ := hr.tms _ _ h
    refine ⟨z, ?_, _, e2, .inr ⟨_, rfl⟩⟩
    have : tm.getD t undef = z := by simp [Array.getD_eq_getD_getElem?, e1]
    simp only [readRV, this, Sem.run_pure]
  · rename_i a ty t m agg
    simp only [Bool.and_eq_true, Bool.not_eq_true', beq_iff_eq, Bool.or_eq_true] at hm
    obtain ⟨⟨⟨⟨m1, m2⟩, m3⟩, m4⟩, m5⟩ := hm
    obtain rfl := nbeq_eq m1
    have hm0 := nbeq_of m2
    simp only [St.res] at h
    split at h
    · rename_i p hp
      split at h
      · rename_i cells hc
        obtain ⟨z, e1, e2⟩ := hr.tms _ _ hp
        have hz : tm.getD a undef = z := by simp [Array.getD_eq_getD_getElem?, e1]
        have hno : notOwn p = true := by cases p <;> first | rfl | simp [St.at] at hc
        obtain ⟨b, o', us, e3, e4, e5⟩ := at_sound hr (RT.free hno e2) hc
        have hone : agg = false → m = 1 := fun e => by
          rcases m5 with m5 | m5
          · rw [e] at m5; cases m5
          · exact nbeq_eq m5
        have hle : m ≤ us.length := by
          cases agg with
          | true => exact (asVal_agg e4 h).1
          | false =>
            obtain ⟨u, hu, _⟩ := asVal_one e4 h
            have := (List.getElem?_eq_some_iff.1 hu).1
            rw [hone rfl]; omega
        obtain ⟨u, g1, g2, g3⟩ := run_loadVar (P := P) (nbeq_eq m3) hm0 m4 hle e5
        refine ⟨u, ?_, none, ?_, .inl rfl⟩
        · simp only [readRV, hz, e3, asAddr, Sem.run_bind, Sem.run_pure, Result.andThen_ok, g1]
        · cases agg with
          | true => rw [g2 rfl]; exact (asVal_agg e4 h).2
          | false =>
            obtain ⟨u', hu, _, hx⟩ := asVal_one e4 h
            have := g3 rfl
            rw [hu] at this
            cases this
            exact hx
      · cases h
    · cases h
  · cases hm

theorem run_results {fn : Func} {us : List Value} (h : (fn.results.toList.mapM (readRV tm)).run P w = .ok us w) : (results fn tm).run P w = .ok (if h : us.length = 1 then us[0] else .tuple us.toArray) w := by
  have e : results fn tm = (fn.results.mapM (readRV tm) >>= fun vs => pure (if h : vs.size = 1 then vs[0] else .tuple vs)) := by
    unfold results
    congr 1
  rw [e, Sem.run_bind, Array.mapM_eq_mapM_toList]
  simp only [map_eq_pure_bind, Sem.run_bind, h, Result.andThen_ok, Sem.run_pure, List.size_toArray, List.getElem_toArray]

theorem rvs_sound (hr : Rel w0 n I κ st tm w) : ∀ {l : List ResultVar} {m : List RV} {vs : List T}, matchRVs P l m = true → st.ress m = some vs → ∃ us, (l.mapM (readRV tm)).run P w = .ok us w ∧ RTs I κ w 0 vs us ∧ allD vs = true ∧ us.length = m.length
  | [], [], vs, _, h => by
    simp only [St.ress, Option.some.injEq] at h
    subst h
    exact ⟨[], rfl, by simp only [RTs], rfl, rfl⟩
  | x :: l, y :: m, vs, hm, h => by
    simp only [matchRVs, Bool.and_eq_true] at hm
    simp only [St.ress] at h
    split at h
    · rename_i v vs' h1 h2
      split at h
      · rename_i d hd
        simp only [Option.some.injEq] at h
        subst h
        obtain ⟨u, k1, bo, k2, _⟩ := rv_sound hr hm.1 h1
        obtain ⟨us, k3, k4, k5, k6⟩ := rvs_sound hr hm.2 h2
        refine ⟨u :: us, ?_, ?_, by simp only [allD]; exact k5, by simp [k6]⟩
        · rw [List.mapM_cons]
          simp only [Sem.run_bind, k1, Result.andThen_ok, k3, Sem.run_pure]
        · simp only [RTs]
          exact ⟨u, us, rfl, by simp only [RT]; exact toD_sound k2 hd, k4⟩
      · cases h
    · cases h
  | [], _ :: _, _, hm, _ => by simp [matchRVs] at hm
  | _ :: _, [], _, hm, _ => by simp [matchRVs] at hm

/-- The call's own names go; the result's array keeps one. -/
def leaveK (κ : Km) (bo : Option Nat) : Km := fun q => if q.fr = 0 then (if q = resKey then bo else none) else κ q

theorem leave {I' : Fz} {κ' : Km} {w' : World} (hr : Rel w0 n I' κ' st tm w') (he : Ext I κ w I' κ' w') (hk : ∀ k b, κ k = some b → 1 ≤ k.fr) {bo : Option Nat} (hb : bo = none ∨ ∃ t, bo = κ' ⟨0, 1, t, 0⟩) :
    Rel w0 0 I' (leaveK κ' bo) ⟨[], [], st.ou⟩ #[] w' ∧ Ext I κ w I' (leaveK κ' bo) w' := by
  have hk1 : ∀ q : Key, 1 ≤ q.fr → leaveK κ' bo q = κ' q := fun q h => by unfold leaveK; rw [if_neg (by omega)]
  have hin : ∀ q b, leaveK κ' bo q = some b → (1 ≤ q.fr ∧ κ' q = some b) ∨ (q = resKey ∧ ∃ t, κ' ⟨0, 1, t, 0⟩ = some b) := by
    intro q b h
    unfold leaveK at h
    split at h
    · split at h
      · rename_i e
        rcases hb with rfl | ⟨t, rfl⟩
        · cases h
        · exact .inr ⟨e, t, h⟩
      · cases h
    · exact .inl ⟨by omega, h⟩
  refine ⟨⟨hr.below, hr.sat, rfl, fun t x hx => by simp [aget] at hx, fun f t cells hc => ?_, fun q q' b h h' => ?_, fun q b h => ?_⟩, he.le, he.size, fun q h1 h2 => ?_, he.keep, fun q b h hlt => ?_⟩
  · cases f with
    | zero => simp [obAt, aget] at hc
    | succ f =>
      obtain ⟨b, cs, ty, e1, e2, e3, e4, e5⟩ := hr.objs (f + 1) t cells hc
      refine ⟨b, cs, ty, by rw [hk1 _ (by simp)]; exact e1, e2, e3, e4, fun j x hx => ?_⟩
      obtain ⟨v, g1, g2, g3⟩ := e5 j x hx
      refine ⟨v, g1, g2, ?_⟩
      rw [hk1 _ (by simp)]
      exact RT.mono (Fz.le_refl I') (fun g t => hk1 _ (by simp; omega)) (fun _ _ => ⟨rfl, rfl⟩) g3
  · rcases hin q b h with ⟨h1, h2⟩ | ⟨rfl, t, h2⟩ <;> rcases hin q' b h' with ⟨h3, h4⟩ | ⟨rfl, t', h4⟩
    · exact hr.inj _ _ _ h2 h4
    · have := hr.inj _ _ _ h2 h4; subst this; simp at h1
    · have := hr.inj _ _ _ h2 h4; subst this; simp at h3
    · rfl
  · rcases hin q b h with ⟨h1, h2⟩ | ⟨rfl, t, h2⟩
    · exact hr.own _ _ h2
    · exact hr.own _ _ h2
  · rw [hk1 q h1]; exact he.keys q h1 h2
  · rcases hin q b h with ⟨h1, h2⟩ | ⟨rfl, t, h2⟩
    · exact he.old q b h2 hlt
    · rcases he.old _ b h2 hlt with h3 | h3
      · have := hk _ _ h3
        simp at this
      · exact .inr h3

theorem leave_rt {κ' : Km} {bo : Option Nat} {v z : T} {u : Value} (hz : unsh v = some z) (h : RT I κ' w 0 bo v u) : RT I (leaveK κ' bo) w 0 (leaveK κ' bo resKey) v u := by
  have hb : leaveK κ' bo resKey = bo := by simp [leaveK, resKey]
  rw [hb]
  unfold unsh at hz
  split at hz
  · simpa only [RT] using h
  · simpa only [RT] using h
  · simpa only [RT] using h
  · cases e : allD ‹List T› with
    | false => rw [e] at hz; cases hz
    | true =>
      simp only [RT] at *
      obtain ⟨vs, rfl, h⟩ := h
      exact ⟨vs, rfl, h.allD e⟩
  · simpa only [RT] using h
  · simp only [RT] at *
    obtain ⟨b, h, rfl⟩ := h
    exact ⟨b, by unfold leaveK; rw [if_neg (by simp)]; exact h, rfl⟩
  · simp only [RT] at *
    obtain ⟨b, h, rfl⟩ := h
    exact ⟨b, by unfold leaveK; rw [if_neg (by simp)]; exact h, rfl⟩
  · cases hz

theorem bound_get : ∀ {l : List T} {us : List Value} {k t : Nat} {x : T}, RTs I κ w 0 l us → aget (bound k l) t = some x → k ≤ t ∧ ∃ v, us[t - k]? = some v ∧ RT I κ w 0 none x v
  | [], us, k, t, x, _, h => by simp [bound, aget] at h
  | y :: l, us, k, t, x, hr, h => by
    simp only [RTs] at hr
    obtain ⟨v, ws, rfl, h1, h2⟩ := hr
    simp only [bound, aget] at h
    by_cases e : k = t
    · subst e
      rw [Nat.beq_refl] at h
      cases h
      exact ⟨Nat.le_refl _, v, by simp, h1⟩
    · rw [nbeq_ne e] at h
      obtain ⟨h3, u, h4, h5⟩ := bound_get (k := k + 1) h2 h
      refine ⟨by omega, u, ?_, h5⟩
      have : t - k = (t - (k + 1)) + 1 := by omega
      rw [this, List.getElem?_cons_succ]
      exact h4

theorem execF_sound {C : CallF} {L : LoopF} (hP : P.follows .mixedOrders = true) (hC : ∀ f ws ou res, C f ws ou = some res → CallOK P w0 f ws ou res) (hL : ∀ c l st x st', L c l st = some (x, st') → LoopOK P w0 c l st x st')
    {f : FuncId} {fn : Func} {g : IFn} (hf : P.funcs[f]? = some fn) (hm : matchF P fn g = true) {ws : List T} {ou : List Ob} {res : Res} (h : execF C L g ws ou = some res) : CallOK P w0 f ws ou res := by
  simp only [matchF, Bool.and_eq_true, Bool.not_eq_true'] at hm
  obtain ⟨⟨⟨m1, m2⟩, m3⟩, m4⟩ := hm
  split at m4
  · rename_i c hbody
    refine ⟨⟨fn, c, hf, m1, hbody⟩, fun I κ w us hr hk hus => ?_⟩
    unfold execF at h
    obtain ⟨hlen, h⟩ := cond_some h
    have hn := nbeq_eq m2
    have hul := hus.length
    have hle := Nat.le_of_ble_eq_true hlen
    refine calls_of_wp hf hbody ?_
    have hsz : ((⟨us⟩ : Array Value) ++ Array.replicate (fn.ntmps - (⟨us⟩ : Array Value).size) undef).size = g.ntmps := by
      simp only [Array.size_append, List.size_toArray, Array.size_replicate]
      omega
    have hrel : Rel w0 g.ntmps I κ { tm := bound 0 ws, ob := [], ou } ((⟨us⟩ : Array Value) ++ Array.replicate (fn.ntmps - (⟨us⟩ : Array Value).size) undef) w := by
      refine ⟨hr.below, hr.sat, hsz, fun t x hx => ?_, fun f t cells hc => hr.objs f t cells hc, hr.inj, hr.own⟩
      obtain ⟨_, v, h1, h2⟩ := bound_get hus hx
      rw [Nat.sub_zero] at h1
      have hno : κ ⟨0, 1, t, 0⟩ = none := by
        cases e : κ ⟨0, 1, t, 0⟩ with
        | none => rfl
        | some b => have := hk _ _ e; simp at this
      refine ⟨v, ?_, by rw [hno]; exact h2⟩
      rw [Array.getElem?_append_left (by
        have := (List.getElem?_eq_some_iff.1 h1).1
        simpa using this)]
      simpa using h1
    refine exec_sound hP hC hL g.body m4 hrel h fun x st' hy I' κ' tm' w' hr' he => ?_
    have fin : (match g.results with
        | [r] => (match st'.res r with
          | some v => some (Res.ret v st'.ou)
          | none => none)
        | l => (match st'.ress l with
          | some vs => some (.ret (.tup vs) st'.ou)
          | none => none)) = some res → ∃ v, (results fn tm').run P w' = .ok v w' ∧ ∃ I'' κ'', RetOK w0 res I'' κ'' (.returned v) w' ∧ Ext I κ w I'' κ'' w' := by
      intro h
      split at h
      · rename_i rv hres
        rw [hres] at m3
        split at h
        · rename_i v hv
          cases h
          cases hl : fn.results.toList with
          | nil => rw [hl] at m3; simp [matchRVs] at m3
          | cons x l =>
            rw [hl] at m3
            simp only [matchRVs, Bool.and_eq_true] at m3
            cases l with
            | cons _ _ => simp [matchRVs] at m3
            | nil =>
              obtain ⟨u, k1, bo, k2, k3⟩ := rv_sound hr' m3.1 hv
              obtain ⟨l1, l2⟩ := leave hr' he hk k3
              refine ⟨u, ?_, I', _, ⟨l1, fun z hz => leave_rt hz k2⟩, l2⟩
              have := run_results (fn := fn) (tm := tm') (P := P) (w := w') (us := [u]) (by
                rw [hl, List.mapM_cons]
                simp only [Sem.run_bind, k1, Result.andThen_ok, List.mapM_nil, Sem.run_pure])
              rw [this]
              simp
        · cases h
      · rename_i l hne
        split at h
        · rename_i vs hv
          cases h
          obtain ⟨us', k1, k2, k3, k4⟩ := rvs_sound hr' m3 hv
          obtain ⟨l1, l2⟩ := leave hr' he hk (bo := none) (.inl rfl)
          refine ⟨.tuple us'.toArray, ?_, I', _, ⟨l1, fun z hz => leave_rt hz ?_⟩, l2⟩
          · rw [run_results k1]
            have : us'.length ≠ 1 := by
              rw [k4]
              intro e
              obtain ⟨y, hy⟩ := List.length_eq_one_iff.1 e
              exact hne y hy
            rw [dif_neg this]
          · simp only [RT]
            exact ⟨us', rfl, k2⟩
        · cases h
    cases x with
    | n => exact ⟨rfl, fin hy⟩
    | ret => exact ⟨rfl, fin hy⟩
    | ex id => cases hy
    | go l => cases hy
    | pan d =>
      intro v hv
      refine ⟨rfl, ?_⟩
      cases hy
      obtain ⟨l1, l2⟩ := leave hr' he hk (bo := none) (.inl rfl)
      exact ⟨I', _, ⟨l1, v, rfl, hv⟩, l2⟩
  · cases m4

/-- The table is the program's. -/
def EnvOK (P : Program) (w0 : World) (env : FuncId → Option Ent) : Prop := ∀ f e, env f = some e → match e with
  | .fn g => ∃ fn, P.funcs[f]? = some fn ∧ matchF P fn g = true
  | .ora o => ∀ ws ou res, o ws ou = some res → CallOK P w0 f ws ou res

theorem run_sound {env : FuncId → Option Ent} (hP : P.follows .mixedOrders = true) (he : EnvOK P w0 env) : ∀ k, (∀ f ws ou res, (run env k).1 f ws ou = some res → CallOK P w0 f ws ou res) ∧ ∀ c l st x st', (run env k).2 c l st = some (x, st') → LoopOK P w0 c l st x st'
  | 0 => ⟨fun _ _ _ _ h => by simp [run] at h, fun _ _ _ _ _ h => by simp [run] at h⟩
  | k + 1 => by
    obtain ⟨ih1, ih2⟩ := run_sound hP he k
    refine ⟨fun f ws ou res h => ?_, fun c l st x st' h => round_sound hP ih1 ih2 h⟩
    simp only [run] at h
    cases hf : env f with
    | none => rw [hf] at h; cases h
    | some e =>
      rw [hf] at h
      have := he f e hf
      cases e with
      | ora o => exact this ws ou res h
      | fn g =>
        obtain ⟨fn, h1, h2⟩ := this
        exact execF_sound hP ih1 ih2 h1 h2 h

end
end Go.Eng
namespace Go.Eng
open Go.RowKit

section
variable {α : Type} {r : α}

def leC (C C' : CallF) : Prop := ∀ f ws ou r, C f ws ou = some r → C' f ws ou = some r
def leL (L L' : LoopF) : Prop := ∀ c l st r, L c l st = some r → L' c l st = some r

theorem call_mono {C C' : CallF} (hC : leC C C') {st : St} {f : FuncId} {vs : List T} {y y' : T → St → Option α} {z z' : D → St → Option α} (hy : ∀ v st, y v st = some r → y' v st = some r) (hz : ∀ d st, z d st = some r → z' d st = some r)
    (h : st.call C f vs y z = some r) : st.call C' f vs y' z' = some r := by
  unfold St.call at *
  split at h
  · cases h
  · rename_i ws hs
    cases ea : allD ws with
    | true =>
      rw [ea] at h
      simp only [cond_true] at *
      obtain ⟨res, h1, h2⟩ := Option.bind_eq_some_iff.1 h
      rw [hC _ _ _ _ h1, Option.bind_some]
      cases res with
      | ret v ou =>
        simp only at *
        split at h2
        · rename_i u hu
          exact hy _ _ h2
        · cases h2
      | pan d ou => exact hz _ _ h2
    | false =>
      rw [ea] at h
      simp only [cond_false] at *
      obtain ⟨res, h1, h2⟩ := Option.bind_eq_some_iff.1 h
      rw [hC _ _ _ _ h1, Option.bind_some]
      cases res with
      | ret v ou =>
        cases ou with
        | nil => cases h2
        | cons ob ou =>
          simp only at *
          split at h2
          · exact hy _ _ h2
          · cases h2
      | pan d ou =>
        cases ou with
        | nil => cases h2
        | cons ob ou => exact hz _ _ h2

theorem step_mono {C C' : CallF} (hC : leC C C') {o : IOper} {st : St} {y y' : St → Option α} {z z' : D → St → Option α} (hy : ∀ st, y st = some r → y' st = some r) (hz : ∀ d st, z d st = some r → z' d st = some r)
    (h : step C o st y z = some r) : step C' o st y' z' = some r := by
  cases hc : o.op.isCall with
  | false =>
    rw [step_nat (C' := C) hc] at h
    rw [step_nat (C' := C) hc]
    obtain ⟨st', h1, h2⟩ := Option.bind_eq_some_iff.1 h
    rw [h1]
    exact hy _ h2
  | true =>
    obtain ⟨d, op, g⟩ := o
    cases op with
    | call f l =>
      simp only [step] at *
      split at h
      · exact call_mono hC (fun v st h => hy _ h) hz h
      · cases h
    | callv x l =>
      simp only [step] at *
      split at h
      · exact call_mono hC (fun v st h => hy _ h) hz h
      · cases h
    | callP f l =>
      simp only [step] at *
      split at h
      · split at h
        · rename_i ws _
          cases ea : allD ws with
          | true =>
            rw [ea] at h
            simp only [cond_true] at *
            obtain ⟨res, h1, h2⟩ := Option.bind_eq_some_iff.1 h
            rw [hC _ _ _ _ h1, Option.bind_some]
            cases res with
            | ret v ou =>
              simp only at *
              split at h2
              · exact hy _ h2
              · cases h2
            | pan d ou => cases h2
          | false => rw [ea] at h; cases h
        · cases h
      · cases h
    | _ => cases hc

theorem stepG_mono {C C' : CallF} (hC : leC C C') {o : IOper} {st : St} {y y' : St → Option α} {z z' : D → St → Option α} (hy : ∀ st, y st = some r → y' st = some r) (hz : ∀ d st, z d st = some r → z' d st = some r)
    (h : stepG C o st y z = some r) : stepG C' o st y' z' = some r := by
  unfold stepG at *
  split at h
  · exact step_mono hC hy hz h
  · rename_i t want hg
    split at h
    · rename_i x hx
      cases x <;> cases want <;> simp only [cond_true, cond_false] at * <;> first | exact step_mono hC hy hz h | exact hy _ h
    · exact hy _ h
    · cases h

theorem execOps_mono {C C' : CallF} (hC : leC C C') {y y' : St → Option α} {z z' : D → St → Option α} (hy : ∀ st, y st = some r → y' st = some r) (hz : ∀ d st, z d st = some r → z' d st = some r) :
    ∀ {l : List IOper} {st : St}, execOps C l st y z = some r → execOps C' l st y' z' = some r
  | [], st, h => hy _ h
  | o :: l, st, h => stepG_mono hC (fun st' h' => execOps_mono hC hy hz h') hz h

theorem execX_mono {C C' : CallF} (hC : leC C C') {y y' : St → Option α} (hy : ∀ st, y st = some r → y' st = some r) :
    ∀ {l : List IOper} {acc : List (IOper × Ft)} {st : St}, execX C acc l st y = some r → execX C' acc l st y' = some r
  | [], _, st, h => hy _ h
  | o :: l, acc, st, h => by
    simp only [execX] at *
    cases he : (o.ft st).empty with
    | true =>
      rw [he, cond_true] at h
      exact stepG_mono hC (fun st' h' => execX_mono hC hy h') (fun _ _ h => by cases h) h
    | false =>
      rw [he, cond_false] at h
      cases ha : acc.all (fun p => depO p.1 o || p.2.apart (o.ft st)) with
      | false => rw [ha] at h; cases h
      | true =>
        rw [ha, cond_true] at h
        exact stepG_mono hC (fun st' h' => execX_mono hC hy h') (fun _ _ h => by cases h) h

theorem execD_mono {C C' : CallF} (hC : leC C C') : ∀ {l : List IOper} {st st' : St}, execD C l st = some st' → execD C' l st = some st'
  | [], st, st', h => h
  | o :: l, st, st', h => by
    rw [execD_cons] at *
    obtain ⟨s, h1, h2⟩ := Option.bind_eq_some_iff.1 h
    have : stp C' o st = some s := stepG_mono hC (fun _ h => h) (fun _ _ h => h) h1
    rw [this]
    exact execD_mono hC h2

theorem exec_mono {C C' : CallF} {L L' : LoopF} (hC : leC C C') (hL : leL L L') : ∀ (ic : IC) {y y' : X → St → Option α} {st : St}, (∀ x st, y x st = some r → y' x st = some r) → exec C L ic st y = some r → exec C' L' ic st y' = some r := by
  intro ic
  induction ic with
  | skip => intro y y' st hy h; exact hy _ _ h
  | ret => intro y y' st hy h; exact hy _ _ h
  | exit i => intro y y' st hy h; exact hy _ _ h
  | goto i => intro y y' st hy h; exact hy _ _ h
  | label i ks => intro y y' st hy h; exact hy _ _ h
  | seq a b iha ihb =>
    intro y y' st hy h
    refine iha (fun x st h => ?_) h
    cases x with
    | n => exact ihb hy h
    | _ => exact hy _ _ h
  | cond o a b iha ihb =>
    intro y y' st hy h
    simp only [exec] at *
    split at h
    · rename_i t _
      cases t
      · exact ihb hy h
      · exact iha hy h
    · cases h
  | block i a iha =>
    intro y y' st hy h
    refine iha (fun x st h => ?_) h
    cases x with
    | ex j =>
      simp only at *
      cases e : Nat.beq j i with
      | true => rw [e] at h; exact hy _ _ h
      | false => rw [e] at h; exact hy _ _ h
    | _ => exact hy _ _ h
  | loop ks a iha =>
    intro y y' st hy h
    simp only [exec] at *
    obtain ⟨p, h1, h2⟩ := Option.bind_eq_some_iff.1 h
    rw [hL _ _ _ _ h1]
    exact hy _ _ h2
  | scope a iha =>
    intro y y' st hy h
    simp only [exec] at *
    obtain ⟨p, h1, h2⟩ := Option.bind_eq_some_iff.1 h
    rw [hL _ _ _ _ h1]
    exact hy _ _ h2
  | kp ks a iha =>
    intro y y' st hy h
    simp only [exec] at *
    obtain ⟨p, h1, h2⟩ := Option.bind_eq_some_iff.1 h
    rw [hL _ _ _ _ h1]
    exact hy _ _ h2
  | reg dr il drop =>
    intro y y' st hy h
    cases dr with
    | true =>
      simp only [exec] at *
      obtain ⟨h1, h⟩ := cond_some h
      rw [h1, cond_true]
      exact execX_mono hC (fun st h => hy _ _ h) h
    | false =>
      simp only [exec] at *
      exact execOps_mono hC (fun st h => hy _ _ h) (fun d st h => hy _ _ h) h

end
end Go.Eng
namespace Go.Eng
open Go.RowKit

section
variable {env : FuncId → Option Ent}

theorem execF_mono {C C' : CallF} {L L' : LoopF} (hC : leC C C') (hL : leL L L') {f : IFn} {args : List T} {ou : List Ob} {r : Res} (h : execF C L f args ou = some r) : execF C' L' f args ou = some r := by
  unfold execF at *
  cases e : Nat.ble args.length f.ntmps with
  | false => rw [e] at h; cases h
  | true =>
    rw [e] at h
    exact exec_mono hC hL _ (fun _ _ h => h) h

theorem round_mono {C C' : CallF} {L L' : LoopF} (hC : leC C C') (hL : leL L L') {c : IC} {l : Option Nat} {st : St} {p : X × St} (h : round C L c l st = some p) : round C' L' c l st = some p := by
  unfold round at *
  split at h
  · refine exec_mono hC hL _ (fun x st h => ?_) h
    cases x with
    | n => exact hL _ _ _ _ h
    | _ => exact h
  · rename_i a
    have go : ∀ (x : X) (st' : St), (match x with
        | .go m => match a.behind m with
          | some (ks, _) => L (.scope a) (some m) (st'.keep ks)
          | none => some (.go m, st')
        | x => some (x, st')) = some p → (match x with
        | .go m => match a.behind m with
          | some (ks, _) => L' (.scope a) (some m) (st'.keep ks)
          | none => some (.go m, st')
        | x => some (x, st')) = some p := by
      intro x st' h
      cases x with
      | go m =>
        simp only at *
        split at h
        · exact hL _ _ _ _ h
        · exact h
      | _ => exact h
    dsimp only at h ⊢
    split at h
    · exact exec_mono hC hL _ go h
    · split at h
      · exact exec_mono hC hL _ go h
      · cases h
  · exact exec_mono hC hL _ (fun _ _ h => h) h
  · cases h

theorem run_mono : ∀ k, leC (run env k).1 (run env (k + 1)).1 ∧ leL (run env k).2 (run env (k + 1)).2
  | 0 => ⟨fun _ _ _ _ h => by simp [run] at h, fun _ _ _ _ h => by simp [run] at h⟩
  | k + 1 => by
    obtain ⟨h1, h2⟩ := run_mono k
    refine ⟨fun f ws ou r h => ?_, fun c l st r h => ?_⟩
    · rw [run] at h ⊢
      dsimp only at h ⊢
      split at h
      · cases h
      · exact h
      · exact execF_mono h1 h2 h
    · rw [run] at h ⊢
      exact round_mono h1 h2 h

theorem run_le {j k : Nat} (h : j ≤ k) : leC (run env j).1 (run env k).1 ∧ leL (run env j).2 (run env k).2 := by
  induction h with
  | refl => exact ⟨fun _ _ _ _ h => h, fun _ _ _ _ h => h⟩
  | step _ ih => exact ⟨fun _ _ _ _ h => (run_mono _).1 _ _ _ _ (ih.1 _ _ _ _ h), fun _ _ _ _ h => (run_mono _).2 _ _ _ _ (ih.2 _ _ _ _ h)⟩

open Classical in
noncomputable def CI (env : FuncId → Option Ent) : CallF := fun f ws ou => if h : ∃ r, ∃ k, (run env k).1 f ws ou = some r then some (Classical.choose h) else none

open Classical in
noncomputable def LI (env : FuncId → Option Ent) : LoopF := fun c l st => if h : ∃ r, ∃ k, (run env k).2 c l st = some r then some (Classical.choose h) else none

theorem CI_of {k : Nat} {f : FuncId} {ws : List T} {ou : List Ob} {r : Res} (h : (run env k).1 f ws ou = some r) : CI env f ws ou = some r := by
  unfold CI
  have hx : ∃ r, ∃ k, (run env k).1 f ws ou = some r := ⟨r, k, h⟩
  rw [dif_pos hx]
  obtain ⟨j, hj⟩ := Classical.choose_spec hx
  have h1 := (run_le (env := env) (Nat.le_max_left j k)).1 _ _ _ _ hj
  have h2 := (run_le (env := env) (Nat.le_max_right j k)).1 _ _ _ _ h
  rw [h1] at h2
  exact h2

theorem LI_of {k : Nat} {c : IC} {l : Option Nat} {st : St} {r : X × St} (h : (run env k).2 c l st = some r) : LI env c l st = some r := by
  unfold LI
  have hx : ∃ r, ∃ k, (run env k).2 c l st = some r := ⟨r, k, h⟩
  rw [dif_pos hx]
  obtain ⟨j, hj⟩ := Classical.choose_spec hx
  have h1 := (run_le (env := env) (Nat.le_max_left j k)).2 _ _ _ _ hj
  have h2 := (run_le (env := env) (Nat.le_max_right j k)).2 _ _ _ _ h
  rw [h1] at h2
  exact h2

theorem CI_ex {f : FuncId} {ws : List T} {ou : List Ob} {r : Res} (h : CI env f ws ou = some r) : ∃ k, (run env k).1 f ws ou = some r := by
  unfold CI at h
  split at h
  · rename_i hx
    cases h
    exact Classical.choose_spec hx
  · cases h

theorem LI_ex {c : IC} {l : Option Nat} {st : St} {r : X × St} (h : LI env c l st = some r) : ∃ k, (run env k).2 c l st = some r := by
  unfold LI at h
  split at h
  · rename_i hx
    cases h
    exact Classical.choose_spec hx
  · cases h

/-- Sooner or later, and ever after. -/
def Ev {α β : Type} (p : Nat → β → Option α) (b : β) (r : α) : Prop := ∃ k, ∀ j, k ≤ j → p j b = some r

section
variable {α : Type} {r : α}

theorem call_lim {st : St} {f : FuncId} {vs : List T} {y : T → St → Option α} {z : D → St → Option α} {yy : Nat → T → St → Option α} {zz : Nat → D → St → Option α} (hy : ∀ v st, y v st = some r → ∃ k, ∀ j, k ≤ j → yy j v st = some r)
    (hz : ∀ d st, z d st = some r → ∃ k, ∀ j, k ≤ j → zz j d st = some r) (h : st.call (CI env) f vs y z = some r) : ∃ k, ∀ j, k ≤ j → st.call (run env j).1 f vs (yy j) (zz j) = some r := by
  unfold St.call at h
  split at h
  · cases h
  · rename_i ws hs
    cases ea : allD ws with
    | true =>
      rw [ea] at h
      simp only [cond_true] at h
      obtain ⟨res, h1, h2⟩ := Option.bind_eq_some_iff.1 h
      obtain ⟨k, hk⟩ := CI_ex h1
      cases res with
      | ret v ou =>
        simp only at h2
        split at h2
        · rename_i u hu
          obtain ⟨k', hk'⟩ := hy _ _ h2
          refine ⟨max k k', fun j hj => ?_⟩
          unfold St.call
          simp only [hs, ea, cond_true, (run_le (env := env) (Nat.le_trans (Nat.le_max_left k k') hj)).1 _ _ _ _ hk, Option.bind_some, hu]
          exact hk' j (Nat.le_trans (Nat.le_max_right k k') hj)
        · cases h2
      | pan d ou =>
        obtain ⟨k', hk'⟩ := hz _ _ h2
        refine ⟨max k k', fun j hj => ?_⟩
        unfold St.call
        simp only [hs, ea, cond_true, (run_le (env := env) (Nat.le_trans (Nat.le_max_left k k') hj)).1 _ _ _ _ hk, Option.bind_some]
        exact hk' j (Nat.le_trans (Nat.le_max_right k k') hj)
    | false =>
      rw [ea] at h
      simp only [cond_false] at h
      obtain ⟨res, h1, h2⟩ := Option.bind_eq_some_iff.1 h
      obtain ⟨k, hk⟩ := CI_ex h1
      cases res with
      | ret v ou =>
        cases ou with
        | nil => cases h2
        | cons ob ou =>
          simp only at h2
          split at h2
          · rename_i u hu
            obtain ⟨k', hk'⟩ := hy _ _ h2
            refine ⟨max k k', fun j hj => ?_⟩
            unfold St.call
            simp only [hs, ea, cond_false, (run_le (env := env) (Nat.le_trans (Nat.le_max_left k k') hj)).1 _ _ _ _ hk, Option.bind_some, hu]
            exact hk' j (Nat.le_trans (Nat.le_max_right k k') hj)
          · cases h2
      | pan d ou =>
        cases ou with
        | nil => cases h2
        | cons ob ou =>
          obtain ⟨k', hk'⟩ := hz _ _ h2
          refine ⟨max k k', fun j hj => ?_⟩
          unfold St.call
          simp only [hs, ea, cond_false, (run_le (env := env) (Nat.le_trans (Nat.le_max_left k k') hj)).1 _ _ _ _ hk, Option.bind_some]
          exact hk' j (Nat.le_trans (Nat.le_max_right k k') hj)

theorem step_lim {o : IOper} {st : St} {y : St → Option α} {z : D → St → Option α} {yy : Nat → St → Option α} {zz : Nat → D → St → Option α} (hy : ∀ st, y st = some r → ∃ k, ∀ j, k ≤ j → yy j st = some r)
    (hz : ∀ d st, z d st = some r → ∃ k, ∀ j, k ≤ j → zz j d st = some r) (h : step (CI env) o st y z = some r) : ∃ k, ∀ j, k ≤ j → step (run env j).1 o st (yy j) (zz j) = some r := by
  cases hc : o.op.isCall with
  | false =>
    rw [step_nat (C' := CI env) hc] at h
    obtain ⟨st', h1, h2⟩ := Option.bind_eq_some_iff.1 h
    obtain ⟨k, hk⟩ := hy _ h2
    refine ⟨k, fun j hj => ?_⟩
    rw [step_nat (C' := CI env) hc, h1]
    exact hk j hj
  | true =>
    obtain ⟨d, op, g⟩ := o
    cases op with
    | call f l =>
      simp only [step] at *
      split at h
      · exact call_lim (fun v st h => hy _ h) hz h
      · cases h
    | callv x l =>
      simp only [step] at *
      split at h
      · exact call_lim (fun v st h => hy _ h) hz h
      · cases h
    | callP f l =>
      simp only [step] at *
      split at h
      · split at h
        · rename_i ws _
          cases ea : allD ws with
          | true =>
            rw [ea] at h
            simp only [cond_true] at *
            obtain ⟨res, h1, h2⟩ := Option.bind_eq_some_iff.1 h
            obtain ⟨k, hk⟩ := CI_ex h1
            cases res with
            | ret v ou =>
              simp only at h2
              split at h2
              · rename_i u hu
                obtain ⟨k', hk'⟩ := hy _ h2
                refine ⟨max k k', fun j hj => ?_⟩
                simp only [(run_le (env := env) (Nat.le_trans (Nat.le_max_left k k') hj)).1 _ _ _ _ hk, Option.bind_some, hu]
                exact hk' j (Nat.le_trans (Nat.le_max_right k k') hj)
              · cases h2
            | pan d ou => cases h2
          | false => rw [ea] at h; cases h
        · cases h
      · cases h
    | _ => cases hc

theorem stepG_lim {o : IOper} {st : St} {y : St → Option α} {z : D → St → Option α} {yy : Nat → St → Option α} {zz : Nat → D → St → Option α} (hy : ∀ st, y st = some r → ∃ k, ∀ j, k ≤ j → yy j st = some r)
    (hz : ∀ d st, z d st = some r → ∃ k, ∀ j, k ≤ j → zz j d st = some r) (h : stepG (CI env) o st y z = some r) : ∃ k, ∀ j, k ≤ j → stepG (run env j).1 o st (yy j) (zz j) = some r := by
  unfold stepG at *
  split at h
  · exact step_lim hy hz h
  · rename_i t want hg
    split at h
    · rename_i x hx
      cases x <;> cases want <;> simp only [cond_true, cond_false] at * <;> first | exact step_lim hy hz h | exact hy _ h
    · exact hy _ h
    · cases h

theorem execOps_lim {y : St → Option α} {z : D → St → Option α} {yy : Nat → St → Option α} {zz : Nat → D → St → Option α} (hy : ∀ st, y st = some r → ∃ k, ∀ j, k ≤ j → yy j st = some r)
    (hz : ∀ d st, z d st = some r → ∃ k, ∀ j, k ≤ j → zz j d st = some r) : ∀ {l : List IOper} {st : St}, execOps (CI env) l st y z = some r → ∃ k, ∀ j, k ≤ j → execOps (run env j).1 l st (yy j) (zz j) = some r
  | [], _, h => hy _ h
  | _ :: _, _, h => stepG_lim (fun _ h' => execOps_lim hy hz h') hz h

theorem execX_lim {y : St → Option α} {yy : Nat → St → Option α} (hy : ∀ st, y st = some r → ∃ k, ∀ j, k ≤ j → yy j st = some r) :
    ∀ {l : List IOper} {acc : List (IOper × Ft)} {st : St}, execX (CI env) acc l st y = some r → ∃ k, ∀ j, k ≤ j → execX (run env j).1 acc l st (yy j) = some r
  | [], _, _, h => hy _ h
  | o :: l, acc, st, h => by
    simp only [execX] at *
    cases he : (o.ft st).empty with
    | true =>
      rw [he, cond_true] at h
      simp only [cond_true]
      exact stepG_lim (yy := fun j st' => execX (run env j).1 acc l st' (yy j)) (zz := fun _ _ _ => none) (fun _ h' => execX_lim hy h') (fun _ _ h => by cases h) h
    | false =>
      rw [he, cond_false] at h
      simp only [cond_false]
      cases ha : acc.all (fun p => depO p.1 o || p.2.apart (o.ft st)) with
      | false => rw [ha] at h; cases h
      | true =>
        rw [ha, cond_true] at h
        simp only [cond_true]
        exact stepG_lim (yy := fun j st' => execX (run env j).1 ((o, o.ft st) :: acc) l st' (yy j)) (zz := fun _ _ _ => none) (fun _ h' => execX_lim hy h') (fun _ _ h => by cases h) h

theorem execD_lim : ∀ {l : List IOper} {st st' : St}, execD (CI env) l st = some st' → ∃ k, ∀ j, k ≤ j → execD (run env j).1 l st = some st'
  | [], _, _, h => ⟨0, fun _ _ => h⟩
  | o :: l, st, st', h => by
    rw [execD_cons] at h
    obtain ⟨s, h1, h2⟩ := Option.bind_eq_some_iff.1 h
    obtain ⟨k, hk⟩ := stepG_lim (yy := fun _ => some) (zz := fun _ _ _ => none) (fun st h => ⟨0, fun _ _ => h⟩) (fun _ _ h => by cases h) h1
    obtain ⟨k', hk'⟩ := execD_lim h2
    refine ⟨max k k', fun j hj => ?_⟩
    rw [execD_cons]
    have : stp (run env j).1 o st = some s := hk j (Nat.le_trans (Nat.le_max_left k k') hj)
    rw [this]
    exact hk' j (Nat.le_trans (Nat.le_max_right k k') hj)

theorem exec_lim : ∀ (ic : IC) {y : X → St → Option α} {yy : Nat → X → St → Option α} {st : St}, (∀ x st, y x st = some r → ∃ k, ∀ j, k ≤ j → yy j x st = some r) → exec (CI env) (LI env) ic st y = some r →
    ∃ k, ∀ j, k ≤ j → exec (run env j).1 (run env j).2 ic st (yy j) = some r := by
  intro ic
  induction ic with
  | skip => intro y yy st hy h; exact hy _ _ h
  | ret => intro y yy st hy h; exact hy _ _ h
  | exit i => intro y yy st hy h; exact hy _ _ h
  | goto i => intro y yy st hy h; exact hy _ _ h
  | label i ks => intro y yy st hy h; exact hy _ _ h
  | seq a b iha ihb =>
    intro y yy st hy h
    refine iha (yy := fun j x st' => match x with
      | .n => exec (run env j).1 (run env j).2 b st' (yy j)
      | x => yy j x st') (fun x st h => ?_) h
    cases x with
    | n => exact ihb hy h
    | _ => exact hy _ _ h
  | cond o a b iha ihb =>
    intro y yy st hy h
    simp only [exec] at *
    split at h
    · rename_i t _
      cases t
      · exact ihb hy h
      · exact iha hy h
    · cases h
  | block i a iha =>
    intro y yy st hy h
    refine iha (yy := fun j x st' => match x with
      | .ex m => bif Nat.beq m i then yy j .n st' else yy j (.ex m) st'
      | x => yy j x st') (fun x st h => ?_) h
    cases x with
    | ex m =>
      simp only at *
      cases e : Nat.beq m i with
      | true => rw [e] at h; exact hy _ _ h
      | false => rw [e] at h; exact hy _ _ h
    | _ => exact hy _ _ h
  | loop ks a iha =>
    intro y yy st hy h
    simp only [exec] at *
    obtain ⟨p, h1, h2⟩ := Option.bind_eq_some_iff.1 h
    obtain ⟨k, hk⟩ := LI_ex h1
    obtain ⟨k', hk'⟩ := hy _ _ h2
    refine ⟨max k k', fun j hj => ?_⟩
    rw [(run_le (env := env) (Nat.le_trans (Nat.le_max_left k k') hj)).2 _ _ _ _ hk]
    exact hk' j (Nat.le_trans (Nat.le_max_right k k') hj)
  | scope a iha =>
    intro y yy st hy h
    simp only [exec] at *
    obtain ⟨p, h1, h2⟩ := Option.bind_eq_some_iff.1 h
    obtain ⟨k, hk⟩ := LI_ex h1
    obtain ⟨k', hk'⟩ := hy _ _ h2
    refine ⟨max k k', fun j hj => ?_⟩
    rw [(run_le (env := env) (Nat.le_trans (Nat.le_max_left k k') hj)).2 _ _ _ _ hk]
    exact hk' j (Nat.le_trans (Nat.le_max_right k k') hj)
  | kp ks a iha =>
    intro y yy st hy h
    simp only [exec] at *
    obtain ⟨p, h1, h2⟩ := Option.bind_eq_some_iff.1 h
    obtain ⟨k, hk⟩ := LI_ex h1
    obtain ⟨k', hk'⟩ := hy _ _ h2
    refine ⟨max k k', fun j hj => ?_⟩
    rw [(run_le (env := env) (Nat.le_trans (Nat.le_max_left k k') hj)).2 _ _ _ _ hk]
    exact hk' j (Nat.le_trans (Nat.le_max_right k k') hj)
  | reg dr il drop =>
    intro y yy st hy h
    cases dr with
    | true =>
      simp only [exec] at *
      obtain ⟨h1, h⟩ := cond_some h
      simp only [h1, cond_true]
      exact execX_lim (fun st h => hy _ _ h) h
    | false =>
      simp only [exec] at *
      exact execOps_lim (fun st h => hy _ _ h) (fun d st h => hy _ _ h) h

end

/-- A function of the table comes to what its text comes to. -/
theorem CI_fn {f : FuncId} {g : IFn} {ws : List T} {ou : List Ob} {r : Res} (hf : env f = some (.fn g)) (h : execF (CI env) (LI env) g ws ou = some r) : CI env f ws ou = some r := by
  unfold execF at h
  obtain ⟨hl, h⟩ := cond_some h
  obtain ⟨k, hk⟩ := exec_lim (env := env) g.body (fun x st h => ⟨0, fun _ _ => h⟩) h
  refine CI_of (k := k + 1) ?_
  simp only [run, hf]
  unfold execF
  rw [hl]
  exact hk k (Nat.le_refl _)

theorem CI_ora {f : FuncId} {o : List T → List Ob → Option Res} {ws : List T} {ou : List Ob} {r : Res} (hf : env f = some (.ora o)) (h : o ws ou = some r) : CI env f ws ou = some r := by
  refine CI_of (k := 1) ?_
  simp only [run, hf]
  exact h

/-- A loop comes to what its rounds come to. -/
theorem LI_loop {ks : List Nat} {a : IC} {l : Option Nat} {st : St} {p : X × St} (h : exec (CI env) (LI env) a st (fun x st' => match x with
    | .n => LI env (.loop ks a) none (st'.keep ks)
    | x => some (x, st')) = some p) : LI env (.loop ks a) l st = some p := by
  obtain ⟨k, hk⟩ := exec_lim (env := env) a (yy := fun j x st' => match x with
    | .n => (run env j).2 (.loop ks a) none (st'.keep ks)
    | x => some (x, st')) (fun x st h => by
      cases x with
      | n =>
        obtain ⟨k, hk⟩ := LI_ex h
        exact ⟨k, fun j hj => (run_le (env := env) hj).2 _ _ _ _ hk⟩
      | _ => exact ⟨0, fun _ _ => h⟩) h
  refine LI_of (k := k + 1) ?_
  simp only [run, round]
  exact hk k (Nat.le_refl _)

theorem LI_kp {ks : List Nat} {a : IC} {l : Option Nat} {st : St} {p : X × St} (h : exec (CI env) (LI env) a st (fun x st' => some (x, st')) = some p) : LI env (.kp ks a) l st = some p := by
  obtain ⟨k, hk⟩ := exec_lim (env := env) a (yy := fun _ x st' => some (x, st')) (fun x st h => ⟨0, fun _ _ => h⟩) h
  refine LI_of (k := k + 1) ?_
  simp only [run, round]
  exact hk k (Nat.le_refl _)

theorem scope_aux {a b : IC} {st : St} {p : X × St} (h : exec (CI env) (LI env) b st (fun x st' => match x with
    | .go m => match a.behind m with
      | some (ks, _) => LI env (.scope a) (some m) (st'.keep ks)
      | none => some (.go m, st')
    | x => some (x, st')) = some p) : ∃ k, exec (run env k).1 (run env k).2 b st (fun x st' => match x with
    | .go m => match a.behind m with
      | some (ks, _) => (run env k).2 (.scope a) (some m) (st'.keep ks)
      | none => some (.go m, st')
    | x => some (x, st')) = some p := by
  obtain ⟨k, hk⟩ := exec_lim (env := env) b (yy := fun j x st' => match x with
    | .go m => match a.behind m with
      | some (ks, _) => (run env j).2 (.scope a) (some m) (st'.keep ks)
      | none => some (.go m, st')
    | x => some (x, st')) (fun x st h => by
      cases x with
      | go m =>
        simp only at h ⊢
        split at h
        · obtain ⟨k, hk⟩ := LI_ex h
          exact ⟨k, fun j hj => (run_le (env := env) hj).2 _ _ _ _ hk⟩
        · exact ⟨0, fun _ _ => h⟩
      | _ => exact ⟨0, fun _ _ => h⟩) h
  exact ⟨k, hk k (Nat.le_refl _)⟩

theorem LI_scope {a : IC} {st : St} {p : X × St} (h : exec (CI env) (LI env) a st (fun x st' => match x with
    | .go m => match a.behind m with
      | some (ks, _) => LI env (.scope a) (some m) (st'.keep ks)
      | none => some (.go m, st')
    | x => some (x, st')) = some p) : LI env (.scope a) none st = some p := by
  obtain ⟨k, hk⟩ := scope_aux h
  refine LI_of (k := k + 1) ?_
  simp only [run, round]
  exact hk

theorem LI_label {a b : IC} {m : Nat} {ks : List Nat} {st : St} {p : X × St} (hb : a.behind m = some (ks, b)) (h : exec (CI env) (LI env) b st (fun x st' => match x with
    | .go m => match a.behind m with
      | some (ks, _) => LI env (.scope a) (some m) (st'.keep ks)
      | none => some (.go m, st')
    | x => some (x, st')) = some p) : LI env (.scope a) (some m) st = some p := by
  obtain ⟨k, hk⟩ := scope_aux h
  refine LI_of (k := k + 1) ?_
  simp only [run, round, hb]
  exact hk

end

/-- What the limit says is so. -/
theorem CI_sound {P : Program} {w0 : World} {env : FuncId → Option Ent} (hP : P.follows .mixedOrders = true) (he : EnvOK P w0 env) {f : FuncId} {ws : List T} {ou : List Ob} {r : Res} (h : CI env f ws ou = some r) : CallOK P w0 f ws ou r := by
  obtain ⟨k, hk⟩ := CI_ex h
  exact (run_sound hP he k).1 _ _ _ _ hk

end Go.Eng
namespace Go.Eng
open Go.RowKit

section
variable {P : Program} {w0 : World}

/-- Whatever the memory: the result is data. -/
def Plain (v : T) (u : Value) : Prop := ∀ (I : Fz) (κ : Km) (w : World), RT I κ w 0 none v u

theorem plain_s (l : List UInt8) : Plain (.d (.s l)) (.string ⟨l.toArray⟩) := fun I κ w => by simp only [RT, RD]
theorem plain_i (k : IntKind) (n : Int) : Plain (.d (.i k n)) (.int k n) := fun I κ w => by simp only [RT, RD]
theorem plain_b (b : Bool) : Plain (.d (.b b)) (.bool b) := fun I κ w => by simp only [RT, RD]
theorem plain_nili : Plain (.d .nili) .nilIface := fun I κ w => by simp only [RT, RD]

theorem plain_tup2 {a b : T} {x y : Value} (h : Plain a x) (k : Plain b y) : Plain (.tup [a, b]) (.tuple #[x, y]) := fun I κ w => by
  simp only [RT, RTs]
  exact ⟨[x, y], rfl, x, [y], rfl, h I κ w, y, [], rfl, k I κ w, rfl⟩

theorem plain_tup3 {a b c : T} {x y z : Value} (h : Plain a x) (k : Plain b y) (l : Plain c z) : Plain (.tup [a, b, c]) (.tuple #[x, y, z]) := fun I κ w => by
  simp only [RT, RTs]
  exact ⟨[x, y, z], rfl, x, [y, z], rfl, h I κ w, y, [z], rfl, k I κ w, z, [], rfl, l I κ w, rfl⟩

/-- A function of the library, by its contract: the arguments are data, the result is. -/
theorem ora_ok {f : FuncId} {ws : List T} {ou : List Ob} {v : T} (hf : Callable P f)
    (h : ∀ (I : Fz) (κ : Km) (w : World) (us : List Value), Below w0.heap.size w0 w → RTs I κ w 0 ws us → Calls P f ⟨us⟩ w (fun e w' => ∃ u, e = .returned u ∧ Plain v u ∧ Below w.heap.size w w')) : CallOK P w0 f ws ou (.ret v ou) := by
  refine ⟨hf, fun I κ w us hr hk hus => ?_⟩
  refine (h I κ w us hr.below hus).mono fun e w' he => ?_
  obtain ⟨u, rfl, hp, hb⟩ := he
  have hs : Sat I w' := by
    intro b o x e
    have hlt : b < w.heap.size := by
      rcases Nat.lt_or_ge b w.heap.size with h1 | h1
      · exact h1
      · rw [hr.sat.lt h1] at e; simp at e
    rw [← hr.sat b o x e]
    exact hb.cell (p := ⟨b, o, none⟩) hlt
  have g : Gr I w I w' := ⟨hb, fun _ _ => rfl, hs⟩
  refine ⟨I, κ, ⟨hr.grow g, fun z hz => ?_⟩, g.ext hr.sat⟩
  have hn : κ resKey = none := by
    cases e : κ resKey with
    | none => rfl
    | some b => have := hk _ _ e; simp [resKey] at this
  rw [hn]
  exact hp I κ w'

theorem rts1 {I : Fz} {κ : Km} {w : World} {f : Nat} {a : T} {us : List Value} (h : RTs I κ w f [a] us) : ∃ x, us = [x] ∧ RT I κ w f none a x := by
  simp only [RTs] at h
  obtain ⟨x, _, rfl, h1, rfl⟩ := h
  exact ⟨x, rfl, h1⟩

theorem rts2 {I : Fz} {κ : Km} {w : World} {f : Nat} {a b : T} {us : List Value} (h : RTs I κ w f [a, b] us) : ∃ x y, us = [x, y] ∧ RT I κ w f none a x ∧ RT I κ w f none b y := by
  simp only [RTs] at h
  obtain ⟨x, _, rfl, h1, y, _, rfl, h2, rfl⟩ := h
  exact ⟨x, y, rfl, h1, h2⟩

theorem rt_s {I : Fz} {κ : Km} {w : World} {f : Nat} {bo : Option Nat} {l : List UInt8} {x : Value} (h : RT I κ w f bo (.d (.s l)) x) : x = .string ⟨l.toArray⟩ := by simpa only [RT, RD] using h
theorem rt_i {I : Fz} {κ : Km} {w : World} {f : Nat} {bo : Option Nat} {k : IntKind} {n : Int} {x : Value} (h : RT I κ w f bo (.d (.i k n)) x) : x = .int k n := by simpa only [RT, RD] using h

end
end Go.Eng
namespace Go.Eng
open Go.Lib

def idxB (c : UInt8) : List UInt8 → Nat → Option Nat
  | [], _ => none
  | x :: r, n => bif x == c then some n else idxB c r (n + 1)

def idxI (c : UInt8) (l : List UInt8) : Int := match idxB c l 0 with
  | some n => n
  | none => -1

theorem idxB_eq (c : UInt8) : ∀ (l : List UInt8) (n : Nat), (match idxB c l n with
    | some m => (m : Int)
    | none => -1) = if indexByte l c == -1 then -1 else indexByte l c + n
  | [], n => by simp [idxB, indexByte]
  | x :: r, n => by
    have ih := idxB_eq c r (n + 1)
    have hge := indexByte_ge r c
    simp only [idxB, indexByte]
    by_cases h : x == c
    · simp [h]
    · simp only [h, Bool.false_eq_true, if_false, cond_false] at ih ⊢
      rw [ih]
      by_cases h2 : indexByte r c == -1
      · simp [h2]
      · have h3 : indexByte r c ≠ -1 := by simpa using h2
        have h4 : (indexByte r c + 1 == -1) = false := by rw [beq_eq_false_iff_ne]; omega
        simp only [h2, Bool.false_eq_true, if_false, h4]
        omega

theorem idxI_eq (c : UInt8) (l : List UInt8) : idxI c l = indexByte l c := by
  have h := idxB_eq c l 0
  unfold idxI
  rw [h]
  by_cases h2 : indexByte l c == -1
  · have : indexByte l c = -1 := by simpa using h2
    simp [this]
  · simp [h2]

/-- Cut at one byte. -/
def cutB (c : UInt8) : List UInt8 → List UInt8 → Option (List UInt8 × List UInt8)
  | _, [] => none
  | acc, x :: r => bif x == c then some (acc.reverse, r) else cutB c (x :: acc) r

def cut1 (c : UInt8) (l : List UInt8) : List UInt8 × List UInt8 × Bool := match cutB c [] l with
  | some (p, q) => (p, q, true)
  | none => (l, [], false)

theorem cutB_eq (c : UInt8) : ∀ (l acc : List UInt8), cutB c acc l = if 0 ≤ indexByte l c then some (acc.reverse ++ l.take (indexByte l c).toNat, l.drop ((indexByte l c).toNat + 1)) else none
  | [], acc => by simp [cutB, indexByte]
  | x :: r, acc => by
    have ih := cutB_eq c r (x :: acc)
    have hge := indexByte_ge r c
    simp only [cutB, indexByte]
    by_cases h : x == c
    · simp [h]
    · simp only [h, Bool.false_eq_true, if_false, cond_false] at ih ⊢
      rw [ih]
      by_cases h2 : indexByte r c == -1
      · have h3 : indexByte r c = -1 := by simpa using h2
        simp [h3]
      · have h3 : indexByte r c ≠ -1 := by simpa using h2
        have h5 : ¬ (indexByte r c == -1) = true := h2
        simp only [h5, Bool.false_eq_true, if_false]
        rw [if_pos (by omega), if_pos (by omega)]
        have h6 : (indexByte r c + 1).toNat = (indexByte r c).toNat + 1 := by omega
        rw [h6]
        simp

theorem cut1_eq (c : UInt8) (l : List UInt8) : cut1 c l = Lib.cut l [c] := by
  unfold cut1 Lib.cut
  rw [cutB_eq, index_one]
  by_cases h : 0 ≤ indexByte l c
  · rw [if_pos h, if_pos h]
    simp
  · rw [if_neg h, if_neg h]

def digs : Nat → Nat → List UInt8 → List UInt8
  | 0, _, acc => acc
  | f + 1, n, acc => bif Nat.blt n 10 then UInt8.ofNat (48 + n) :: acc else digs f (n / 10) (UInt8.ofNat (48 + n % 10) :: acc)

theorem digs_eq : ∀ (f n : Nat) (acc : List UInt8), n < 10 ^ f → f ≠ 0 → digs f n acc = decDigits n ++ acc
  | 0, _, _, _, h => absurd rfl h
  | f + 1, n, acc, hn, _ => by
    rw [digs, decDigits]
    by_cases h : n < 10
    · have : Nat.blt n 10 = true := nblt_iff.2 h
      rw [this, cond_true, dif_pos h]
      rfl
    · have : Nat.blt n 10 = false := nblt_false h
      rw [this, cond_false, dif_neg h]
      have hf : f ≠ 0 := by
        rintro rfl
        simp at hn
        omega
      rw [digs_eq f (n / 10) _ (by
        rw [Nat.pow_succ] at hn
        exact Nat.div_lt_of_lt_mul (by omega)) hf]
      simp

def fmtI (n : Int) : List UInt8 := match n with
  | .ofNat m => digs 20 m []
  | .negSucc m => 45 :: digs 20 (m + 1) []

theorem fmtI_eq (n : Int) (h0 : -9223372036854775808 ≤ n) (h1 : n ≤ 9223372036854775807) : fmtI n = itoa n := by
  unfold fmtI itoa
  split
  · rename_i m
    rw [if_neg (by simp), digs_eq 20 m [] (by simp at h1; omega) (by decide)]
    simp
  · rename_i m
    rw [if_pos (by exact Int.negSucc_lt_zero m), digs_eq 20 (m + 1) [] (by omega) (by decide)]
    simp [Int.natAbs]

end Go.Eng
namespace Go.Eng

def seqK {α : Type} (C : CallF) (L : LoopF) (b : IC) (k : X → St → Option α) : X → St → Option α := fun x st => match x with
  | .n => exec C L b st k
  | x => k x st

def blockK {α : Type} (id : Nat) (k : X → St → Option α) : X → St → Option α := fun x st => match x with
  | .ex j => bif Nat.beq j id then k .n st else k (.ex j) st
  | x => k x st

def finK (f : IFn) : X → St → Option Res := fun x st => match x with
  | .n | .ret => match f.results with
    | [r] => (match st.res r with
      | some v => some (.ret v st.ou)
      | none => none)
    | l => (match st.ress l with
      | some vs => some (.ret (.tup vs) st.ou)
      | none => none)
  | .pan d => some (.pan d st.ou)
  | _ => none

def IC.body : IC → IC
  | .loop _ a => a
  | .scope a => a
  | .kp _ a => a
  | a => a

/-- A loop's round, by name: what follows it. -/
def loopK (L : LoopF) (ks : List Nat) (a : IC) : X → St → Option (X × St) := fun x st' => match x with
  | .n => L (.loop ks a) none (st'.keep ks)
  | x => some (x, st')

/-- What stands behind a label, by name. -/
def behindC (a : IC) (m : Nat) : IC := match a.behind m with
  | some (_, r) => r
  | none => .skip

/-- What follows a stretch of a scope. -/
def scopeK (L : LoopF) (a : IC) : X → St → Option (X × St) := fun x st' => match x with
  | .go m => match a.behind m with
    | some (ks, _) => L (.scope a) (some m) (st'.keep ks)
    | none => some (.go m, st')
  | x => some (x, st')

theorem LI_enter {env : FuncId → Option Ent} {a : IC} {st : St} {p : X × St} (h : exec (CI env) (LI env) a st (scopeK (LI env) a) = some p) : LI env (.scope a) none st = some p := LI_scope h
theorem LI_stretch {env : FuncId → Option Ent} {a b : IC} {m : Nat} {ks : List Nat} {st : St} {p : X × St} (hb : a.behind m = some (ks, b)) (h : exec (CI env) (LI env) b st (scopeK (LI env) a) = some p) : LI env (.scope a) (some m) st = some p := LI_label hb h

theorem behind_of {a : IC} {m : Nat} {ks : List Nat} (h : (a.behind m).map (·.1) = some ks) : a.behind m = some (ks, behindC a m) := by
  unfold behindC
  cases e : a.behind m with
  | none => rw [e] at h; cases h
  | some p => rw [e] at h; cases h; rfl

/-- A stretch, with what is known of the calls. -/
theorem LI_at {env : FuncId → Option Ent} {C : CallF} (hC : leC C (CI env)) {a : IC} {m : Nat} {ks : List Nat} (hb : (a.behind m).map (·.1) = some ks) {st : St} {p : X × St} (h : exec C (LI env) (behindC a m) st (scopeK (LI env) a) = some p) : LI env (.scope a) (some m) st = some p :=
  LI_stretch (behind_of hb) (exec_mono hC (fun _ _ _ _ h => h) _ (fun _ _ h => h) h)
theorem LI_in {env : FuncId → Option Ent} {C : CallF} (hC : leC C (CI env)) {a : IC} {st : St} {p : X × St} (h : exec C (LI env) a st (scopeK (LI env) a) = some p) : LI env (.scope a) none st = some p :=
  LI_enter (exec_mono hC (fun _ _ _ _ h => h) _ (fun _ _ h => h) h)
theorem LI_lp {env : FuncId → Option Ent} {C : CallF} (hC : leC C (CI env)) {ks : List Nat} {a : IC} {st : St} {p : X × St} (h : exec C (LI env) a st (loopK (LI env) ks a) = some p) : LI env (.loop ks a) none st = some p :=
  LI_loop (exec_mono hC (fun _ _ _ _ h => h) _ (fun _ _ h => h) h)
theorem CI_of' {env : FuncId → Option Ent} {C : CallF} (hC : leC C (CI env)) {f : FuncId} {g : IFn} {ws : List T} {ou : List Ob} {r : Res} (hf : env f = some (.fn g)) (h : execF C (LI env) g ws ou = some r) : CI env f ws ou = some r :=
  CI_fn hf (execF_mono hC (fun _ _ _ _ h => h) h)

theorem LI_round {env : FuncId → Option Ent} {ks : List Nat} {a : IC} {st : St} {p : X × St} (h : exec (CI env) (LI env) a st (loopK (LI env) ks a) = some p) : LI env (.loop ks a) none st = some p := LI_loop h

end Go.Eng
namespace Go.Eng

/-- What a cell looks like. -/
inductive K where
  | i (k : IntKind)
  | b
  | s
  | bs
  | sl (sz : Nat)
  | any

inductive KE where
  | d (k : K)
  | ag (l : List K)

inductive TS where
  | d (k : K)
  | ag (l : List K)
  | own (sz : Nat)
  | ownb
  | ro (l : List K)
  | tup (l : List KE)

section
variable {α : Type}

def asI (k : IntKind) (d : D) (y : Int → Option α) : Option α := match d with
  | .i k' n => if k' = k then y n else none
  | _ => none
def asB (d : D) (y : Bool → Option α) : Option α := match d with
  | .b x => y x
  | _ => none
def asS (d : D) (y : List UInt8 → Option α) : Option α := match d with
  | .s x => y x
  | _ => none
def asBs (d : D) (y : List UInt8 → Option α) : Option α := match d with
  | .bs x => y x
  | _ => none
def asSl (sz : Nat) (d : D) (y : List (List D) → Option α) : Option α := match d with
  | .sl sz' x => bif Nat.beq sz' sz then y x else none
  | _ => none
def asAg (d : D) (y : List D → Option α) : Option α := match d with
  | .ag l => y l
  | _ => none
def asCons {β : Type} (l : List β) (y : β → List β → Option α) : Option α := match l with
  | x :: r => y x r
  | [] => none
def asNil {β : Type} (l : List β) (y : Option α) : Option α := match l with
  | [] => y
  | _ :: _ => none
def asD (v : T) (y : D → Option α) : Option α := match v with
  | .d x => y x
  | _ => none
def asOwn (sz : Nat) (v : T) (y : List (List D) → Option α) : Option α := match v with
  | .own sz' x => bif Nat.beq sz' sz then y x else none
  | _ => none
def asOwnb (v : T) (y : List UInt8 → Option α) : Option α := match v with
  | .ownb x => y x
  | _ => none
def asRo (v : T) (y : List D → Nat → Option α) : Option α := match v with
  | .ro r o => y r o
  | _ => none
def asTup (v : T) (y : List T → Option α) : Option α := match v with
  | .tup l => y l
  | _ => none

def viewK (k : K) (d : D) (y : D → Option α) : Option α := match k with
  | .i k => asI k d fun n => y (.i k n)
  | .b => asB d fun x => y (.b x)
  | .s => asS d fun x => y (.s x)
  | .bs => asBs d fun x => y (.bs x)
  | .sl sz => asSl sz d fun x => y (.sl sz x)
  | .any => y d
def viewKs : List K → List D → (List D → Option α) → Option α
  | [], l, y => asNil l (y [])
  | k :: ks, l, y => asCons l fun d r => viewK k d fun d' => viewKs ks r fun r' => y (d' :: r')
def viewE (k : KE) (v : T) (y : T → Option α) : Option α := match k with
  | .d k => asD v fun d => viewK k d fun d' => y (.d d')
  | .ag l => asD v fun d => asAg d fun ds => viewKs l ds fun ds' => y (.d (.ag ds'))
def viewEs : List KE → List T → (List T → Option α) → Option α
  | [], l, y => asNil l (y [])
  | k :: ks, l, y => asCons l fun d r => viewE k d fun d' => viewEs ks r fun r' => y (d' :: r')
def viewT (s : TS) (v : T) (y : T → Option α) : Option α := match s with
  | .d k => asD v fun d => viewK k d fun d' => y (.d d')
  | .ag l => asD v fun d => asAg d fun ds => viewKs l ds fun ds' => y (.d (.ag ds'))
  | .own sz => asOwn sz v fun x => y (.own sz x)
  | .ownb => asOwnb v fun x => y (.ownb x)
  | .ro l => asRo v fun r o => viewKs l r fun r' => y (.ro r' o)
  | .tup l => asTup v fun l' => viewEs l l' fun l'' => y (.tup l'')

variable {r : α}

theorem viewK_id {k : K} {d : D} {y : D → Option α} (h : viewK k d y = some r) : y d = some r := by
  cases k <;> simp only [viewK] at h
  · unfold asI at h
    split at h
    · split at h
      · rename_i e; subst e; exact h
      · cases h
    · cases h
  · unfold asB at h; split at h <;> first | exact h | cases h
  · unfold asS at h; split at h <;> first | exact h | cases h
  · unfold asBs at h; split at h <;> first | exact h | cases h
  · unfold asSl at h
    split at h
    · rename_i sz' x
      cases e : Nat.beq sz' _ with
      | true => rw [e] at h; rw [Nat.eq_of_beq_eq_true e]; exact h
      | false => rw [e] at h; cases h
    · cases h
  · exact h

theorem viewKs_id : ∀ {ks : List K} {l : List D} {y : List D → Option α}, viewKs ks l y = some r → y l = some r
  | [], l, y, h => by
    simp only [viewKs, asNil] at h
    split at h
    · exact h
    · cases h
  | k :: ks, l, y, h => by
    simp only [viewKs, asCons] at h
    split at h
    · exact viewKs_id (y := fun r' => y (_ :: r')) (viewK_id h)
    · cases h

theorem viewE_id {k : KE} {v : T} {y : T → Option α} (h : viewE k v y = some r) : y v = some r := by
  cases k <;> simp only [viewE, asD, asAg] at h
  · split at h
    · exact viewK_id h
    · cases h
  · split at h
    · split at h
      · exact viewKs_id h
      · cases h
    · cases h

theorem viewEs_id : ∀ {ks : List KE} {l : List T} {y : List T → Option α}, viewEs ks l y = some r → y l = some r
  | [], l, y, h => by
    simp only [viewEs, asNil] at h
    split at h
    · exact h
    · cases h
  | k :: ks, l, y, h => by
    simp only [viewEs, asCons] at h
    split at h
    · exact viewEs_id (y := fun r' => y (_ :: r')) (viewE_id h)
    · cases h

theorem viewT_id {s : TS} {v : T} {y : T → Option α} (h : viewT s v y = some r) : y v = some r := by
  cases s <;> simp only [viewT] at h
  · exact viewE_id (k := .d _) (by simp only [viewE]; exact h)
  · exact viewE_id (k := .ag _) (by simp only [viewE]; exact h)
  · unfold asOwn at h
    split at h
    · rename_i sz' x
      cases e : Nat.beq sz' _ with
      | true => rw [e] at h; rw [Nat.eq_of_beq_eq_true e]; exact h
      | false => rw [e] at h; cases h
    · cases h
  · unfold asOwnb at h; split at h <;> first | exact h | cases h
  · unfold asRo at h
    split at h
    · exact viewKs_id h
    · cases h
  · unfold asTup at h
    split at h
    · exact viewEs_id h
    · cases h

abbrev Vw := List (Nat × TS)

def arep {β : Type} (n : Nat) (v : β) : List (Nat × β) → List (Nat × β)
  | [] => []
  | (k, x) :: r => bif Nat.beq k n then (k, v) :: r else (k, x) :: arep n v r

theorem arep_self {β : Type} {n : Nat} {v : β} : ∀ {l : List (Nat × β)}, aget l n = some v → arep n v l = l
  | [], h => by cases h
  | (k, x) :: l, h => by
    simp only [aget] at h
    simp only [arep]
    cases e : Nat.beq k n with
    | true => rw [e] at h; simp only [cond_true, Option.some.injEq] at h; rw [h]; rfl
    | false => rw [e] at h; simp only [cond_false] at h; rw [arep_self h]; rfl

/-- After an operation: what it laid into its slot. -/
def viewAt (V : Vw) (d : Option Nat) (st : St) (y : St → Option α) : Option α := match d with
  | none => y st
  | some n => match aget V n with
    | none => y st
    | some s => match aget st.tm n with
      | some v => viewT s v fun v' => y { st with tm := arep n v' st.tm }
      | none => none

theorem viewAt_id {V : Vw} {d : Option Nat} {st : St} {y : St → Option α} (h : viewAt V d st y = some r) : y st = some r := by
  unfold viewAt at h
  split at h
  · exact h
  · split at h
    · exact h
    · split at h
      · rename_i v hv
        have := viewT_id h
        rw [arep_self hv] at this
        exact this
      · cases h

def stepGV (V : Vw) (C : CallF) (o : IOper) (st : St) (y : St → Option α) (z : D → St → Option α) : Option α := match o.g with
  | none => step C o st (fun s => viewAt V o.dst s y) z
  | some (t, want) => match aget st.tm t with
    | some (.d (.b x)) => bif x then
        (bif want then step C o { st with tm := aset t (.d (.b true)) st.tm } (fun s => viewAt V o.dst s y) z else y (St.put { st with tm := aset t (.d (.b true)) st.tm } o.dst (.tup [])))
      else
        (bif want then y (St.put { st with tm := aset t (.d (.b false)) st.tm } o.dst (.tup [])) else step C o { st with tm := aset t (.d (.b false)) st.tm } (fun s => viewAt V o.dst s y) z)
    | some (.tup []) => y (st.put o.dst (.tup []))
    | _ => none

theorem stepGV_stepG {V : Vw} {C : CallF} {o : IOper} {st : St} {y y' : St → Option α} {z z' : D → St → Option α} (hy : ∀ st, y st = some r → y' st = some r) (hz : ∀ d st, z d st = some r → z' d st = some r)
    (h : stepGV V C o st y z = some r) : stepG C o st y' z' = some r := by
  have st1 : ∀ {s : St}, step C o s (fun s => viewAt V o.dst s y) z = some r → step C o s y' z' = some r := fun h => step_mono (fun _ _ _ _ h => h) (fun _ h => hy _ (viewAt_id h)) hz h
  unfold stepGV at h
  unfold stepG
  split at h
  · rename_i hg; rw [hg]; exact st1 h
  · rename_i t want hg
    rw [hg]
    dsimp only
    split at h
    · rename_i x hx
      simp only [hx]
      cases x <;> cases want <;> simp only [cond_true, cond_false] at * <;> first | exact st1 h | exact hy _ h
    · rename_i hx
      simp only [hx]
      exact hy _ h
    · cases h

def execOpsV (V : Vw) (C : CallF) : List IOper → St → (St → Option α) → (D → St → Option α) → Option α
  | [], st, y, _ => y st
  | o :: r, st, y, z => stepGV V C o st (fun st' => execOpsV V C r st' y z) z

theorem execOpsV_exec {V : Vw} {C : CallF} {y y' : St → Option α} {z z' : D → St → Option α} (hy : ∀ st, y st = some r → y' st = some r) (hz : ∀ d st, z d st = some r → z' d st = some r) :
    ∀ {l : List IOper} {st : St}, execOpsV V C l st y z = some r → execOps C l st y' z' = some r
  | [], st, h => hy _ h
  | o :: l, st, h => stepGV_stepG (fun st' h' => execOpsV_exec hy hz h') hz h

def execXV (V : Vw) (C : CallF) : List (IOper × Ft) → List IOper → St → (St → Option α) → Option α
  | _, [], st, y => y st
  | acc, o :: r, st, y => bif (o.ft st).empty then stepGV V C o st (fun st' => execXV V C acc r st' y) (fun _ _ => none) else
      bif acc.all (fun p => depO p.1 o || p.2.apart (o.ft st)) then stepGV V C o st (fun st' => execXV V C ((o, o.ft st) :: acc) r st' y) (fun _ _ => none) else none

theorem execXV_exec {V : Vw} {C : CallF} {y y' : St → Option α} (hy : ∀ st, y st = some r → y' st = some r) :
    ∀ {l : List IOper} {acc : List (IOper × Ft)} {st : St}, execXV V C acc l st y = some r → execX C acc l st y' = some r
  | [], _, st, h => hy _ h
  | o :: l, acc, st, h => by
    simp only [execX, execXV] at *
    cases he : (o.ft st).empty with
    | true =>
      rw [he, cond_true] at h
      exact stepGV_stepG (fun st' h' => execXV_exec hy h') (fun _ _ h => by cases h) h
    | false =>
      rw [he, cond_false] at h
      cases ha : acc.all (fun p => depO p.1 o || p.2.apart (o.ft st)) with
      | false => rw [ha] at h; cases h
      | true =>
        rw [ha, cond_true] at h
        exact stepGV_stepG (fun st' h' => execXV_exec hy h') (fun _ _ h => by cases h) h

def execV (V : Vw) (C : CallF) (L : LoopF) : IC → St → (X → St → Option α) → Option α
  | .skip, st, y => y .n st
  | .ret, st, y => y .ret st
  | .exit id, st, y => y (.ex id) st
  | .goto l, st, y => y (.go l) st
  | .label _ ks, st, y => y .n (st.keep ks)
  | .seq a b, st, y => execV V C L a st fun x st' => match x with
    | .n => execV V C L b st' y
    | x => y x st'
  | .cond c a b, st, y => match st.opd c with
    | some (.d (.b x)) => bif x then execV V C L a st y else execV V C L b st y
    | _ => none
  | .block id a, st, y => execV V C L a st fun x st' => match x with
    | .ex j => bif Nat.beq j id then y .n st' else y (.ex j) st'
    | x => y x st'
  | .loop ks a, st, y => (L (.loop ks a) none (st.keep ks)).bind fun p => y p.1 p.2
  | .scope a, st, y => (L (.scope a) none st).bind fun p => y p.1 p.2
  | .kp ks a, st, y => (L (.kp ks a) none (st.keep ks)).bind fun p => y p.1 p.2
  | .reg false ops dr, st, y => execOpsV V C ops st (fun st' => y .n (st'.drop dr)) (fun d st' => y (.pan d) st')
  | .reg true ops dr, st, y => bif st.free (ops.flatMap IOper.frees) then execXV V C [] ops st (fun st' => y .n (st'.drop dr)) else none

theorem execV_exec {V : Vw} {C : CallF} {L : LoopF} : ∀ (ic : IC) {y y' : X → St → Option α} {st : St}, (∀ x st, y x st = some r → y' x st = some r) → execV V C L ic st y = some r → exec C L ic st y' = some r := by
  intro ic
  induction ic with
  | skip => intro y y' st hy h; exact hy _ _ h
  | ret => intro y y' st hy h; exact hy _ _ h
  | exit i => intro y y' st hy h; exact hy _ _ h
  | goto i => intro y y' st hy h; exact hy _ _ h
  | label i ks => intro y y' st hy h; exact hy _ _ h
  | seq a b iha ihb =>
    intro y y' st hy h
    refine iha (fun x st h => ?_) h
    cases x with
    | n => exact ihb hy h
    | _ => exact hy _ _ h
  | cond o a b iha ihb =>
    intro y y' st hy h
    simp only [execV, exec] at *
    split at h
    · rename_i t ht
      rw [ht]
      cases t
      · exact ihb hy h
      · exact iha hy h
    · cases h
  | block i a iha =>
    intro y y' st hy h
    refine iha (fun x st h => ?_) h
    cases x with
    | ex j =>
      simp only at *
      cases e : Nat.beq j i with
      | true => rw [e] at h; exact hy _ _ h
      | false => rw [e] at h; exact hy _ _ h
    | _ => exact hy _ _ h
  | loop ks a iha =>
    intro y y' st hy h
    simp only [execV, exec] at *
    obtain ⟨p, h1, h2⟩ := Option.bind_eq_some_iff.1 h
    rw [h1]
    exact hy _ _ h2
  | scope a iha =>
    intro y y' st hy h
    simp only [execV, exec] at *
    obtain ⟨p, h1, h2⟩ := Option.bind_eq_some_iff.1 h
    rw [h1]
    exact hy _ _ h2
  | kp ks a iha =>
    intro y y' st hy h
    simp only [execV, exec] at *
    obtain ⟨p, h1, h2⟩ := Option.bind_eq_some_iff.1 h
    rw [h1]
    exact hy _ _ h2
  | reg dr il drop =>
    intro y y' st hy h
    cases dr with
    | true =>
      simp only [execV, exec] at *
      obtain ⟨h1, h⟩ := cond_some h
      rw [h1, cond_true]
      exact execXV_exec (fun st h => hy _ _ h) h
    | false =>
      simp only [execV, exec] at *
      exact execOpsV_exec (fun st h => hy _ _ h) (fun d st h => hy _ _ h) h

/-! What follows, by name. -/
def seqV (V : Vw) (C : CallF) (L : LoopF) (b : IC) (k : X → St → Option α) : X → St → Option α := fun x st => match x with
  | .n => execV V C L b st k
  | x => k x st

def unK (k : X → St → Option α) (p : X × St) : Option α := k p.1 p.2

/-- A loop's round: what follows it, up to the end. -/
def rndV (L : LoopF) (ks : List Nat) (a : IC) (k : X → St → Option α) : X → St → Option α := fun x st' => match x with
  | .n => (L (.loop ks a) none (st'.keep ks)).bind (unK k)
  | x => k x st'

/-- A stretch of a scope: what follows it. -/
def scpV (L : LoopF) (a : IC) (k : X → St → Option α) : X → St → Option α := fun x st' => match x with
  | .go m => match a.behind m with
    | some (ks, _) => (L (.scope a) (some m) (st'.keep ks)).bind (unK k)
    | none => k (.go m) st'
  | x => k x st'

end

def execFV (V : Vw) (C : CallF) (L : LoopF) (f : IFn) (args : List T) (ou : List Ob) : Option Res :=
  bif Nat.ble args.length f.ntmps then execV V C L f.body { tm := bound 0 args, ob := [], ou } (finK f) else none

section
variable {α : Type} {r : α}

/-! A run with what follows it laid behind. -/
theorem call_bind {β : Type} {C : CallF} (st : St) (f : FuncId) (vs : List T) (y : T → St → Option β) (z : D → St → Option β) (k : β → Option α) :
    st.call C f vs (fun v s => (y v s).bind k) (fun d s => (z d s).bind k) = (st.call C f vs y z).bind k := by
  unfold St.call
  split
  · rfl
  · rename_i ws _
    cases allD ws with
    | true =>
      simp only [cond_true]
      cases C f ws [] with
      | none => rfl
      | some res =>
        simp only [Option.bind_some]
        cases res with
        | ret v ou =>
          simp only
          cases unsh v <;> rfl
        | pan d ou => rfl
    | false =>
      simp only [cond_false]
      cases C f ws (st.ob :: st.ou) with
      | none => rfl
      | some res =>
        simp only [Option.bind_some]
        cases res with
        | ret v ou =>
          cases ou with
          | nil => rfl
          | cons ob ou =>
            simp only
            cases unsh v <;> rfl
        | pan d ou =>
          cases ou <;> rfl

theorem step_bind {β : Type} {C : CallF} (o : IOper) (st : St) (y : St → Option β) (z : D → St → Option β) (k : β → Option α) :
    step C o st (fun s => (y s).bind k) (fun d s => (z d s).bind k) = (step C o st y z).bind k := by
  cases h : o.op.isCall with
  | false =>
    rw [step_nat (C' := C) h, step_nat (C' := C) h st y z, Option.bind_assoc]
  | true =>
    obtain ⟨d, op, g⟩ := o
    cases op with
    | call f l =>
      simp only [step]
      split
      · exact call_bind st f _ (fun v s => y (s.put d v)) z k
      · rfl
    | callv x l =>
      simp only [step]
      split
      · exact call_bind st _ _ (fun v s => y (s.put d v)) z k
      · rfl
    | callP f l =>
      simp only [step]
      split
      · split
        · rename_i ws _
          cases allD ws with
          | true =>
            simp only [cond_true]
            cases C f ws [] with
            | none => rfl
            | some res =>
              simp only [Option.bind_some]
              cases res with
              | ret v ou =>
                simp only
                cases unshP v <;> rfl
              | pan d ou => rfl
          | false => rfl
        · rfl
      · rfl
    | _ => cases h

theorem stepG_bind {β : Type} {C : CallF} (o : IOper) (st : St) (y : St → Option β) (z : D → St → Option β) (k : β → Option α) :
    stepG C o st (fun s => (y s).bind k) (fun d s => (z d s).bind k) = (stepG C o st y z).bind k := by
  unfold stepG
  split
  · exact step_bind o st y z k
  · split
    · rename_i x hx
      cases x <;> cases ‹Bool› <;> simp only [cond_true, cond_false] <;> first | exact step_bind o _ y z k | rfl
    · rfl
    · rfl

theorem execOps_bind {β : Type} {C : CallF} (k : β → Option α) : ∀ (l : List IOper) (st : St) (y : St → Option β) (z : D → St → Option β), execOps C l st (fun s => (y s).bind k) (fun d s => (z d s).bind k) = (execOps C l st y z).bind k
  | [], st, y, z => rfl
  | o :: l, st, y, z => by
    simp only [execOps]
    rw [← stepG_bind]
    congr 1
    funext s
    exact execOps_bind k l s y z

theorem execX_bind {β : Type} {C : CallF} (k : β → Option α) : ∀ (l : List IOper) (acc : List (IOper × Ft)) (st : St) (y : St → Option β), execX C acc l st (fun s => (y s).bind k) = (execX C acc l st y).bind k
  | [], _, st, y => rfl
  | o :: l, acc, st, y => by
    simp only [execX]
    have e : ∀ acc', stepG C o st (fun s => execX C acc' l s fun s => (y s).bind k) (fun _ _ => none) = (stepG C o st (fun s => execX C acc' l s y) fun _ _ => none).bind k := fun acc' => by
      rw [← stepG_bind]
      congr 1
      funext s
      exact execX_bind k l acc' s y
    cases (o.ft st).empty with
    | true => exact e acc
    | false =>
      simp only [cond_false]
      cases acc.all (fun p => depO p.1 o || p.2.apart (o.ft st)) with
      | true => exact e _
      | false => rfl

theorem exec_bind {β : Type} {C : CallF} {L : LoopF} (k : β → Option α) : ∀ (ic : IC) (st : St) (y : X → St → Option β), exec C L ic st (fun x s => (y x s).bind k) = (exec C L ic st y).bind k := by
  intro ic
  induction ic with
  | skip => intro st y; rfl
  | ret => intro st y; rfl
  | exit i => intro st y; rfl
  | goto i => intro st y; rfl
  | label i ks => intro st y; rfl
  | seq a b iha ihb =>
    intro st y
    simp only [exec]
    rw [← iha]
    congr 1
    funext x s
    cases x with
    | n => exact ihb s y
    | _ => rfl
  | cond o a b iha ihb =>
    intro st y
    simp only [exec]
    split
    · rename_i t _
      cases t
      · exact ihb st y
      · exact iha st y
    · rfl
  | block i a iha =>
    intro st y
    simp only [exec]
    rw [← iha]
    congr 1
    funext x s
    cases x with
    | ex j => simp only; cases Nat.beq j i <;> rfl
    | _ => rfl
  | loop ks a iha => intro st y; simp only [exec, Option.bind_assoc]
  | scope a iha => intro st y; simp only [exec, Option.bind_assoc]
  | kp ks a iha => intro st y; simp only [exec, Option.bind_assoc]
  | reg dr il drop =>
    intro st y
    cases dr with
    | true =>
      simp only [exec]
      cases st.free (il.flatMap IOper.frees) with
      | true => exact execX_bind k il [] st (fun st' => y .n (st'.drop drop))
      | false => rfl
    | false =>
      simp only [exec]
      rw [← execOps_bind]

end

section
variable {env : FuncId → Option Ent} {α : Type} {r : α}

theorem CI_V {V : Vw} {f : FuncId} {g : IFn} {ws : List T} {ou : List Ob} {r : Res} (hf : env f = some (.fn g)) (h : execFV V (CI env) (LI env) g ws ou = some r) : CI env f ws ou = some r := by
  refine CI_fn hf ?_
  unfold execFV at h
  unfold execF
  cases e : Nat.ble ws.length g.ntmps with
  | false => rw [e] at h; cases h
  | true =>
    rw [e] at h
    exact execV_exec g.body (fun _ _ h => h) h

/-- A loop's round, with what follows the loop. -/
theorem loop_V {V : Vw} {ks : List Nat} {a : IC} {st : St} {k : X → St → Option α} (h : execV V (CI env) (LI env) a st (rndV (LI env) ks a k) = some r) : (LI env (.loop ks a) none st).bind (unK k) = some r := by
  have h1 := execV_exec a (y' := fun x s => (loopK (LI env) ks a x s).bind (unK k)) (fun x s h => by
    cases x <;> exact h) h
  rw [exec_bind] at h1
  obtain ⟨p, h2, h3⟩ := Option.bind_eq_some_iff.1 h1
  rw [LI_round h2]
  exact h3

theorem kp_V {V : Vw} {ks : List Nat} {a : IC} {st : St} {k : X → St → Option α} (h : execV V (CI env) (LI env) a st k = some r) : (LI env (.kp ks a) none st).bind (unK k) = some r := by
  have h1 := execV_exec a (y' := fun x s => (some (x, s) : Option (X × St)).bind (unK k)) (fun x s h => h) h
  rw [exec_bind] at h1
  obtain ⟨p, h2, h3⟩ := Option.bind_eq_some_iff.1 h1
  rw [LI_kp h2]
  exact h3

theorem scp_aux {V : Vw} {a b : IC} {st : St} {k : X → St → Option α} (h : execV V (CI env) (LI env) b st (scpV (LI env) a k) = some r) : ∃ p, exec (CI env) (LI env) b st (scopeK (LI env) a) = some p ∧ unK k p = some r := by
  have h1 := execV_exec b (y' := fun x s => (scopeK (LI env) a x s).bind (unK k)) (fun x s h => by
    cases x with
    | go m =>
      simp only [scpV, scopeK] at h ⊢
      split at h <;> simp_all [unK]
    | _ => exact h) h
  rw [exec_bind] at h1
  exact Option.bind_eq_some_iff.1 h1

theorem scope_V {V : Vw} {a : IC} {st : St} {k : X → St → Option α} (h : execV V (CI env) (LI env) a st (scpV (LI env) a k) = some r) : (LI env (.scope a) none st).bind (unK k) = some r := by
  obtain ⟨p, h2, h3⟩ := scp_aux h
  rw [LI_enter h2]
  exact h3

theorem label_V {V : Vw} {a : IC} {m : Nat} {ks : List Nat} {st : St} {k : X → St → Option α} (hb : (a.behind m).map (·.1) = some ks) (h : execV V (CI env) (LI env) (behindC a m) st (scpV (LI env) a k) = some r) : (LI env (.scope a) (some m) st).bind (unK k) = some r := by
  obtain ⟨p, h2, h3⟩ := scp_aux h
  rw [LI_stretch (behind_of hb) h2]
  exact h3

end
end Go.Eng
namespace Go.Eng

theorem wr64 {n : Int} (h0 : -9223372036854775808 ≤ n) (h1 : n ≤ 9223372036854775807) : IntKind.wrap .i64 n = n := by rw [IntKind.wrap_i64]; omega
theorem wru64 {n : Int} (h0 : 0 ≤ n) (h1 : n ≤ 18446744073709551615) : IntKind.wrap .u64 n = n := by
  have : IntKind.u64.wrap n = n % 18446744073709551616 := by simp [IntKind.wrap, IntKind.bits, IntKind.signed]
  rw [this]; omega
theorem wru8 {n : Int} (h0 : 0 ≤ n) (h1 : n < 256) : IntKind.wrap .u8 n = n := by
  have : IntKind.u8.wrap n = n % 256 := by simp [IntKind.wrap, IntKind.bits, IntKind.signed]
  rw [this]; omega
theorem wru64_eq (n : Int) : IntKind.wrap .u64 n = n % 18446744073709551616 := by simp [IntKind.wrap, IntKind.bits, IntKind.signed]
theorem wru8_eq (n : Int) : IntKind.wrap .u8 n = n % 256 := by simp [IntKind.wrap, IntKind.bits, IntKind.signed]

theorem nth_at {α β : Type} {l : List β} {n : Int} {i : Nat} {c : β} (hn : n = (i : Int)) (h : l[i]? = some c) (y : β → Option α) : nth l n y = y c := by
  subst hn
  unfold nth
  rw [if_pos (by omega), Int.toNat_natCast, h]
  rfl

theorem nth_ok {α β : Type} {l : List β} {n : Int} (h0 : 0 ≤ n) (h1 : n < l.length) : ∃ c, l[n.toNat]? = some c ∧ ∀ y : β → Option α, nth l n y = y c := by
  have hl : n.toNat < l.length := by omega
  exact ⟨l[n.toNat], List.getElem?_eq_getElem hl, fun y => nth_at (i := n.toNat) (by omega) (List.getElem?_eq_getElem hl) y⟩

theorem nth_zero {α β : Type} (c : β) (l : List β) (y : β → Option α) : nth (c :: l) 0 y = y c := nth_at (i := 0) rfl rfl y

theorem nth_one {α β : Type} (c d : β) (l : List β) (y : β → Option α) : nth (c :: d :: l) 1 y = y d := nth_at (i := 1) rfl rfl y

theorem u8_lt (c : UInt8) : (UInt8.toNat c : Int) < 256 := by have := c.toNat_lt; omega
theorem u8_ge (c : UInt8) : 0 ≤ (UInt8.toNat c : Int) := by omega

theorem bytes_nil : bytesOfDs [] = some [] := rfl
theorem bytes_cons {n : Int} {r : List T} {l : List UInt8} (h0 : 0 ≤ n) (h1 : n < 256) (h : bytesOfDs r = some l) : bytesOfDs (.d (.i .u8 n) :: r) = some (UInt8.ofNat n.toNat :: l) := by
  simp only [bytesOfDs, h, Option.map_some]
  rw [if_pos ⟨h0, h1⟩]
theorem bytes_one (c : UInt8) : bytesOfDs [.d (.i .u8 (UInt8.toNat c : Int))] = some [c] := by
  rw [bytes_cons (u8_ge c) (u8_lt c) rfl]
  simp
theorem opt_mk {α β : Type} (x : β) (y : β → Option α) : opt (some x) y = y x := rfl

/-- An error value, as the library's functions tell it. -/
def ErrD (d : D) : Prop := d = .nili ∨ ∃ n : Int, d = .ifc 67 (.i .i64 n)

theorem pIeq_nili {α : Type} (neg : Bool) (y : T → Option α) : pIeq neg (.d .nili) y = y (.d (.b (!neg))) := rfl
theorem pIeq_err {α : Type} (neg : Bool) (y : T → Option α) : pIeq neg (.d .err) y = y (.d (.b neg)) := rfl
theorem pIeq_ifc {α : Type} (neg : Bool) (t : TypeId) (d : D) (y : T → Option α) : pIeq neg (.d (.ifc t d)) y = y (.d (.b neg)) := rfl
theorem asD_d {α : Type} (d : D) (y : D → Option α) : asD (.d d) y = y d := rfl
theorem asB_b {α : Type} (b : Bool) (y : Bool → Option α) : asB (.b b) y = y b := rfl
theorem asI_i {α : Type} (k : IntKind) (n : Int) (y : Int → Option α) : asI k (.i k n) y = y n := by simp [asI]
theorem asS_s {α : Type} (s : List UInt8) (y : List UInt8 → Option α) : asS (.s s) y = y s := rfl

theorem drop_cons_of {β : Type} {l : List β} {i : Nat} {c : β} (h : l[i]? = some c) : l.drop i = c :: l.drop (i + 1) := by
  have h1 := (List.getElem?_eq_some_iff.1 h).1
  rw [List.drop_eq_getElem_cons h1, (List.getElem?_eq_some_iff.1 h).2]

end Go.Eng
