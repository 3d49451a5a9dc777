/-
  Layer 5: the library's functions as entries of the table.
-/
import Derived.Test.YtjgoahlkodbemaaDoorEd
import Derived.KernelRfl
import Derived.Test.YtjgoahlkodbemaaDoorShelf2
import Derived.Lib.AppendIntMem
import Derived.WalkSmall
import Derived.Test.YtjgoahlkodbemaaDoorErr2
import Derived.Test.YtjgoahlkodbemaaDoorForms2
namespace Go.Eng.L05
open Go.Eng Go.Proofs Go.RowKit

/-- What the row's first memory holds. -/
structure Ground (w0 : World) : Prop where
  maxLen : ∃ m, w0.cell? ⟨0, 0, none⟩ = some (.int .i64 m)
  tab : Lib.TabIs Tryd.prog w0 "internal/strconv.uint64pow10" .u64 Lib.pow10Tab
  lo : 2 < w0.heap.size
  syn : ∃ t u, w0.cell? ⟨1, 0, none⟩ = some (.iface t u)
  rng : ∃ t u, w0.cell? ⟨2, 0, none⟩ = some (.iface t u)

def ora16 : List T → List Ob → Option Res := fun a ou => match a with
  | [.d (.s x), .d (.i .u8 c)] => some (.ret (.d (.i .i64 (idxI (UInt8.ofNat c.toNat) x))) ou)
  | _ => none

def ora17 : List T → List Ob → Option Res := fun a ou => match a with
  | [.d (.s x), .d (.s [c])] => some (.ret (.d (.b (decide (0 ≤ idxI c x)))) ou)
  | _ => none

def ora18 : List T → List Ob → Option Res := fun a ou => match a with
  | [.d (.s x), .d (.s [c])] => bif Nat.blt x.length 4294967281 then some (.ret (.tup [.d (.s (cut1 c x).1), .d (.s (cut1 c x).2.1), .d (.b (cut1 c x).2.2)]) ou) else none
  | _ => none

def ora35 : List T → List Ob → Option Res := fun a ou => match a with
  | [.d (.i .i64 n), .d (.i .i64 b)] => if b = 10 ∧ -9223372036854775808 ≤ n ∧ n ≤ 9223372036854775807 then some (.ret (.d (.s (fmtI n))) ou) else none
  | _ => none

def ora33 : List T → List Ob → Option Res := fun a ou => match a with
  | [.d (.s _), .d (.s x), .d (.i .i64 _), .d (.i .i64 _), .d (.ifc t (.i .i64 k))] => if t = 67 ∧ (k = 1 ∨ k = 2) ∧ x.length ≤ 281474976710656 then some (.ret (.d .err) ou) else none
  | _ => none

section
variable {w0 : World} {ws : List T} {ou : List Ob} {res : Res}

theorem c16 : Callable Tryd.prog 16 := ⟨Tryd.f16, _, Tryd.func16, by kernel_rfl, rfl⟩
theorem c17 : Callable Tryd.prog 17 := ⟨Tryd.f17, _, Tryd.func17, by kernel_rfl, rfl⟩
theorem c18 : Callable Tryd.prog 18 := ⟨Tryd.f18, _, Tryd.func18, by kernel_rfl, rfl⟩
theorem c35 : Callable Tryd.prog 35 := ⟨Tryd.f35, _, Tryd.func35, by kernel_rfl, rfl⟩

theorem ok16 (h : ora16 ws ou = some res) : CallOK Tryd.prog w0 16 ws ou res := by
  unfold ora16 at h
  split at h
  · rename_i x c
    cases h
    refine ora_ok c16 fun I κ w us hb hus => ?_
    obtain ⟨a, b, rfl, ha, hb'⟩ := rts2 hus
    obtain rfl := rt_s ha
    obtain rfl := rt_i hb'
    refine (Tryd.strings_IndexByte ⟨x.toArray⟩ c w).mono fun e w' he => ?_
    obtain ⟨rfl, rfl⟩ := he
    exact ⟨_, rfl, by rw [idxI_eq]; exact plain_i _ _, Below.refl _ _⟩
  · cases h

theorem ok17 (h : ora17 ws ou = some res) : CallOK Tryd.prog w0 17 ws ou res := by
  unfold ora17 at h
  split at h
  · rename_i x c
    cases h
    refine ora_ok c17 fun I κ w us hb hus => ?_
    obtain ⟨a, b, rfl, ha, hb'⟩ := rts2 hus
    obtain rfl := rt_s ha
    obtain rfl := rt_s hb'
    refine (Tryd.strings_Contains_one ⟨x.toArray⟩ c w).mono fun e w' he => ?_
    obtain ⟨rfl, rfl⟩ := he
    exact ⟨_, rfl, by rw [idxI_eq]; exact plain_b _, Below.refl _ _⟩
  · cases h

theorem ok18 (g : Ground w0) (h : ora18 ws ou = some res) : CallOK Tryd.prog w0 18 ws ou res := by
  unfold ora18 at h
  split at h
  · rename_i x c
    obtain ⟨hl, h⟩ := cond_some h
    cases h
    refine ora_ok c18 fun I κ w us hb hus => ?_
    obtain ⟨a, b, rfl, ha, hb'⟩ := rts2 hus
    obtain rfl := rt_s ha
    obtain rfl := rt_s hb'
    obtain ⟨m, hm⟩ := g.maxLen
    refine (Tryd.strings_Cut ⟨x.toArray⟩ ⟨#[c]⟩ m w (by rw [bytes_size]; exact nblt_iff.1 hl) (by rw [hb.cell (p := ⟨0, 0, none⟩) (Nat.lt_trans (by decide) g.lo)]; exact hm)).mono fun e w' he => ?_
    obtain ⟨rfl, k, rfl⟩ := he
    refine ⟨_, rfl, ?_, below_drewN (Below.refl _ _) k⟩
    rw [cut1_eq]
    exact plain_tup3 (plain_s _) (plain_s _) (plain_b _)
  · cases h

theorem ok35 (g : Ground w0) (h : ora35 ws ou = some res) : CallOK Tryd.prog w0 35 ws ou res := by
  unfold ora35 at h
  split at h
  · rename_i n b
    obtain ⟨⟨rfl, h0, h1⟩, h'⟩ := ite_some h
    cases h'
    refine ora_ok c35 fun I κ w us hb hus => ?_
    obtain ⟨x, y, rfl, hx, hy⟩ := rts2 hus
    obtain rfl := rt_i hx
    obtain rfl := rt_i hy
    refine (Tryd.internal_strconv_FormatInt_10 n h0 h1 w (Lib.tabBelow_of_tabIs g.tab w hb)).mono fun e w' he => ?_
    obtain ⟨rfl, k, os, rfl⟩ := he
    exact ⟨_, rfl, by rw [fmtI_eq n h0 h1]; exact plain_s _, Lib.below_grow _ _ (Nat.le_refl _) k os⟩
  · cases h

theorem c33 : Callable Tryd.prog 33 := ⟨Tryd.f33, _, Tryd.func33, by kernel_rfl, rfl⟩

theorem plain_err (t : TypeId) (u : Value) : Plain (.d .err) (.iface t u) := fun I κ w => by simp only [RT, RD]; exact ⟨_, _, rfl⟩

theorem ok33 (g : Ground w0) (h : ora33 ws ou = some res) : CallOK Tryd.prog w0 33 ws ou res := by
  unfold ora33 at h
  split at h
  · rename_i fn x base bits t k
    obtain ⟨⟨rfl, hk, hl⟩, h'⟩ := ite_some h
    cases h'
    refine ora_ok c33 fun I κ w us hb hus => ?_
    simp only [RTs] at hus
    obtain ⟨a1, _, rfl, h1, a2, _, rfl, h2, a3, _, rfl, h3, a4, _, rfl, h4, a5, _, rfl, h5, rfl⟩ := hus
    obtain rfl := rt_s h1
    obtain rfl := rt_s h2
    obtain rfl := rt_i h3
    obtain rfl := rt_i h4
    simp only [RT, RD] at h5
    obtain ⟨u, rfl, rfl⟩ := h5
    have hsz : (⟨x.toArray⟩ : ByteArray).size ≤ 281474976710656 := by rw [bytes_size]; exact hl
    rcases hk with rfl | rfl
    · obtain ⟨te, pe, hv⟩ := g.rng
      refine (toErr1 ⟨fn.toArray⟩ ⟨x.toArray⟩ base bits te pe w hsz (by rw [hb.cell (p := ⟨2, 0, none⟩) g.lo]; exact hv)).mono fun e w' he => ?_
      obtain ⟨⟨t, u, rfl⟩, hb'⟩ := he
      exact ⟨_, rfl, plain_err _ _, hb'⟩
    · obtain ⟨te, pe, hv⟩ := g.syn
      refine (toErr2 ⟨fn.toArray⟩ ⟨x.toArray⟩ base bits te pe w hsz (by rw [hb.cell (p := ⟨1, 0, none⟩) (Nat.lt_trans (by decide) g.lo)]; exact hv)).mono fun e w' he => ?_
      obtain ⟨⟨t, u, rfl⟩, hb'⟩ := he
      exact ⟨_, rfl, plain_err _ _, hb'⟩
  · cases h

/-- The table of layer 5's functions. -/
def env : FuncId → Option Ent := fun n => match n with
  | 3 => some (.fn f3) | 4 => some (.fn f4) | 5 => some (.fn f5) | 6 => some (.fn f6) | 7 => some (.fn f7) | 8 => some (.fn f8) | 9 => some (.fn f9)
  | 10 => some (.fn f10) | 11 => some (.fn f11) | 12 => some (.fn f12) | 13 => some (.fn f13) | 14 => some (.fn f14) | 15 => some (.fn f15)
  | 16 => some (.ora ora16) | 17 => some (.ora ora17) | 18 => some (.ora ora18)
  | 19 => some (.fn f19) | 20 => some (.fn f20) | 21 => some (.fn f21) | 22 => some (.fn f22) | 23 => some (.fn f23) | 24 => some (.fn f24) | 25 => some (.fn f25)
  | 29 => some (.fn f29) | 30 => some (.fn f30) | 31 => some (.fn f31) | 32 => some (.fn f32) | 33 => some (.ora ora33) | 34 => some (.fn f34) | 35 => some (.ora ora35)
  | 38 => some (.fn f38) | 39 => some (.fn f39) | 44 => some (.fn f44) | 45 => some (.fn f45) | 53 => some (.fn f53) | 54 => some (.fn f54) | 58 => some (.fn f58) | 59 => some (.fn f59)
  | _ => none

theorem envOK (g : Ground w0) : EnvOK Tryd.prog w0 env := by
  intro f e h
  unfold env at h
  split at h
  · cases h; exact ⟨_, Tryd.func3, m3⟩
  · cases h; exact ⟨_, Tryd.func4, m4⟩
  · cases h; exact ⟨_, Tryd.func5, m5⟩
  · cases h; exact ⟨_, Tryd.func6, m6⟩
  · cases h; exact ⟨_, Tryd.func7, m7⟩
  · cases h; exact ⟨_, Tryd.func8, m8⟩
  · cases h; exact ⟨_, Tryd.func9, m9⟩
  · cases h; exact ⟨_, Tryd.func10, m10⟩
  · cases h; exact ⟨_, Tryd.func11, m11⟩
  · cases h; exact ⟨_, Tryd.func12, m12⟩
  · cases h; exact ⟨_, Tryd.func13, m13⟩
  · cases h; exact ⟨_, Tryd.func14, m14⟩
  · cases h; exact ⟨_, Tryd.func15, m15⟩
  · cases h; exact fun ws ou res h => ok16 h
  · cases h; exact fun ws ou res h => ok17 h
  · cases h; exact fun ws ou res h => ok18 g h
  · cases h; exact ⟨_, Tryd.func19, m19⟩
  · cases h; exact ⟨_, Tryd.func20, m20⟩
  · cases h; exact ⟨_, Tryd.func21, m21⟩
  · cases h; exact ⟨_, Tryd.func22, m22⟩
  · cases h; exact ⟨_, Tryd.func23, m23⟩
  · cases h; exact ⟨_, Tryd.func24, m24⟩
  · cases h; exact ⟨_, Tryd.func25, m25⟩
  · cases h; exact ⟨_, Tryd.func29, m29⟩
  · cases h; exact ⟨_, Tryd.func30, m30⟩
  · cases h; exact ⟨_, Tryd.func31, m31⟩
  · cases h; exact ⟨_, Tryd.func32, m32⟩
  · cases h; exact fun ws ou res h => ok33 g h
  · cases h; exact ⟨_, Tryd.func34, m34⟩
  · cases h; exact fun ws ou res h => ok35 g h
  · cases h; exact ⟨_, Tryd.func38, m38⟩
  · cases h; exact ⟨_, Tryd.func39, m39⟩
  · cases h; exact ⟨_, Tryd.func44, m44⟩
  · cases h; exact ⟨_, Tryd.func45, m45⟩
  · cases h; exact ⟨_, Tryd.func53, m53⟩
  · cases h; exact ⟨_, Tryd.func54, m54⟩
  · cases h; exact ⟨_, Tryd.func58, m58⟩
  · cases h; exact ⟨_, Tryd.func59, m59⟩
  · cases h

theorem mixed : Tryd.prog.follows .mixedOrders = true := Tryd.checked.mixed

set_option maxRecDepth 100000 in
theorem live_run : (run env 400).1 7 [] [] = some (.ret (.d (.b true)) []) := by kernel_rfl

end
end Go.Eng.L05
