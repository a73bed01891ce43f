/- Where the cells are: the program's chart tells what plain functions tell. -/
import Derived.Test.YtcpkieahnkfpoaaCtRight
namespace Go.Proofs.Ytcpkieahnkfpoaa.Ct
open Go Go.Proofs Go.Proofs.Ytcpkieahnkfpoaa.Ev

structure Span where
  a : Int
  n : Int
  d : Int
def Span.v (x : Span) : Value := .agg ⟨[.int .i64 x.a, .int .i64 x.n, .int .i64 x.d]⟩
def w64 (n : Int) : Int := IntKind.wrap .i64 n
def u64 (n : Int) : Int := IntKind.wrap .u64 n
theorem w64_in {n : Int} (h0 : -9223372036854775808 ≤ n) (h1 : n ≤ 9223372036854775807) : w64 n = n := by unfold w64; rw [IntKind.wrap_i64]; omega

def spanOf (c : Cfg) (kind : Int) : Span :=
  if kind = 1 ∨ kind = 2 then ⟨w64 (kind - 1), 1, 1⟩
  else if kind = 3 then ⟨2, c.t, 1⟩
  else if kind = 4 ∨ kind = 5 ∨ kind = 6 ∨ kind = 7 then ⟨w64 (w64 (w64 (2 + c.t) + kind) - 4), c.s, 4⟩
  else if kind = 8 then ⟨w64 (w64 (2 + c.t) + w64 (4 * c.s)), c.k, 1⟩
  else ⟨0, 0, 0⟩

open Dec in
theorem of_chart (c : Cfg) (kind : Int) : CallC Try.prog 85 [c.v, .int .i64 kind] ⟨[], 0, []⟩ (spanOf c kind).v ⟨[], 0, []⟩ := by
  unfold spanOf
  by_cases h1 : kind = 1
  · rw [if_pos (.inl h1)]
    exact path E1ok 5 (ds := [t, t]) (pc := [(kind == 1) = true, (kind == 1) = true]) (by kernel_rfl) (by simp [h1]) rfl
  by_cases h2 : kind = 2
  · rw [if_pos (.inr h2)]
    exact path E1ok 5 (ds := [f, t]) (pc := [(kind == 1) = false, (kind == 2) = true]) (by kernel_rfl) (by simp [h2]) rfl
  rw [if_neg (by omega)]
  by_cases h3 : kind = 3
  · rw [if_pos h3]
    exact path E1ok 5 (ds := [f, f, t]) (pc := [(kind == 1) = false, (kind == 2) = false, (kind == 3) = true]) (by kernel_rfl) (by simp [h3]) rfl
  rw [if_neg h3]
  by_cases h4 : kind = 4
  · rw [if_pos (.inl h4)]
    exact path E1ok 5 (ds := [f, f, f, t, t]) (pc := [(kind == 1) = false, (kind == 2) = false, (kind == 3) = false, (kind == 4) = true, (kind == 4) = true]) (by kernel_rfl) (by simp [h4]) rfl
  by_cases h5 : kind = 5
  · rw [if_pos (.inr (.inl h5))]
    exact path E1ok 5 (ds := [f, f, f, f, t, t]) (pc := [(kind == 1) = false, (kind == 2) = false, (kind == 3) = false, (kind == 4) = false, (kind == 5) = true, (kind == 5) = true]) (by kernel_rfl) (by simp [h5]) rfl
  by_cases h6 : kind = 6
  · rw [if_pos (.inr (.inr (.inl h6)))]
    exact path E1ok 5 (ds := [f, f, f, f, f, t, t]) (pc := [(kind == 1) = false, (kind == 2) = false, (kind == 3) = false, (kind == 4) = false, (kind == 5) = false, (kind == 6) = true, (kind == 6) = true]) (by kernel_rfl) (by simp [h6]) rfl
  by_cases h7 : kind = 7
  · rw [if_pos (.inr (.inr (.inr h7)))]
    exact path E1ok 5 (ds := [f, f, f, f, f, f, t]) (pc := [(kind == 1) = false, (kind == 2) = false, (kind == 3) = false, (kind == 4) = false, (kind == 5) = false, (kind == 6) = false, (kind == 7) = true]) (by kernel_rfl) (by simp [h7]) rfl
  rw [if_neg (by omega)]
  by_cases h8 : kind = 8
  · rw [if_pos h8]
    exact path E1ok 5 (ds := [f, f, f, f, f, f, f, t]) (pc := [(kind == 1) = false, (kind == 2) = false, (kind == 3) = false, (kind == 4) = false, (kind == 5) = false, (kind == 6) = false, (kind == 7) = false, (kind == 8) = true]) (by kernel_rfl) (by simp [h8]) rfl
  · rw [if_neg h8]
    exact path E1ok 5 (ds := [f, f, f, f, f, f, f, f]) (pc := [(kind == 1) = false, (kind == 2) = false, (kind == 3) = false, (kind == 4) = false, (kind == 5) = false, (kind == 6) = false, (kind == 7) = false, (kind == 8) = false]) (by kernel_rfl) (by simp [h1, h2, h3, h4, h5, h6, h7, h8]) rfl

def gOf (args : List Value) (hp : Hp) : Option (Value × Hp × List Prop) :=
  match args with
  | [v, .int .i64 kind] => match cfgOf v with
    | some c => some ((spanOf c kind).v, hp, [])
    | none => none
  | _ => none
theorem gOf_ok : ∀ args hp v hp' pc, gOf args hp = some (v, hp', pc) → ∀ ds, CallOk Try.prog 85 args hp ⟨v, hp', ds, pc⟩ := by
  intro args hp v hp' pc hg ds
  unfold gOf at hg
  split at hg
  · split at hg
    · rename_i _ _ kind _ c hc
      simp only [Option.some.injEq, Prod.mk.injEq] at hg
      obtain ⟨rfl, rfl, rfl⟩ := hg
      rw [cfgOf_some hc]
      exact CallC.pure (enters (fn := Try.f85) (by kernel_rfl) (by kernel_rfl) rfl) (fun _ => of_chart c kind) rfl rfl hp ds
    · cases hg
  · cases hg
noncomputable def E2 : Env := E1.add 85 gOf
theorem E2ok : EnvOk E2 := E1ok.add gOf_ok

/-- How many cells there are. -/
def Cfg.len (c : Cfg) : Int := if c.Right then 2 + c.t + 4 * c.s + c.k else 0
open Dec in
theorem len_chart (c : Cfg) : CallC Try.prog 84 [c.v] ⟨[], 0, []⟩ (.int .i64 c.len) ⟨[], 0, []⟩ := by
  unfold Cfg.len
  by_cases h : c.Right
  · have h' := h
    unfold Cfg.Right at h'
    have e : w64 ((spanOf c 8).a + (spanOf c 8).n) = 2 + c.t + 4 * c.s + c.k := by
      have e1 : w64 (2 + c.t) = 2 + c.t := w64_in (by omega) (by omega)
      have e2 : w64 (4 * c.s) = 4 * c.s := w64_in (by omega) (by omega)
      have e3 : w64 (2 + c.t + 4 * c.s) = 2 + c.t + 4 * c.s := w64_in (by omega) (by omega)
      have e4 : w64 (2 + c.t + 4 * c.s + c.k) = 2 + c.t + 4 * c.s + c.k := w64_in (by omega) (by omega)
      simp [spanOf, e1, e2, e3, e4]
    rw [if_pos h, ← e]
    exact path E2ok 5 (ds := [f]) (pc := [(!rightB c) = false]) (by kernel_rfl) (by simp [rightB, h]) rfl
  · rw [if_neg h]
    exact path E2ok 5 (ds := [t]) (pc := [(!rightB c) = true]) (by kernel_rfl) (by simp [rightB, h]) rfl

/-- Where a spot stands; -1: nowhere. -/
def cellIx (c : Cfg) (kind n : Int) : Int :=
  if c.Right ∧ 0 ≤ n then
    if kind = 1 ∨ kind = 2 then (if n < 1 then kind - 1 + n else -1)
    else if kind = 3 then (if n < c.t then 2 + n else -1)
    else if kind = 4 ∨ kind = 5 ∨ kind = 6 ∨ kind = 7 then (if n < c.s then 2 + c.t + (kind - 4) + n * 4 else -1)
    else if kind = 8 then (if n < c.k then 2 + c.t + 4 * c.s + n else -1)
    else -1
  else -1
theorem cell_raw (c : Cfg) (kind n : Int) (h : c.Right) : cellIx c kind n = if (spanOf c kind).d = 0 ∨ n < 0 ∨ n ≥ (spanOf c kind).n then -1 else w64 ((spanOf c kind).a + w64 (n * (spanOf c kind).d)) := by
  have h' := h
  unfold Cfg.Right at h'
  have e1 : w64 (2 + c.t) = 2 + c.t := w64_in (by omega) (by omega)
  have e2 : w64 (4 * c.s) = 4 * c.s := w64_in (by omega) (by omega)
  have e3 : w64 (2 + c.t + 4 * c.s) = 2 + c.t + 4 * c.s := w64_in (by omega) (by omega)
  unfold cellIx spanOf
  by_cases hn : 0 ≤ n
  · rw [if_pos ⟨h, hn⟩]
    by_cases k1 : kind = 1 ∨ kind = 2
    · rw [if_pos k1, if_pos k1]
      have e4 : w64 (kind - 1) = kind - 1 := w64_in (by omega) (by omega)
      simp only [e4]
      by_cases h1 : n < 1
      · rw [if_pos h1, if_neg (by omega)]
        rw [w64_in (n := n * 1) (by omega) (by omega), w64_in (by omega) (by omega)]
        omega
      · rw [if_neg h1, if_pos (by omega)]
    rw [if_neg k1, if_neg k1]
    by_cases k3 : kind = 3
    · rw [if_pos k3, if_pos k3]
      by_cases h1 : n < c.t
      · rw [if_pos h1, if_neg (by simp only []; omega)]
        simp only []
        rw [w64_in (n := n * 1) (by omega) (by omega), w64_in (by omega) (by omega)]
        omega
      · rw [if_neg h1, if_pos (by simp only []; omega)]
    rw [if_neg k3, if_neg k3]
    by_cases k4 : kind = 4 ∨ kind = 5 ∨ kind = 6 ∨ kind = 7
    · rw [if_pos k4, if_pos k4]
      have e5 : w64 (2 + c.t + kind) = 2 + c.t + kind := w64_in (by omega) (by omega)
      have e6 : w64 (2 + c.t + kind - 4) = 2 + c.t + kind - 4 := w64_in (by omega) (by omega)
      simp only [e1, e5, e6]
      by_cases h1 : n < c.s
      · rw [if_pos h1, if_neg (by omega)]
        rw [w64_in (n := n * 4) (by omega) (by omega), w64_in (by omega) (by omega)]
        omega
      · rw [if_neg h1, if_pos (by omega)]
    rw [if_neg k4, if_neg k4]
    by_cases k8 : kind = 8
    · rw [if_pos k8, if_pos k8]
      simp only [e1, e2, e3]
      by_cases h1 : n < c.k
      · rw [if_pos h1, if_neg (by omega)]
        rw [w64_in (n := n * 1) (by omega) (by omega), w64_in (by omega) (by omega)]
        omega
      · rw [if_neg h1, if_pos (by omega)]
    · rw [if_neg k8, if_neg k8, if_pos (.inl rfl)]
  · rw [if_neg (by omega), if_pos (.inr (.inl (by omega)))]
theorem span_zero (c : Cfg) (kind : Int) : (spanOf c kind).d = 0 ↔ andL [(spanOf c kind).a == 0, (spanOf c kind).n == 0, (spanOf c kind).d == 0] = true := by
  unfold spanOf
  split
  · simp [andL]
  · split
    · simp [andL]
    · split
      · simp [andL]
      · split <;> simp [andL]

open Dec in
theorem cell_chart (c : Cfg) (kind n : Int) : CallC Try.prog 86 [c.v, .agg ⟨[.int .i64 kind, .int .i64 n]⟩] ⟨[], 0, []⟩ (.int .i64 (cellIx c kind n)) ⟨[], 0, []⟩ := by
  by_cases h : c.Right
  · rw [cell_raw c kind n h]
    have hr : (!rightB c) = false := by simp [rightB, h]
    by_cases hz : (spanOf c kind).d = 0
    · rw [if_pos (.inl hz)]
      exact path E2ok 5 (ds := [f, t, l, l]) (pc := [(!rightB c) = false, andL [(spanOf c kind).a == 0, (spanOf c kind).n == 0, (spanOf c kind).d == 0] = true]) (by kernel_rfl) (by simp only [hr, (span_zero c kind).1 hz]; simp) rfl
    have hz' : andL [(spanOf c kind).a == 0, (spanOf c kind).n == 0, (spanOf c kind).d == 0] = false := by
      have := mt (span_zero c kind).2 hz
      simpa using this
    by_cases h1 : n < 0
    · rw [if_pos (.inr (.inl h1))]
      exact path E2ok 5 (ds := [f, f, t, l]) (pc := [(!rightB c) = false, andL [(spanOf c kind).a == 0, (spanOf c kind).n == 0, (spanOf c kind).d == 0] = false, decide (n < 0) = true]) (by kernel_rfl) (by simp only [hr, hz', h1]; simp) rfl
    by_cases h2 : n ≥ (spanOf c kind).n
    · rw [if_pos (.inr (.inr h2))]
      exact path E2ok 5 (ds := [f, f, f, t]) (pc := [(!rightB c) = false, andL [(spanOf c kind).a == 0, (spanOf c kind).n == 0, (spanOf c kind).d == 0] = false, decide (n < 0) = false, decide (n ≥ (spanOf c kind).n) = true]) (by kernel_rfl) (by simp only [hr, hz', h1, h2]; simp) rfl
    · rw [if_neg (fun h => h.elim hz (fun h => h.elim h1 h2))]
      exact path E2ok 5 (ds := [f, f, f, f]) (pc := [(!rightB c) = false, andL [(spanOf c kind).a == 0, (spanOf c kind).n == 0, (spanOf c kind).d == 0] = false, decide (n < 0) = false, decide (n ≥ (spanOf c kind).n) = false]) (by kernel_rfl) (by simp only [hr, hz', h1, h2]; simp) rfl
  · rw [show cellIx c kind n = -1 from if_neg (fun q => h q.1)]
    exact path E2ok 5 (ds := [t, l, l, l]) (pc := [(!rightB c) = true]) (by kernel_rfl) (by simp [rightB, h]) rfl

def gLen (args : List Value) (hp : Hp) : Option (Value × Hp × List Prop) :=
  match args with
  | [v] => match cfgOf v with
    | some c => some (.int .i64 c.len, hp, [])
    | none => none
  | _ => none
theorem gLen_ok : ∀ args hp v hp' pc, gLen args hp = some (v, hp', pc) → ∀ ds, CallOk Try.prog 84 args hp ⟨v, hp', ds, pc⟩ := by
  intro args hp v hp' pc hg ds
  unfold gLen at hg
  split at hg
  · split at hg
    · rename_i c hc
      simp only [Option.some.injEq, Prod.mk.injEq] at hg
      obtain ⟨rfl, rfl, rfl⟩ := hg
      rw [cfgOf_some hc]
      exact CallC.pure (enters (fn := Try.f84) (by kernel_rfl) (by kernel_rfl) rfl) (fun _ => len_chart c) rfl rfl hp ds
    · cases hg
  · cases hg
def gCell (args : List Value) (hp : Hp) : Option (Value × Hp × List Prop) :=
  match args with
  | [v, .agg ⟨[.int .i64 kind, .int .i64 n]⟩] => match cfgOf v with
    | some c => some (.int .i64 (cellIx c kind n), hp, [])
    | none => none
  | _ => none
theorem gCell_ok : ∀ args hp v hp' pc, gCell args hp = some (v, hp', pc) → ∀ ds, CallOk Try.prog 86 args hp ⟨v, hp', ds, pc⟩ := by
  intro args hp v hp' pc hg ds
  unfold gCell at hg
  split at hg
  · split at hg
    · rename_i _ _ kind n _ c hc
      simp only [Option.some.injEq, Prod.mk.injEq] at hg
      obtain ⟨rfl, rfl, rfl⟩ := hg
      rw [cfgOf_some hc]
      exact CallC.pure (enters (fn := Try.f86) (by kernel_rfl) (by kernel_rfl) rfl) (fun _ => cell_chart c kind n) rfl rfl hp ds
    · cases hg
  · cases hg
noncomputable def E3 : Env := (E2.add 84 gLen).add 86 gCell
theorem E3ok : EnvOk E3 := (E2ok.add gLen_ok).add gCell_ok
end Go.Proofs.Ytcpkieahnkfpoaa.Ct
