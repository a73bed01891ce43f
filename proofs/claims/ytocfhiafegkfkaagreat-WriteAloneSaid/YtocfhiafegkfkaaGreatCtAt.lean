/- The spot that stands somewhere. -/
import Derived.Test.YtocfhiafegkfkaaGreatEvStack
import Derived.Test.YtocfhiafegkfkaaGreatProg
namespace Go.Proofs.YtocfhiafegkfkaaGreat.Ct
open Go Go.Proofs Go.Proofs.YtocfhiafegkfkaaGreat.Ev

def eq0 (t : TypeId) : Option (List CK) :=
  bif Nat.beq t 24 then some [.i .i64, .i .i64, .i .i64, .i .i64, .i .u64] else
  bif Nat.beq t 40 then some [.i .i64, .i .i64] else
  bif Nat.beq t 47 then some [.i .i64, .i .i64] else
  bif Nat.beq t 138 then some [.i .i64, .i .i64, .i .i64] else
  bif Nat.beq t 100 then some [.i .i64, .i .i64, .i .i64, .i .u64, .i .u64, .b] else
  bif Nat.beq t 49 then some [.i .i64, .i .i64, .i .i64, .i .u64, .i .u64, .b] else none
noncomputable def E0 : Env := { P := Tryz.prog, orc := fun _ _ _ => none, eqs := eq0 }

theorem eq0_ok : ∀ t ks, E0.eqs t = some ks → flat E0 8 t = some (true, ks) ∧ E0.P.eqGuardType E0.P.depth t = false := by
  intro t ks h
  have h' : eq0 t = some ks := h
  unfold eq0 at h'
  cases h1 : Nat.beq t 24
  · cases h2 : Nat.beq t 40
    · cases h3 : Nat.beq t 47
      · cases h4 : Nat.beq t 138
        · cases h5 : Nat.beq t 100
          · cases h6 : Nat.beq t 49
            · simp only [h1, h2, h3, h4, h5, h6, cond_false, reduceCtorEq] at h'
            · obtain rfl := beq_nat h6
              simp only [h1, h2, h3, h4, h5, h6, cond_false, cond_true, Option.some.injEq] at h'
              subst h'
              exact ⟨by kernel_rfl, by kernel_rfl⟩
          · obtain rfl := beq_nat h5
            simp only [h1, h2, h3, h4, h5, cond_false, cond_true, Option.some.injEq] at h'
            subst h'
            exact ⟨by kernel_rfl, by kernel_rfl⟩
        · obtain rfl := beq_nat h4
          simp only [h1, h2, h3, h4, cond_false, cond_true, Option.some.injEq] at h'
          subst h'
          exact ⟨by kernel_rfl, by kernel_rfl⟩
      · obtain rfl := beq_nat h3
        simp only [h1, h2, h3, cond_false, cond_true, Option.some.injEq] at h'
        subst h'
        exact ⟨by kernel_rfl, by kernel_rfl⟩
    · obtain rfl := beq_nat h2
      simp only [h1, h2, cond_false, cond_true, Option.some.injEq] at h'
      subst h'
      exact ⟨by kernel_rfl, by kernel_rfl⟩
  · obtain rfl := beq_nat h1
    simp only [h1, cond_true, Option.some.injEq] at h'
    subst h'
    exact ⟨by kernel_rfl, by kernel_rfl⟩
theorem E0ok : EnvOk E0 := ⟨by kernel_rfl, eqsOk_of eq0_ok, fun _ _ _ _ _ _ h => by cases h⟩
end Go.Proofs.YtocfhiafegkfkaaGreat.Ct
namespace Go.Proofs.YtocfhiafegkfkaaGreat.Ct
open Go Go.Proofs Go.Proofs.YtocfhiafegkfkaaGreat.Ev

/-- A world's numbers. -/
structure Cfg where
  t : Int
  s : Int
  k : Int
  g : Int
  q : Int
def Cfg.cells (c : Cfg) : List Value := [.int .i64 c.t, .int .i64 c.s, .int .i64 c.k, .int .i64 c.g, .int .u64 c.q]
def Cfg.v (c : Cfg) : Value := .agg ⟨c.cells⟩
def cfgL : List Value → Option Cfg
  | [.int .i64 t, .int .i64 s, .int .i64 k, .int .i64 g, .int .u64 q] => some ⟨t, s, k, g, q⟩
  | _ => none
def cfgOf : Value → Option Cfg
  | .agg ⟨l⟩ => cfgL l
  | _ => none
theorem cfgL_some {l : List Value} {c : Cfg} (h : cfgL l = some c) : l = c.cells := by
  unfold cfgL at h
  split at h
  · obtain rfl := Option.some.inj h; rfl
  · cases h
theorem cfgOf_some {v : Value} {c : Cfg} (h : cfgOf v = some c) : v = c.v := by
  unfold cfgOf at h
  split at h
  · rename_i l
    rw [cfgL_some h]; rfl
  · cases h
theorem Cfg.nm_v (c : Cfg) : nm c.v = [] := rfl

def Cfg.Right (c : Cfg) : Prop := 1 ≤ c.t ∧ c.t ≤ 8 ∧ 1 ≤ c.s ∧ c.s ≤ 12 ∧ 1 ≤ c.k ∧ c.k ≤ 8 ∧ 0 ≤ c.g ∧ c.g ≤ 1073741823 ∧ c.q ≤ 1099511627775
instance (c : Cfg) : Decidable c.Right := by unfold Cfg.Right; infer_instance
def rightB (c : Cfg) : Bool := decide c.Right

theorem enters {P : Program} {f : FuncId} {fn : Func} {c : Code} (hfn : P.funcs[f]? = some fn) (hname : (fn.name == "runtime.NumGoroutine") = false) (hb : fn.body = some c) : Enters P f := fun args w => by
  have hne : ¬ fn.name = "runtime.NumGoroutine" := by simpa using hname
  simp [callFunc, go_sem, hfn, hne, hb]

/-- A path of a function of numbers. -/
theorem path {E : Env} (hE : EnvOk E) (n : Nat) {f : FuncId} {args : List Value} {ds : List Dec} {v : Value} {pc : List Prop} (h : callR E n f args ⟨[], 0, []⟩ ds [] = some (v, ⟨[], 0, []⟩, pc)) (hpc : ∀ p ∈ pc, p) (hv : isDead v = false) :
    CallC E.P f args ⟨[], 0, []⟩ v ⟨[], 0, []⟩ := CallC.of_call hE h hpc hv fun k hk => absurd hk (Nat.not_lt_zero k)

open Dec in
theorem right_ref (c : Cfg) : CallC Tryz.prog 59 [c.v] ⟨[], 0, []⟩ (.bool (rightB c)) ⟨[], 0, []⟩ := by
  by_cases h1 : c.t < 1
  · rw [show rightB c = false from decide_eq_false (by unfold Cfg.Right; omega)]
    exact path E0ok 5 (ds := [t, l, l, l, l, l]) (pc := [decide (c.t < 1) = true]) (by kernel_rfl) (by simp [h1]) rfl
  by_cases h2 : c.t > 8
  · rw [show rightB c = false from decide_eq_false (by unfold Cfg.Right; omega)]
    exact path E0ok 5 (ds := [f, t, l, l, l, l]) (pc := [decide (c.t < 1) = false, decide (c.t > 8) = true]) (by kernel_rfl) (by simp [h1, h2]) rfl
  by_cases h3 : c.s < 1
  · rw [show rightB c = false from decide_eq_false (by unfold Cfg.Right; omega)]
    exact path E0ok 5 (ds := [f, f, t, l, l, l]) (pc := [decide (c.t < 1) = false, decide (c.t > 8) = false, decide (c.s < 1) = true]) (by kernel_rfl) (by simp [h1, h2, h3]) rfl
  by_cases h4 : c.s > 12
  · rw [show rightB c = false from decide_eq_false (by unfold Cfg.Right; omega)]
    exact path E0ok 5 (ds := [f, f, f, t, l, l]) (pc := [decide (c.t < 1) = false, decide (c.t > 8) = false, decide (c.s < 1) = false, decide (c.s > 12) = true]) (by kernel_rfl) (by simp [h1, h2, h3, h4]) rfl
  by_cases h5 : c.k < 1
  · rw [show rightB c = false from decide_eq_false (by unfold Cfg.Right; omega)]
    exact path E0ok 5 (ds := [f, f, f, f, t, l]) (pc := [decide (c.t < 1) = false, decide (c.t > 8) = false, decide (c.s < 1) = false, decide (c.s > 12) = false, decide (c.k < 1) = true]) (by kernel_rfl) (by simp [h1, h2, h3, h4, h5]) rfl
  by_cases h6 : c.k > 8
  · rw [show rightB c = false from decide_eq_false (by unfold Cfg.Right; omega)]
    exact path E0ok 5 (ds := [f, f, f, f, f, t]) (pc := [decide (c.t < 1) = false, decide (c.t > 8) = false, decide (c.s < 1) = false, decide (c.s > 12) = false, decide (c.k < 1) = false, decide (c.k > 8) = true]) (by kernel_rfl) (by simp [h1, h2, h3, h4, h5, h6]) rfl
  by_cases h7 : c.g ≥ 0
  · by_cases h8 : c.g ≤ 1073741823
    · rw [show rightB c = decide (c.q ≤ 1099511627775) from decide_eq_decide.2 ⟨fun h => h.2.2.2.2.2.2.2.2, fun h => by unfold Cfg.Right; omega⟩]
      exact path E0ok 5 (ds := [f, f, f, f, f, f, t, t]) (pc := [decide (c.t < 1) = false, decide (c.t > 8) = false, decide (c.s < 1) = false, decide (c.s > 12) = false, decide (c.k < 1) = false, decide (c.k > 8) = false, decide (c.g ≥ 0) = true, decide (c.g ≤ 1073741823) = true]) (by kernel_rfl) (by simp [h1, h2, h3, h4, h5, h6, h7, h8]) rfl
    · rw [show rightB c = false from decide_eq_false (by unfold Cfg.Right; omega)]
      exact path E0ok 5 (ds := [f, f, f, f, f, f, t, f]) (pc := [decide (c.t < 1) = false, decide (c.t > 8) = false, decide (c.s < 1) = false, decide (c.s > 12) = false, decide (c.k < 1) = false, decide (c.k > 8) = false, decide (c.g ≥ 0) = true, decide (c.g ≤ 1073741823) = false]) (by kernel_rfl) (by simp [h1, h2, h3, h4, h5, h6, h7, h8]) rfl
  · rw [show rightB c = false from decide_eq_false (by unfold Cfg.Right; omega)]
    exact path E0ok 5 (ds := [f, f, f, f, f, f, f, l]) (pc := [decide (c.t < 1) = false, decide (c.t > 8) = false, decide (c.s < 1) = false, decide (c.s > 12) = false, decide (c.k < 1) = false, decide (c.k > 8) = false, decide (c.g ≥ 0) = false]) (by kernel_rfl) (by simp [h1, h2, h3, h4, h5, h6, h7]) rfl

def eqTo (n from_ most : Int) : Bool := n == if (if most < n then most else n) > from_ then if most < n then most else n else from_
theorem eqTo_iff {n a b : Int} (h : a ≤ b) : eqTo n a b = decide (a ≤ n ∧ n ≤ b) := by
  unfold eqTo
  rw [Bool.eq_iff_iff]
  simp only [beq_iff_eq, decide_eq_true_eq]
  split <;> split <;> omega
theorem right_chart (c : Cfg) : CallC Tryz.prog 112 [c.v] ⟨[], 0, []⟩ (.bool (rightB c)) ⟨[], 0, []⟩ := by
  have e : rightB c = andL [eqTo c.t 1 8, eqTo c.s 1 12, eqTo c.k 1 8, eqTo c.g 0 1073741823, c.q == if 1099511627775 < c.q then 1099511627775 else c.q] := by
    have hq : (c.q == if 1099511627775 < c.q then 1099511627775 else c.q) = decide (c.q ≤ 1099511627775) := by
      rw [Bool.eq_iff_iff]
      simp only [beq_iff_eq, decide_eq_true_eq]
      split <;> omega
    rw [hq]
    simp only [andL, eqTo_iff (show (1 : Int) ≤ 8 by decide), eqTo_iff (show (1 : Int) ≤ 12 by decide), eqTo_iff (show (0 : Int) ≤ 1073741823 by decide), ← Bool.decide_and, rightB, Cfg.Right, and_assoc]
  rw [e]
  exact path E0ok 6 (ds := []) (pc := []) (by kernel_rfl) (by simp) rfl

/-- The contracts. -/
def gRight (args : List Value) (hp : Hp) : Option (Value × Hp × List Prop) :=
  match args with
  | [v] => match cfgOf v with
    | some c => some (.bool (rightB c), hp, [])
    | none => none
  | _ => none
theorem gRight_ok {f : FuncId} (hent : Enters Tryz.prog f) (h : ∀ c : Cfg, CallC Tryz.prog f [c.v] ⟨[], 0, []⟩ (.bool (rightB c)) ⟨[], 0, []⟩) : ∀ args hp v hp' pc, gRight args hp = some (v, hp', pc) → ∀ ds, CallOk Tryz.prog f args hp ⟨v, hp', ds, pc⟩ := by
  intro args hp v hp' pc hg ds
  unfold gRight at hg
  split at hg
  · split at hg
    · rename_i c hc
      simp only [Option.some.injEq, Prod.mk.injEq] at hg
      obtain ⟨rfl, rfl, rfl⟩ := hg
      rw [cfgOf_some hc]
      exact CallC.pure hent (fun _ => h c) rfl rfl hp ds
    · cases hg
  · cases hg
noncomputable def E1 : Env := (E0.add 59 gRight).add 112 gRight
theorem E1ok : EnvOk E1 :=
  (E0ok.add (gRight_ok (enters (fn := Tryz.f59) (by kernel_rfl) (by kernel_rfl) rfl) right_ref)).add (gRight_ok (enters (fn := Tryz.f112) (by kernel_rfl) (by kernel_rfl) rfl) right_chart)
end Go.Proofs.YtocfhiafegkfkaaGreat.Ct
namespace Go.Proofs.YtocfhiafegkfkaaGreat.Ct
open Go Go.Proofs Go.Proofs.YtocfhiafegkfkaaGreat.Ev

structure Span where
  a : Int
  n : Int
  d : Int
def Span.v (x : Span) : Value := .agg ⟨[.int .i64 x.a, .int .i64 x.n, .int .i64 x.d]⟩
def w64 (n : Int) : Int := IntKind.wrap .i64 n
def u64 (n : Int) : Int := IntKind.wrap .u64 n
theorem w64_in {n : Int} (h0 : -9223372036854775808 ≤ n) (h1 : n ≤ 9223372036854775807) : w64 n = n := by unfold w64; rw [IntKind.wrap_i64]; omega

def spanOf (c : Cfg) (kind : Int) : Span :=
  if kind = 1 ∨ kind = 2 then ⟨w64 (kind - 1), 1, 1⟩
  else if kind = 3 then ⟨2, c.t, 1⟩
  else if kind = 4 ∨ kind = 5 ∨ kind = 6 ∨ kind = 7 then ⟨w64 (w64 (w64 (2 + c.t) + kind) - 4), c.s, 4⟩
  else if kind = 8 then ⟨w64 (w64 (2 + c.t) + w64 (4 * c.s)), c.k, 1⟩
  else ⟨0, 0, 0⟩

open Dec in
theorem of_chart (c : Cfg) (kind : Int) : CallC Tryz.prog 91 [c.v, .int .i64 kind] ⟨[], 0, []⟩ (spanOf c kind).v ⟨[], 0, []⟩ := by
  unfold spanOf
  by_cases h1 : kind = 1
  · rw [if_pos (.inl h1)]
    exact path E1ok 5 (ds := [t, t]) (pc := [(kind == 1) = true, (kind == 1) = true]) (by kernel_rfl) (by simp [h1]) rfl
  by_cases h2 : kind = 2
  · rw [if_pos (.inr h2)]
    exact path E1ok 5 (ds := [f, t]) (pc := [(kind == 1) = false, (kind == 2) = true]) (by kernel_rfl) (by simp [h2]) rfl
  rw [if_neg (by omega)]
  by_cases h3 : kind = 3
  · rw [if_pos h3]
    exact path E1ok 5 (ds := [f, f, t]) (pc := [(kind == 1) = false, (kind == 2) = false, (kind == 3) = true]) (by kernel_rfl) (by simp [h3]) rfl
  rw [if_neg h3]
  by_cases h4 : kind = 4
  · rw [if_pos (.inl h4)]
    exact path E1ok 5 (ds := [f, f, f, t, t]) (pc := [(kind == 1) = false, (kind == 2) = false, (kind == 3) = false, (kind == 4) = true, (kind == 4) = true]) (by kernel_rfl) (by simp [h4]) rfl
  by_cases h5 : kind = 5
  · rw [if_pos (.inr (.inl h5))]
    exact path E1ok 5 (ds := [f, f, f, f, t, t]) (pc := [(kind == 1) = false, (kind == 2) = false, (kind == 3) = false, (kind == 4) = false, (kind == 5) = true, (kind == 5) = true]) (by kernel_rfl) (by simp [h5]) rfl
  by_cases h6 : kind = 6
  · rw [if_pos (.inr (.inr (.inl h6)))]
    exact path E1ok 5 (ds := [f, f, f, f, f, t, t]) (pc := [(kind == 1) = false, (kind == 2) = false, (kind == 3) = false, (kind == 4) = false, (kind == 5) = false, (kind == 6) = true, (kind == 6) = true]) (by kernel_rfl) (by simp [h6]) rfl
  by_cases h7 : kind = 7
  · rw [if_pos (.inr (.inr (.inr h7)))]
    exact path E1ok 5 (ds := [f, f, f, f, f, f, t]) (pc := [(kind == 1) = false, (kind == 2) = false, (kind == 3) = false, (kind == 4) = false, (kind == 5) = false, (kind == 6) = false, (kind == 7) = true]) (by kernel_rfl) (by simp [h7]) rfl
  rw [if_neg (by omega)]
  by_cases h8 : kind = 8
  · rw [if_pos h8]
    exact path E1ok 5 (ds := [f, f, f, f, f, f, f, t]) (pc := [(kind == 1) = false, (kind == 2) = false, (kind == 3) = false, (kind == 4) = false, (kind == 5) = false, (kind == 6) = false, (kind == 7) = false, (kind == 8) = true]) (by kernel_rfl) (by simp [h8]) rfl
  · rw [if_neg h8]
    exact path E1ok 5 (ds := [f, f, f, f, f, f, f, f]) (pc := [(kind == 1) = false, (kind == 2) = false, (kind == 3) = false, (kind == 4) = false, (kind == 5) = false, (kind == 6) = false, (kind == 7) = false, (kind == 8) = false]) (by kernel_rfl) (by simp [h1, h2, h3, h4, h5, h6, h7, h8]) rfl

def gOf (args : List Value) (hp : Hp) : Option (Value × Hp × List Prop) :=
  match args with
  | [v, .int .i64 kind] => match cfgOf v with
    | some c => some ((spanOf c kind).v, hp, [])
    | none => none
  | _ => none
theorem gOf_ok : ∀ args hp v hp' pc, gOf args hp = some (v, hp', pc) → ∀ ds, CallOk Tryz.prog 91 args hp ⟨v, hp', ds, pc⟩ := by
  intro args hp v hp' pc hg ds
  unfold gOf at hg
  split at hg
  · split at hg
    · rename_i _ _ kind _ c hc
      simp only [Option.some.injEq, Prod.mk.injEq] at hg
      obtain ⟨rfl, rfl, rfl⟩ := hg
      rw [cfgOf_some hc]
      exact CallC.pure (enters (fn := Tryz.f91) (by kernel_rfl) (by kernel_rfl) rfl) (fun _ => of_chart c kind) rfl rfl hp ds
    · cases hg
  · cases hg
noncomputable def E2 : Env := E1.add 91 gOf
theorem E2ok : EnvOk E2 := E1ok.add gOf_ok

/-- How many cells there are. -/
def Cfg.len (c : Cfg) : Int := if c.Right then 2 + c.t + 4 * c.s + c.k else 0
open Dec in
theorem len_chart (c : Cfg) : CallC Tryz.prog 90 [c.v] ⟨[], 0, []⟩ (.int .i64 c.len) ⟨[], 0, []⟩ := by
  unfold Cfg.len
  by_cases h : c.Right
  · have h' := h
    unfold Cfg.Right at h'
    have e : w64 ((spanOf c 8).a + (spanOf c 8).n) = 2 + c.t + 4 * c.s + c.k := by
      have e1 : w64 (2 + c.t) = 2 + c.t := w64_in (by omega) (by omega)
      have e2 : w64 (4 * c.s) = 4 * c.s := w64_in (by omega) (by omega)
      have e3 : w64 (2 + c.t + 4 * c.s) = 2 + c.t + 4 * c.s := w64_in (by omega) (by omega)
      have e4 : w64 (2 + c.t + 4 * c.s + c.k) = 2 + c.t + 4 * c.s + c.k := w64_in (by omega) (by omega)
      simp [spanOf, e1, e2, e3, e4]
    rw [if_pos h, ← e]
    exact path E2ok 5 (ds := [f]) (pc := [(!rightB c) = false]) (by kernel_rfl) (by simp [rightB, h]) rfl
  · rw [if_neg h]
    exact path E2ok 5 (ds := [t]) (pc := [(!rightB c) = true]) (by kernel_rfl) (by simp [rightB, h]) rfl

/-- Where a spot stands; -1: nowhere. -/
def cellIx (c : Cfg) (kind n : Int) : Int :=
  if c.Right ∧ 0 ≤ n then
    if kind = 1 ∨ kind = 2 then (if n < 1 then kind - 1 + n else -1)
    else if kind = 3 then (if n < c.t then 2 + n else -1)
    else if kind = 4 ∨ kind = 5 ∨ kind = 6 ∨ kind = 7 then (if n < c.s then 2 + c.t + (kind - 4) + n * 4 else -1)
    else if kind = 8 then (if n < c.k then 2 + c.t + 4 * c.s + n else -1)
    else -1
  else -1
theorem cell_raw (c : Cfg) (kind n : Int) (h : c.Right) : cellIx c kind n = if (spanOf c kind).d = 0 ∨ n < 0 ∨ n ≥ (spanOf c kind).n then -1 else w64 ((spanOf c kind).a + w64 (n * (spanOf c kind).d)) := by
  have h' := h
  unfold Cfg.Right at h'
  have e1 : w64 (2 + c.t) = 2 + c.t := w64_in (by omega) (by omega)
  have e2 : w64 (4 * c.s) = 4 * c.s := w64_in (by omega) (by omega)
  have e3 : w64 (2 + c.t + 4 * c.s) = 2 + c.t + 4 * c.s := w64_in (by omega) (by omega)
  unfold cellIx spanOf
  by_cases hn : 0 ≤ n
  · rw [if_pos ⟨h, hn⟩]
    by_cases k1 : kind = 1 ∨ kind = 2
    · rw [if_pos k1, if_pos k1]
      have e4 : w64 (kind - 1) = kind - 1 := w64_in (by omega) (by omega)
      simp only [e4]
      by_cases h1 : n < 1
      · rw [if_pos h1, if_neg (by omega)]
        rw [w64_in (n := n * 1) (by omega) (by omega), w64_in (by omega) (by omega)]
        omega
      · rw [if_neg h1, if_pos (by omega)]
    rw [if_neg k1, if_neg k1]
    by_cases k3 : kind = 3
    · rw [if_pos k3, if_pos k3]
      by_cases h1 : n < c.t
      · rw [if_pos h1, if_neg (by simp only []; omega)]
        simp only []
        rw [w64_in (n := n * 1) (by omega) (by omega), w64_in (by omega) (by omega)]
        omega
      · rw [if_neg h1, if_pos (by simp only []; omega)]
    rw [if_neg k3, if_neg k3]
    by_cases k4 : kind = 4 ∨ kind = 5 ∨ kind = 6 ∨ kind = 7
    · rw [if_pos k4, if_pos k4]
      have e5 : w64 (2 + c.t + kind) = 2 + c.t + kind := w64_in (by omega) (by omega)
      have e6 : w64 (2 + c.t + kind - 4) = 2 + c.t + kind - 4 := w64_in (by omega) (by omega)
      simp only [e1, e5, e6]
      by_cases h1 : n < c.s
      · rw [if_pos h1, if_neg (by omega)]
        rw [w64_in (n := n * 4) (by omega) (by omega), w64_in (by omega) (by omega)]
        omega
      · rw [if_neg h1, if_pos (by omega)]
    rw [if_neg k4, if_neg k4]
    by_cases k8 : kind = 8
    · rw [if_pos k8, if_pos k8]
      simp only [e1, e2, e3]
      by_cases h1 : n < c.k
      · rw [if_pos h1, if_neg (by omega)]
        rw [w64_in (n := n * 1) (by omega) (by omega), w64_in (by omega) (by omega)]
        omega
      · rw [if_neg h1, if_pos (by omega)]
    · rw [if_neg k8, if_neg k8, if_pos (.inl rfl)]
  · rw [if_neg (by omega), if_pos (.inr (.inl (by omega)))]
theorem span_zero (c : Cfg) (kind : Int) : (spanOf c kind).d = 0 ↔ andL [(spanOf c kind).a == 0, (spanOf c kind).n == 0, (spanOf c kind).d == 0] = true := by
  unfold spanOf
  split
  · simp [andL]
  · split
    · simp [andL]
    · split
      · simp [andL]
      · split <;> simp [andL]

open Dec in
theorem cell_chart (c : Cfg) (kind n : Int) : CallC Tryz.prog 92 [c.v, .agg ⟨[.int .i64 kind, .int .i64 n]⟩] ⟨[], 0, []⟩ (.int .i64 (cellIx c kind n)) ⟨[], 0, []⟩ := by
  by_cases h : c.Right
  · rw [cell_raw c kind n h]
    have hr : (!rightB c) = false := by simp [rightB, h]
    by_cases hz : (spanOf c kind).d = 0
    · rw [if_pos (.inl hz)]
      exact path E2ok 5 (ds := [f, t, l, l]) (pc := [(!rightB c) = false, andL [(spanOf c kind).a == 0, (spanOf c kind).n == 0, (spanOf c kind).d == 0] = true]) (by kernel_rfl) (by simp only [hr, (span_zero c kind).1 hz]; simp) rfl
    have hz' : andL [(spanOf c kind).a == 0, (spanOf c kind).n == 0, (spanOf c kind).d == 0] = false := by
      have := mt (span_zero c kind).2 hz
      simpa using this
    by_cases h1 : n < 0
    · rw [if_pos (.inr (.inl h1))]
      exact path E2ok 5 (ds := [f, f, t, l]) (pc := [(!rightB c) = false, andL [(spanOf c kind).a == 0, (spanOf c kind).n == 0, (spanOf c kind).d == 0] = false, decide (n < 0) = true]) (by kernel_rfl) (by simp only [hr, hz', h1]; simp) rfl
    by_cases h2 : n ≥ (spanOf c kind).n
    · rw [if_pos (.inr (.inr h2))]
      exact path E2ok 5 (ds := [f, f, f, t]) (pc := [(!rightB c) = false, andL [(spanOf c kind).a == 0, (spanOf c kind).n == 0, (spanOf c kind).d == 0] = false, decide (n < 0) = false, decide (n ≥ (spanOf c kind).n) = true]) (by kernel_rfl) (by simp only [hr, hz', h1, h2]; simp) rfl
    · rw [if_neg (fun h => h.elim hz (fun h => h.elim h1 h2))]
      exact path E2ok 5 (ds := [f, f, f, f]) (pc := [(!rightB c) = false, andL [(spanOf c kind).a == 0, (spanOf c kind).n == 0, (spanOf c kind).d == 0] = false, decide (n < 0) = false, decide (n ≥ (spanOf c kind).n) = false]) (by kernel_rfl) (by simp only [hr, hz', h1, h2]; simp) rfl
  · rw [show cellIx c kind n = -1 from if_neg (fun q => h q.1)]
    exact path E2ok 5 (ds := [t, l, l, l]) (pc := [(!rightB c) = true]) (by kernel_rfl) (by simp [rightB, h]) rfl

def gLen (args : List Value) (hp : Hp) : Option (Value × Hp × List Prop) :=
  match args with
  | [v] => match cfgOf v with
    | some c => some (.int .i64 c.len, hp, [])
    | none => none
  | _ => none
theorem gLen_ok : ∀ args hp v hp' pc, gLen args hp = some (v, hp', pc) → ∀ ds, CallOk Tryz.prog 90 args hp ⟨v, hp', ds, pc⟩ := by
  intro args hp v hp' pc hg ds
  unfold gLen at hg
  split at hg
  · split at hg
    · rename_i c hc
      simp only [Option.some.injEq, Prod.mk.injEq] at hg
      obtain ⟨rfl, rfl, rfl⟩ := hg
      rw [cfgOf_some hc]
      exact CallC.pure (enters (fn := Tryz.f90) (by kernel_rfl) (by kernel_rfl) rfl) (fun _ => len_chart c) rfl rfl hp ds
    · cases hg
  · cases hg
def gCell (args : List Value) (hp : Hp) : Option (Value × Hp × List Prop) :=
  match args with
  | [v, .agg ⟨[.int .i64 kind, .int .i64 n]⟩] => match cfgOf v with
    | some c => some (.int .i64 (cellIx c kind n), hp, [])
    | none => none
  | _ => none
theorem gCell_ok : ∀ args hp v hp' pc, gCell args hp = some (v, hp', pc) → ∀ ds, CallOk Tryz.prog 92 args hp ⟨v, hp', ds, pc⟩ := by
  intro args hp v hp' pc hg ds
  unfold gCell at hg
  split at hg
  · split at hg
    · rename_i _ _ kind n _ c hc
      simp only [Option.some.injEq, Prod.mk.injEq] at hg
      obtain ⟨rfl, rfl, rfl⟩ := hg
      rw [cfgOf_some hc]
      exact CallC.pure (enters (fn := Tryz.f92) (by kernel_rfl) (by kernel_rfl) rfl) (fun _ => cell_chart c kind n) rfl rfl hp ds
    · cases hg
  · cases hg
noncomputable def E3 : Env := (E2.add 90 gLen).add 92 gCell
theorem E3ok : EnvOk E3 := (E2ok.add gLen_ok).add gCell_ok
end Go.Proofs.YtocfhiafegkfkaaGreat.Ct
namespace Go.Proofs.YtocfhiafegkfkaaGreat.Ct
open Go Go.Proofs Go.Proofs.YtocfhiafegkfkaaGreat.Ev

def spT (n : Nat) : List (List Int) := [[1, 0], [2, 0]] ++ (List.range n).map fun (j : Nat) => [3, (j : Int)]
def spS (t n : Nat) : List (List Int) := spT t ++ (List.range n).flatMap fun (j : Nat) => [[4, (j : Int)], [5, (j : Int)], [6, (j : Int)], [7, (j : Int)]]
def spK (t s n : Nat) : List (List Int) := spS t s ++ (List.range n).map fun (j : Nat) => [8, (j : Int)]
def Cfg.spots (c : Cfg) : List (List Int) := spK c.t.toNat c.s.toNat c.k.toNat
theorem spT_len (n : Nat) : (spT n).length = 2 + n := by simp [spT]; omega
theorem spS_len (t n : Nat) : (spS t n).length = 2 + t + 4 * n := by
  have : ((List.range n).flatMap fun (j : Nat) => [[4, (j : Int)], [5, (j : Int)], [6, (j : Int)], [7, (j : Int)]]).length = 4 * n := by
    induction n with
    | zero => rfl
    | succ n ih => rw [List.range_succ, List.flatMap_append, List.length_append, ih]; simp; omega
  simp only [spS, List.length_append, this, spT_len]
theorem spK_len (t s n : Nat) : (spK t s n).length = 2 + t + 4 * s + n := by simp [spK, spS_len]
theorem spT_succ (n : Nat) : spT (n + 1) = spT n ++ [[3, (n : Int)]] := by simp [spT, List.range_succ]
theorem spS_succ (t n : Nat) : spS t (n + 1) = spS t n ++ [[4, (n : Int)], [5, (n : Int)], [6, (n : Int)], [7, (n : Int)]] := by simp [spS, List.range_succ, List.flatMap_append]
theorem spK_succ (t s n : Nat) : spK t s (n + 1) = spK t s n ++ [[8, (n : Int)]] := by simp [spK, List.range_succ]

abbrev spotsF : FuncId := 104
abbrev spotT : TypeId := 47
abbrev cfgT : TypeId := 24
noncomputable abbrev spB (p : List Nat) : Code := bd Tryz.f104 p
def spFr0 (c : Cfg) (ds : List Dec) : Fr := mkFr 53 [(1, .pointer (some ⟨0, 0, none⟩)), (3, .slice (some ⟨1, 0, none⟩) 2 2), (4, .int .i64 0)] [(0, .cells c.cells cfgT), (1, .cells [.int .i64 1, .int .i64 0, .int .i64 2, .int .i64 0] spotT)] 2 [] ds
def spFr (c : Cfg) (n : Nat) (l : List (List Int)) (t : Nat) (i : Int) (ds : List Dec) : Fr := mkFr 53 [(1, .pointer (some ⟨0, 0, none⟩)), (3, .slice (some ⟨1, 0, some 2⟩) n 0), (t, .int .i64 i)] [(0, .cells c.cells cfgT), (1, .own (.recs [.i64, .i64] l spotT) 2)] 3 [] ds
def spFrE (c : Cfg) (n : Nat) (l : List (List Int)) (ds : List Dec) : Fr := mkFr 53 [(1, .pointer (some ⟨0, 0, none⟩)), (3, .slice (some ⟨1, 0, some 2⟩) n 0)] [(0, .cells c.cells cfgT), (1, .own (.recs [.i64, .i64] l spotT) 2)] 3 [] ds

open Dec in
section
variable (c : Cfg) (n : Nat) (l : List (List Int)) (i : Int) (ds' : List Dec)
theorem sp_in : execR E3 5 .normal [.code (spB [])] [0, 1] [1, 3, 4] 0 ds' ⟨[c.v] ++ List.replicate 52 undef, ⟨[], 0, []⟩, [f], []⟩ =
    some (.normal, [.code (.loop (spB [1,1,1,0,1,0,0])), .blk 0, .code (spB [1,1,1,1])], spFr0 c ds', [(!rightB c) = false]) := by kernel_rfl
theorem sp_1z : run E3 5 (spB [1,1,1,0,1,0,0]) [0, 3, 4] [1, 3, 4] 0 ds' (spFr0 c [t]) =
    some (.normal, spFr c 3 [[1, 0], [2, 0], [3, 0]] 4 1 ds', [decide (0 < c.t) = true, 2 ≤ 9223372036854775807, 3 * 16 ≤ 140737488355328, 3 ≤ 9223372036854775807]) := by kernel_rfl
theorem sp_1 : run E3 5 (spB [1,1,1,0,1,0,0]) [0, 4, 5] [1, 3, 4] 0 ds' (spFr c n l 4 i [t]) =
    some (.normal, spFr c (addN n 1) (l ++ [[3, i]]) 4 (w64 (i + 1)) ds', [decide (i < c.t) = true, n = l.length, (n + 1) * 16 ≤ 140737488355328, n + 1 ≤ 9223372036854775807]) := by kernel_rfl
theorem sp_1e : run E3 5 (spB [1,1,1,0,1,0,0]) [0, 1, 2] [1, 3] 0 ds' (spFr c n l 4 i [f]) = some (.exit 0, spFrE c n l ds', [decide (i < c.t) = false]) := by kernel_rfl
theorem sp_12 : execR E3 5 (.exit 0) [.blk 0, .code (spB [1,1,1,1])] [0, 1, 2] [1, 3, 5] 0 ds' (spFrE c n l []) =
    some (.normal, [.code (.loop (spB [1,1,1,1,0,1,0,0])), .blk 2, .code (spB [1,1,1,1,1])], spFr c n l 5 0 ds', []) := by kernel_rfl
theorem sp_2 : run E3 5 (spB [1,1,1,1,0,1,0,0]) [0, 4, 5] [1, 3, 5] 0 ds' (spFr c n l 5 i [t]) =
    some (.normal, spFr c (addN n 4) (l ++ [[4, i], [5, i], [6, i], [7, i]]) 5 (w64 (i + 1)) ds', [decide (i < c.s) = true, n = l.length, (n + 4) * 16 ≤ 140737488355328, n + 4 ≤ 9223372036854775807]) := by kernel_rfl
theorem sp_2e : run E3 5 (spB [1,1,1,1,0,1,0,0]) [0, 1, 2] [1, 3] 0 ds' (spFr c n l 5 i [f]) = some (.exit 2, spFrE c n l ds', [decide (i < c.s) = false]) := by kernel_rfl
theorem sp_23 : execR E3 5 (.exit 2) [.blk 2, .code (spB [1,1,1,1,1])] [0, 1, 2] [1, 3, 6] 0 ds' (spFrE c n l []) =
    some (.normal, [.code (.loop (spB [1,1,1,1,1,0,1,0,0])), .blk 4, .code (spB [1,1,1,1,1,1])], spFr c n l 6 0 ds', []) := by kernel_rfl
theorem sp_3 : run E3 5 (spB [1,1,1,1,1,0,1,0,0]) [0, 4, 5] [1, 3, 6] 0 ds' (spFr c n l 6 i [t]) =
    some (.normal, spFr c (addN n 1) (l ++ [[8, i]]) 6 (w64 (i + 1)) ds', [decide (i < c.k) = true, n = l.length, (n + 1) * 16 ≤ 140737488355328, n + 1 ≤ 9223372036854775807]) := by kernel_rfl
theorem sp_3e : run E3 5 (spB [1,1,1,1,1,0,1,0,0]) [0, 1, 2] [1, 3] 0 ds' (spFr c n l 6 i [f]) = some (.exit 4, spFrE c n l ds', [decide (i < c.k) = false]) := by kernel_rfl
theorem sp_out : execR E3 5 (.exit 4) [.blk 4, .code (spB [1,1,1,1,1,1])] [1, 2] [2] 0 ds' (spFrE c n l []) =
    some (.ret, [], mkFr 53 [(2, .slice (some ⟨0, 0, some 1⟩) n 0)] [(0, .own (.recs [.i64, .i64] l spotT) 1)] 2 [] ds', []) := by kernel_rfl
end

theorem addN_add (a b : Nat) : addN a b = a + b := by
  unfold addN
  cases h : Nat.beq a 0
  · rfl
  · have := Nat.eq_of_beq_eq_true h
    subst this
    simp

open Dec in
theorem spots_ref (c : Cfg) (h : c.Right) : CallC Tryz.prog spotsF [c.v] ⟨[], 0, []⟩ (.slice (some ⟨0, 0, some 1⟩) c.spots.length 0) ⟨[(0, .own (.recs [.i64, .i64] c.spots spotT) 1)], 2, []⟩ := by
  have h' := h
  unfold Cfg.Right at h'
  obtain ⟨T, hT⟩ : ∃ T : Nat, c.t = (T : Int) := ⟨c.t.toNat, by omega⟩
  obtain ⟨Sn, hS⟩ : ∃ Sn : Nat, c.s = (Sn : Int) := ⟨c.s.toNat, by omega⟩
  obtain ⟨K, hK⟩ : ∃ K : Nat, c.k = (K : Int) := ⟨c.k.toNat, by omega⟩
  have hl : c.spots = spK T Sn K := by simp [Cfg.spots, hT, hS, hK]
  have z0 : ∀ (ns : List Nat) k, k < 0 → ns.getD k 0 = k := fun ns k hk => absurd hk (Nat.not_lt_zero k)
  have hw : ∀ i : Nat, i < 100 → w64 ((i : Int) + 1) = ((i + 1 : Nat) : Int) := fun i hi => by rw [w64_in (by omega) (by omega)]; omega
  refine CallC.of_body (E := E3) (ds := [f]) (fn := Tryz.f104) 52 (by kernel_rfl) (by kernel_rfl) (by kernel_rfl) (by kernel_rfl) ?_
  refine KC.of_exec E3ok (sp_in c [t]) (by simp [rightB, h]) (Nat.zero_le _) (z0 _) ?_
  -- threads
  refine KC.loop (m0 := 0) (fun i : Nat => if i = 0 then spFr0 c [t] else spFr c (2 + i) (spT i) 4 i (if i < T then [t] else [f])) (fun i => i ≤ T) (fun i => T - i) (fun ex fr => ex = .exit 0 ∧ fr = spFrE c (2 + T) (spT T) []) (fun i hi => ?_) ?_ 0 (Nat.zero_le _)
  · by_cases hi0 : i = 0
    · subst hi0
      rw [if_pos rfl]
      refine CodeC.of_run E3ok (sp_1z c (if 1 < T then [t] else [f])) ?_ (Nat.zero_le _) (z0 _) (.inl ⟨rfl, 1, rfl, by omega, by omega⟩)
      exact pcs_of ⟨decide_eq_true (by omega), by omega, by omega, by omega, trivial⟩
    · rw [if_neg hi0]
      by_cases hlt : i < T
      · rw [if_pos hlt]
        refine CodeC.of_run E3ok (sp_1 c (2 + i) (spT i) i (if i + 1 < T then [t] else [f])) ?_ (Nat.zero_le _) (z0 _) (.inl ⟨rfl, i + 1, ?_, by omega, by omega⟩)
        · exact pcs_of ⟨decide_eq_true (by omega), (spT_len i).symm, by omega, by omega, trivial⟩
        · rw [if_neg (Nat.succ_ne_zero i), spT_succ, addN_add, hw i (by omega), Nat.add_assoc]
      · rw [if_neg hlt]
        have : i = T := by omega
        subst this
        refine CodeC.of_run E3ok (sp_1e c (2 + i) (spT i) i []) ?_ (Nat.zero_le _) (z0 _) (.inr ⟨by simp, rfl, rfl⟩)
        exact pcs_of ⟨decide_eq_false (by omega), trivial⟩
  rintro ex fr1 ⟨rfl, rfl⟩
  refine KC.of_exec E3ok (sp_12 c (2 + T) (spT T) [t]) (by simp) (Nat.zero_le _) (z0 _) ?_
  -- slots
  have e0 : spFr c (2 + T) (spT T) 5 0 [t] = spFr c (2 + T + 4 * 0) (spS T 0) 5 (0 : Nat) (if 0 < Sn then [t] else [f]) := by
    rw [if_pos (by omega)]
    simp [spS]
  rw [e0]
  refine KC.loop (m0 := 0) (fun i : Nat => spFr c (2 + T + 4 * i) (spS T i) 5 i (if i < Sn then [t] else [f])) (fun i => i ≤ Sn) (fun i => Sn - i) (fun ex fr => ex = .exit 2 ∧ fr = spFrE c (2 + T + 4 * Sn) (spS T Sn) []) (fun i hi => ?_) ?_ 0 (Nat.zero_le _)
  · by_cases hlt : i < Sn
    · simp only [if_pos hlt]
      refine CodeC.of_run E3ok (sp_2 c (2 + T + 4 * i) (spS T i) i (if i + 1 < Sn then [t] else [f])) ?_ (Nat.zero_le _) (z0 _) (.inl ⟨rfl, i + 1, ?_, by omega, by omega⟩)
      · exact pcs_of ⟨decide_eq_true (by omega), (spS_len T i).symm, by omega, by omega, trivial⟩
      rw [spS_succ, addN_add, hw i (by omega), Nat.mul_add, Nat.mul_one, Nat.add_assoc]
    · simp only [if_neg hlt]
      have : i = Sn := by omega
      subst this
      refine CodeC.of_run E3ok (sp_2e c (2 + T + 4 * i) (spS T i) i []) ?_ (Nat.zero_le _) (z0 _) (.inr ⟨by simp, rfl, rfl⟩)
      exact pcs_of ⟨decide_eq_false (by omega), trivial⟩
  rintro ex fr1 ⟨rfl, rfl⟩
  refine KC.of_exec E3ok (sp_23 c (2 + T + 4 * Sn) (spS T Sn) [t]) (by simp) (Nat.zero_le _) (z0 _) ?_
  -- keys
  have e1 : spFr c (2 + T + 4 * Sn) (spS T Sn) 6 0 [t] = spFr c (2 + T + 4 * Sn + 0) (spK T Sn 0) 6 (0 : Nat) (if 0 < K then [t] else [f]) := by
    rw [if_pos (by omega)]
    simp [spK]
  rw [e1]
  refine KC.loop (m0 := 0) (fun i : Nat => spFr c (2 + T + 4 * Sn + i) (spK T Sn i) 6 i (if i < K then [t] else [f])) (fun i => i ≤ K) (fun i => K - i) (fun ex fr => ex = .exit 4 ∧ fr = spFrE c (2 + T + 4 * Sn + K) (spK T Sn K) []) (fun i hi => ?_) ?_ 0 (Nat.zero_le _)
  · by_cases hlt : i < K
    · simp only [if_pos hlt]
      refine CodeC.of_run E3ok (sp_3 c (2 + T + 4 * Sn + i) (spK T Sn i) i (if i + 1 < K then [t] else [f])) ?_ (Nat.zero_le _) (z0 _) (.inl ⟨rfl, i + 1, ?_, by omega, by omega⟩)
      · exact pcs_of ⟨decide_eq_true (by omega), (spK_len T Sn i).symm, by omega, by omega, trivial⟩
      rw [spK_succ, addN_add, hw i (by omega), Nat.add_assoc]
    · simp only [if_neg hlt]
      have : i = K := by omega
      subst this
      refine CodeC.of_run E3ok (sp_3e c (2 + T + 4 * Sn + i) (spK T Sn i) i []) ?_ (Nat.zero_le _) (z0 _) (.inr ⟨by simp, rfl, rfl⟩)
      exact pcs_of ⟨decide_eq_false (by omega), trivial⟩
  rintro ex fr1 ⟨rfl, rfl⟩
  refine KC.of_exec E3ok (sp_out c (2 + T + 4 * Sn + K) (spK T Sn K) []) (by simp) (Nat.zero_le _) (z0 _) (KC.done ⟨by simp, [.slice (some ⟨0, 0, some 1⟩) (2 + T + 4 * Sn + K) 0], [], [0, 1], 0, by kernel_rfl, by simp, ?_, rfl, z0 _⟩)
  rw [hl, spK_len]
  kernel_rfl
end Go.Proofs.YtocfhiafegkfkaaGreat.Ct
namespace Go.Proofs.YtocfhiafegkfkaaGreat.Ct
open Go Go.Proofs Go.Proofs.YtocfhiafegkfkaaGreat.Ev

theorem spT_get {n j : Nat} (h : j < n) : (spT n)[2 + j]? = some [3, (j : Int)] := by
  unfold spT
  rw [List.getElem?_append_right (by simp)]
  simp [h]
theorem spS_pre {t n i : Nat} (h : i < 2 + t) : (spS t n)[i]? = (spT t)[i]? := by
  unfold spS
  rw [List.getElem?_append_left (by rw [spT_len]; exact h)]
theorem flat4_len (n : Nat) : ((List.range n).flatMap fun (j : Nat) => [[4, (j : Int)], [5, (j : Int)], [6, (j : Int)], [7, (j : Int)]]).length = 4 * n := by
  induction n with
  | zero => rfl
  | succ n ih => rw [List.range_succ, List.flatMap_append, List.length_append, ih]; simp; omega
theorem flat4_get {n j r : Nat} (h : j < n) (hr : r < 4) : ((List.range n).flatMap fun (j : Nat) => [[4, (j : Int)], [5, (j : Int)], [6, (j : Int)], [7, (j : Int)]])[4 * j + r]? = some [4 + (r : Int), (j : Int)] := by
  induction n with
  | zero => omega
  | succ n ih =>
    rw [List.range_succ, List.flatMap_append]
    by_cases hj : j < n
    · rw [List.getElem?_append_left (by rw [flat4_len]; omega)]
      exact ih hj
    · have : j = n := by omega
      subst this
      rw [List.getElem?_append_right (by rw [flat4_len]; omega), flat4_len, show 4 * j + r - 4 * j = r by omega]
      match r, hr with
      | 0, _ => rfl
      | 1, _ => rfl
      | 2, _ => rfl
      | 3, _ => rfl
theorem spS_get {t n j r : Nat} (h : j < n) (hr : r < 4) : (spS t n)[2 + t + (4 * j + r)]? = some [4 + (r : Int), (j : Int)] := by
  unfold spS
  rw [List.getElem?_append_right (by rw [spT_len]; omega), spT_len, show 2 + t + (4 * j + r) - (2 + t) = 4 * j + r by omega]
  exact flat4_get h hr
theorem spK_pre {t s n i : Nat} (h : i < 2 + t + 4 * s) : (spK t s n)[i]? = (spS t s)[i]? := by
  unfold spK
  rw [List.getElem?_append_left (by rw [spS_len]; exact h)]
theorem spK_get {t s n j : Nat} (h : j < n) : (spK t s n)[2 + t + 4 * s + j]? = some [8, (j : Int)] := by
  unfold spK
  rw [List.getElem?_append_right (by rw [spS_len]; omega), spS_len, show 2 + t + 4 * s + j - (2 + t + 4 * s) = j by omega]
  simp [h]

theorem spot_get {c : Cfg} (h : c.Right) {kind n : Int} {k : Nat} (hk : cellIx c kind n = (k : Int)) : c.spots[k]? = some [kind, n] := by
  have h' := h
  unfold Cfg.Right at h'
  obtain ⟨T, hT⟩ : ∃ T : Nat, c.t = (T : Int) := ⟨c.t.toNat, by omega⟩
  obtain ⟨Sn, hS⟩ : ∃ Sn : Nat, c.s = (Sn : Int) := ⟨c.s.toNat, by omega⟩
  obtain ⟨K, hK⟩ : ∃ K : Nat, c.k = (K : Int) := ⟨c.k.toNat, by omega⟩
  have hl : c.spots = spK T Sn K := by simp [Cfg.spots, hT, hS, hK]
  rw [hl]
  unfold cellIx at hk
  split at hk
  · rename_i h1
    obtain ⟨m, hm⟩ : ∃ m : Nat, n = (m : Int) := ⟨n.toNat, by omega⟩
    split at hk
    · rename_i hkind
      split at hk
      · have hm0 : n = 0 := by omega
        rcases hkind with hkind | hkind
        · have : k = 0 := by omega
          subst this
          rw [spK_pre (by omega), spS_pre (by omega), hkind, hm0]
          rfl
        · have : k = 1 := by omega
          subst this
          rw [spK_pre (by omega), spS_pre (by omega), hkind, hm0]
          rfl
      · omega
    · split at hk
      · rename_i hkind
        split at hk
        · have : k = 2 + m := by omega
          subst this
          rw [spK_pre (by omega), spS_pre (by omega), spT_get (by omega), hkind, hm]
        · omega
      · split at hk
        · rename_i hkind
          split at hk
          · obtain ⟨r, hr⟩ : ∃ r : Nat, kind = 4 + (r : Int) := ⟨(kind - 4).toNat, by omega⟩
            have : k = 2 + T + (4 * m + r) := by omega
            subst this
            rw [spK_pre (by omega), spS_get (by omega) (by omega), hr, hm]
          · omega
        · split at hk
          · rename_i hkind
            split at hk
            · have : k = 2 + T + 4 * Sn + m := by omega
              subst this
              rw [spK_get (by omega), hkind, hm]
            · omega
          · omega
  · omega
theorem spots_len {c : Cfg} (h : c.Right) : ((c.spots.length : Nat) : Int) = c.len := by
  have h' := h
  unfold Cfg.Right at h'
  unfold Cfg.spots Cfg.len
  rw [spK_len, if_pos h]
  omega
/-- What stands somewhere. -/
def kindAt (c : Cfg) (k : Int) : Int := if k < 2 then k + 1 else if k < 2 + c.t then 3 else if k < 2 + c.t + 4 * c.s then 4 + (k - 2 - c.t) % 4 else 8
def numAt (c : Cfg) (k : Int) : Int := if k < 2 then 0 else if k < 2 + c.t then k - 2 else if k < 2 + c.t + 4 * c.s then (k - 2 - c.t) / 4 else k - 2 - c.t - 4 * c.s
theorem cellIx_at {c : Cfg} (h : c.Right) {k : Int} (h0 : 0 ≤ k) (h1 : k < c.len) : cellIx c (kindAt c k) (numAt c k) = k := by
  have h' := h
  unfold Cfg.Right at h'
  unfold Cfg.len at h1
  rw [if_pos h] at h1
  unfold kindAt numAt
  by_cases a1 : k < 2
  · simp only [if_pos a1]
    unfold cellIx
    rw [if_pos ⟨h, by omega⟩, if_pos (by omega), if_pos (by omega)]
    omega
  · simp only [if_neg a1]
    by_cases a2 : k < 2 + c.t
    · simp only [if_pos a2]
      unfold cellIx
      rw [if_pos ⟨h, by omega⟩, if_neg (by omega), if_pos rfl, if_pos (by omega)]
      omega
    · simp only [if_neg a2]
      by_cases a3 : k < 2 + c.t + 4 * c.s
      · simp only [if_pos a3]
        unfold cellIx
        rw [if_pos ⟨h, by omega⟩, if_neg (by omega), if_neg (by omega), if_pos (by omega), if_pos (by omega)]
        omega
      · simp only [if_neg a3]
        unfold cellIx
        rw [if_pos ⟨h, by omega⟩, if_neg (by omega), if_neg (by omega), if_neg (by omega), if_pos rfl, if_pos (by omega)]
        omega

theorem cellIx_lt {c : Cfg} (kind n : Int) : cellIx c kind n < c.len ∨ cellIx c kind n = -1 := by
  unfold cellIx
  split
  · rename_i h
    have h' := h.1
    unfold Cfg.Right at h'
    unfold Cfg.len
    rw [if_pos h.1]
    split
    · split <;> omega
    · split
      · split <;> omega
      · split
        · split <;> omega
        · split
          · split <;> omega
          · omega
  · exact .inr rfl
theorem cellIx_ge (c : Cfg) (kind n : Int) : -1 ≤ cellIx c kind n := by
  unfold cellIx
  split
  · rename_i h
    have h' := h.1
    unfold Cfg.Right at h'
    split
    · split <;> omega
    · split
      · split <;> omega
      · split
        · split <;> omega
        · split
          · split <;> omega
          · omega
  · omega
end Go.Proofs.YtocfhiafegkfkaaGreat.Ct
namespace Go.Proofs.YtocfhiafegkfkaaGreat.Ct
open Go Go.Proofs Go.Proofs.YtocfhiafegkfkaaGreat.Ev

def gSpots (args : List Value) (hp : Hp) : Option (Value × Hp × List Prop) :=
  match args with
  | [v] => match cfgOf v with
    | some c => some (.slice (some ⟨hp.next, 0, some (hp.next + 1)⟩) c.spots.length 0, ⟨(hp.next, .own (.recs [.i64, .i64] c.spots spotT) (hp.next + 1)) :: delB [hp.next] hp.blks, hp.next + 2, hp.log⟩, [c.Right])
    | none => none
  | _ => none
theorem gSpots_ok : ∀ args hp v hp' pc, gSpots args hp = some (v, hp', pc) → ∀ ds, CallOk Tryz.prog spotsF args hp ⟨v, hp', ds, pc⟩ := by
  intro args hp v hp' pc hg ds
  unfold gSpots at hg
  split at hg
  · split at hg
    · rename_i c hc
      simp only [Option.some.injEq, Prod.mk.injEq] at hg
      obtain ⟨rfl, rfl, rfl⟩ := hg
      rw [cfgOf_some hc]
      exact CallC.fresh (enters (fn := Tryz.f104) (by kernel_rfl) (by kernel_rfl) rfl) (fun h => spots_ref c (h _ (by simp))) rfl (fun _ => rfl) hp ds
    · cases hg
  · cases hg
noncomputable def E4 : Env := E3.add spotsF gSpots
theorem E4ok : EnvOk E4 := E3ok.add gSpots_ok

theorem len_ref (c : Cfg) (h : c.Right) : CallC Tryz.prog 60 [c.v] ⟨[], 0, []⟩ (.int .i64 c.len) ⟨[], 0, []⟩ := by
  rw [← spots_len h]
  exact path E4ok 5 (ds := []) (pc := [c.Right]) (by kernel_rfl) (by simp [h]) rfl

noncomputable abbrev ceB (p : List Nat) : Code := bd Tryz.f66 p
def fld (l : List (List Int)) (i r : Nat) : Int := (l.getD ((i * 2 + r) / 2) []).getD ((i * 2 + r) % 2) 0
def ceFr (kind n : Int) (N : Nat) (l : List (List Int)) (i : Int) (ds : List Dec) : Fr := mkFr 34 [(1, .int .i64 kind), (2, .int .i64 n), (7, .slice (some ⟨0, 0, some 1⟩) N 0), (8, .int .i64 i)] [(0, .own (.recs [.i64, .i64] l spotT) 1)] 2 [] ds
open Dec in
section
variable (c : Cfg) (kind n : Int) (N : Nat) (l : List (List Int)) (i : Nat) (ds' : List Dec)
theorem ce_in : execR E4 5 .normal [.code (ceB [])] [1, 2] [1, 2, 7, 8] 0 ds' ⟨[c.v, .int .i64 kind, .int .i64 n] ++ List.replicate 31 undef, ⟨[], 0, []⟩, [], []⟩ =
    some (.normal, [.code (.loop (ceB [1,1,0,1,0,0])), .blk 0, .code (ceB [1,1,1])], ceFr kind n c.spots.length c.spots 0 ds', [c.Right]) := by kernel_rfl
theorem ce_hit : run E4 5 (ceB [1,1,0,1,0,0]) [] [6] 0 ds' (ceFr kind n N l i [t, t, t]) = some (.ret, mkFr 34 [(6, .int .i64 i)] [] 0 [] ds',
    [decide ((i : Int) < (N : Int)) = true, 0 ≤ (i : Int), (i : Int) < (N : Int), (i * 2 + 0) / 2 < l.length, (fld l i 0 == kind) = true, 0 ≤ (i : Int), (i : Int) < (N : Int), (i * 2 + 1) / 2 < l.length, (fld l i 1 == n) = true]) := by kernel_rfl
theorem ce_no1 : run E4 5 (ceB [1,1,0,1,0,0]) [0, 1] [1, 2, 7, 8] 0 ds' (ceFr kind n N l i [t, f, Dec.l]) = some (.normal, ceFr kind n N l (w64 ((i : Int) + 1)) ds',
    [decide ((i : Int) < (N : Int)) = true, 0 ≤ (i : Int), (i : Int) < (N : Int), (i * 2 + 0) / 2 < l.length, (fld l i 0 == kind) = false]) := by kernel_rfl
theorem ce_no2 : run E4 5 (ceB [1,1,0,1,0,0]) [0, 1] [1, 2, 7, 8] 0 ds' (ceFr kind n N l i [t, t, f]) = some (.normal, ceFr kind n N l (w64 ((i : Int) + 1)) ds',
    [decide ((i : Int) < (N : Int)) = true, 0 ≤ (i : Int), (i : Int) < (N : Int), (i * 2 + 0) / 2 < l.length, (fld l i 0 == kind) = true, 0 ≤ (i : Int), (i : Int) < (N : Int), (i * 2 + 1) / 2 < l.length, (fld l i 1 == n) = false]) := by kernel_rfl
theorem ce_end : run E4 5 (ceB [1,1,0,1,0,0]) [] [] 0 ds' (ceFr kind n N l i [f]) = some (.exit 0, mkFr 34 [] [] 0 [] ds', [decide ((i : Int) < (N : Int)) = false]) := by kernel_rfl
theorem ce_out : execR E4 5 (.exit 0) [.blk 0, .code (ceB [1,1,1])] [] [6] 0 ds' (mkFr 34 [] [] 0 [] []) = some (.ret, [], mkFr 34 [(6, .int .i64 (-1))] [] 0 [] ds', []) := by kernel_rfl
theorem ce_ret : execR E4 5 .ret [.blk 0, .code (ceB [1,1,1])] [] [6] 0 ds' (mkFr 34 [(6, .int .i64 n)] [] 0 [] []) = some (.ret, [], mkFr 34 [(6, .int .i64 n)] [] 0 [] ds', []) := by kernel_rfl
end
theorem fld0 (l : List (List Int)) (i : Nat) : fld l i 0 = (l.getD i []).getD 0 0 := by
  unfold fld
  rw [show (i * 2 + 0) / 2 = i by omega, show (i * 2 + 0) % 2 = 0 by omega]
theorem fld1 (l : List (List Int)) (i : Nat) : fld l i 1 = (l.getD i []).getD 1 0 := by
  unfold fld
  rw [show (i * 2 + 1) / 2 = i by omega, show (i * 2 + 1) % 2 = 1 by omega]

open Dec in
theorem cell_ref (c : Cfg) (h : c.Right) (kind n : Int) : CallC Tryz.prog 66 [c.v, .int .i64 kind, .int .i64 n] ⟨[], 0, []⟩ (.int .i64 (cellIx c kind n)) ⟨[], 0, []⟩ := by
  have z0 : ∀ (ns : List Nat) k, k < 0 → ns.getD k 0 = k := fun ns k hk => absurd hk (Nat.not_lt_zero k)
  have hlen := spots_len h
  have hlen' : c.len ≤ 70 := by
    have h' := h
    unfold Cfg.Right at h'
    unfold Cfg.len
    rw [if_pos h]
    omega
  have hlen2 : c.spots.length ≤ 70 := by omega
  have hw : ∀ i : Nat, i < 100 → w64 ((i : Int) + 1) = ((i + 1 : Nat) : Int) := fun i hi => by rw [w64_in (by omega) (by omega)]; omega
  have hat : ∀ k : Nat, k < c.spots.length → c.spots.getD k [] = [kindAt c k, numAt c k] ∧ cellIx c (kindAt c k) (numAt c k) = k := fun k hk => by
    have h1 := cellIx_at h (k := (k : Int)) (by omega) (by omega)
    have h2 := spot_get h h1
    exact ⟨by rw [List.getD_eq_getElem?_getD, h2]; rfl, h1⟩
  refine CallC.of_body (E := E4) (ds := []) (fn := Tryz.f66) 31 (by kernel_rfl) (by kernel_rfl) (by kernel_rfl) (by kernel_rfl) ?_
  let dsf : Nat → List Dec := fun i => if i < c.spots.length then (if fld c.spots i 0 = kind then (if fld c.spots i 1 = n then [t, t, t] else [t, t, f]) else [t, f, Dec.l]) else [f]
  refine KC.of_exec E4ok (ce_in c kind n (dsf 0)) (pcs_of ⟨h, trivial⟩) (Nat.zero_le _) (z0 _) ?_
  refine KC.loop (m0 := 0) (fun i : Nat => ceFr kind n c.spots.length c.spots i (dsf i)) (fun i => i ≤ c.spots.length ∧ ∀ j, j < i → c.spots.getD j [] ≠ [kind, n]) (fun i => c.spots.length - i)
    (fun ex fr => (ex = .exit 0 ∧ fr = mkFr 34 [] [] 0 [] [] ∧ cellIx c kind n = -1) ∨ (ex = .ret ∧ fr = mkFr 34 [(6, .int .i64 (cellIx c kind n))] [] 0 [] [])) (fun i hi => ?_) ?_ 0 ⟨Nat.zero_le _, fun j hj => absurd hj (Nat.not_lt_zero j)⟩
  · obtain ⟨hle, hno⟩ := hi
    by_cases hlt : i < c.spots.length
    · obtain ⟨ha1, ha2⟩ := hat i hlt
      have g0 : fld c.spots i 0 = kindAt c i := by rw [fld0, ha1]; rfl
      have g1 : fld c.spots i 1 = numAt c i := by rw [fld1, ha1]; rfl
      have p1 : decide ((i : Int) < (c.spots.length : Int)) = true := decide_eq_true (by omega)
      have p2 : (i * 2 + 0) / 2 < c.spots.length := by omega
      have p3 : (i * 2 + 1) / 2 < c.spots.length := by omega
      by_cases hk : fld c.spots i 0 = kind
      · by_cases hn : fld c.spots i 1 = n
        · have hds : dsf i = [t, t, t] := by simp only [dsf, if_pos hlt, if_pos hk, if_pos hn]
          simp only [hds]
          have hc : (i : Int) = cellIx c kind n := by rw [← ha2, ← g0, ← g1, hk, hn]
          refine CodeC.of_run E4ok (ce_hit kind n _ _ i []) (pcs_of ⟨p1, by omega, by omega, p2, by simp [hk], by omega, by omega, p3, by simp [hn], trivial⟩) (Nat.zero_le _) (z0 _) (.inr ⟨by simp, .inr ⟨rfl, by rw [hc]⟩⟩)
        · have hds : dsf i = [t, t, f] := by simp only [dsf, if_pos hlt, if_pos hk, if_neg hn]
          simp only [hds]
          refine CodeC.of_run E4ok (ce_no2 kind n _ _ i (dsf (i + 1))) (pcs_of ⟨p1, by omega, by omega, p2, by simp [hk], by omega, by omega, p3, by simp [hn], trivial⟩) (Nat.zero_le _) (z0 _) (.inl ⟨rfl, i + 1, by rw [hw i (by omega)], ⟨hlt, fun j hj => ?_⟩, by omega⟩)
          by_cases hji : j = i
          · subst hji
            intro e
            rw [fld1, e] at hn
            exact hn rfl
          · exact hno j (by omega)
      · have hds : dsf i = [t, f, Dec.l] := by simp only [dsf, if_pos hlt, if_neg hk]
        simp only [hds]
        refine CodeC.of_run E4ok (ce_no1 kind n _ _ i (dsf (i + 1))) (pcs_of ⟨p1, by omega, by omega, p2, by simp [hk], trivial⟩) (Nat.zero_le _) (z0 _) (.inl ⟨rfl, i + 1, by rw [hw i (by omega)], ⟨hlt, fun j hj => ?_⟩, by omega⟩)
        by_cases hji : j = i
        · subst hji
          intro e
          rw [fld0, e] at hk
          exact hk rfl
        · exact hno j (by omega)
    · have hds : dsf i = [f] := by simp only [dsf, if_neg hlt]
      simp only [hds]
      refine CodeC.of_run E4ok (ce_end kind n _ _ i []) (pcs_of ⟨decide_eq_false (by omega), trivial⟩) (Nat.zero_le _) (z0 _) (.inr ⟨by simp, .inl ⟨rfl, rfl, ?_⟩⟩)
      rcases cellIx_lt (c := c) kind n with h1 | h1
      · have h2 := cellIx_ge c kind n
        by_cases h3 : cellIx c kind n = -1
        · exact h3
        · exfalso
          obtain ⟨k, hk⟩ : ∃ k : Nat, cellIx c kind n = (k : Int) := ⟨(cellIx c kind n).toNat, by omega⟩
          have h4 := spot_get h hk
          have h5 : k < c.spots.length := (List.getElem?_eq_some_iff.1 h4).1
          exact hno k (by omega) (by rw [List.getD_eq_getElem?_getD, h4]; rfl)
      · exact h1
  rintro ex fr1 (⟨rfl, rfl, hc⟩ | ⟨rfl, rfl⟩)
  · rw [hc]
    exact KC.of_exec E4ok (ce_out []) (pcs_of trivial) (Nat.zero_le _) (z0 _) (KC.done ⟨by simp, [.int .i64 (-1)], [], [], 0, by kernel_rfl, by simp, by kernel_rfl, rfl, z0 _⟩)
  · exact KC.of_exec E4ok (ce_ret (cellIx c kind n) []) (pcs_of trivial) (Nat.zero_le _) (z0 _) (KC.done ⟨by simp, [.int .i64 (cellIx c kind n)], [], [], 0, by kernel_rfl, by simp, by kernel_rfl, rfl, z0 _⟩)

def gLenR (args : List Value) (hp : Hp) : Option (Value × Hp × List Prop) :=
  match args with
  | [v] => match cfgOf v with
    | some c => some (.int .i64 c.len, hp, [c.Right])
    | none => none
  | _ => none
theorem gLenR_ok : ∀ args hp v hp' pc, gLenR args hp = some (v, hp', pc) → ∀ ds, CallOk Tryz.prog 60 args hp ⟨v, hp', ds, pc⟩ := by
  intro args hp v hp' pc hg ds
  unfold gLenR at hg
  split at hg
  · split at hg
    · rename_i c hc
      simp only [Option.some.injEq, Prod.mk.injEq] at hg
      obtain ⟨rfl, rfl, rfl⟩ := hg
      rw [cfgOf_some hc]
      exact CallC.pure (enters (fn := Tryz.f60) (by kernel_rfl) (by kernel_rfl) rfl) (fun h => len_ref c (h _ (by simp))) rfl rfl hp ds
    · cases hg
  · cases hg
def gCellR (args : List Value) (hp : Hp) : Option (Value × Hp × List Prop) :=
  match args with
  | [v, .int .i64 kind, .int .i64 n] => match cfgOf v with
    | some c => some (.int .i64 (cellIx c kind n), hp, [c.Right])
    | none => none
  | _ => none
theorem gCellR_ok : ∀ args hp v hp' pc, gCellR args hp = some (v, hp', pc) → ∀ ds, CallOk Tryz.prog 66 args hp ⟨v, hp', ds, pc⟩ := by
  intro args hp v hp' pc hg ds
  unfold gCellR at hg
  split at hg
  · split at hg
    · rename_i _ _ kind n _ c hc
      simp only [Option.some.injEq, Prod.mk.injEq] at hg
      obtain ⟨rfl, rfl, rfl⟩ := hg
      rw [cfgOf_some hc]
      exact CallC.pure (enters (fn := Tryz.f66) (by kernel_rfl) (by kernel_rfl) rfl) (fun h => cell_ref c (h _ (by simp)) kind n) rfl rfl hp ds
    · cases hg
  · cases hg
noncomputable def E5 : Env := (E4.add 60 gLenR).add 66 gCellR
theorem E5ok : EnvOk E5 := (E4ok.add gLenR_ok).add gCellR_ok
end Go.Proofs.YtocfhiafegkfkaaGreat.Ct
namespace Go.Proofs.YtocfhiafegkfkaaGreat.Ct
open Go Go.Proofs Go.Proofs.YtocfhiafegkfkaaGreat.Ev

def qAt (c : Cfg) (k j : Int) : Int := w64 ((w64 (k - (spanOf c j).a)).tdiv (spanOf c j).d)
theorem kindAt_in {c : Cfg} (h : c.Right) {k : Int} (h0 : 0 ≤ k) : 1 ≤ kindAt c k ∧ kindAt c k ≤ 8 := by
  have h' := h
  unfold Cfg.Right at h'
  unfold kindAt
  split
  · omega
  · split
    · omega
    · split <;> omega
theorem qAt_hit {c : Cfg} (h : c.Right) {k : Int} (h0 : 0 ≤ k) (h1 : k < c.len) : (spanOf c (kindAt c k)).d ≠ 0 ∧ qAt c k (kindAt c k) = numAt c k := by
  have h' := h
  unfold Cfg.Right at h'
  unfold Cfg.len at h1
  rw [if_pos h] at h1
  have e1 : w64 (2 + c.t) = 2 + c.t := w64_in (by omega) (by omega)
  have e2 : w64 (4 * c.s) = 4 * c.s := w64_in (by omega) (by omega)
  have e3 : w64 (2 + c.t + 4 * c.s) = 2 + c.t + 4 * c.s := w64_in (by omega) (by omega)
  have fin : ∀ a d : Int, -100 ≤ a → a ≤ 100 → (d = 1 ∨ d = 4) → 0 ≤ k - a → w64 ((w64 (k - a)).tdiv d) = (k - a) / d := fun a d b1 b2 hd hp => by
    rw [show w64 (k - a) = k - a from w64_in (by omega) (by omega), Int.tdiv_eq_ediv_of_nonneg hp]
    rcases hd with rfl | rfl <;> exact w64_in (by omega) (by omega)
  unfold qAt kindAt numAt
  by_cases a1 : k < 2
  · simp only [if_pos a1]
    unfold spanOf
    rw [if_pos (by omega)]
    have e5 : w64 (k + 1 - 1) = k := by rw [w64_in (by omega) (by omega)]; omega
    simp only [e5]
    refine ⟨by omega, ?_⟩
    rw [fin _ _ (by omega) (by omega) (.inl rfl) (by omega)]
    omega
  · simp only [if_neg a1]
    by_cases a2 : k < 2 + c.t
    · simp only [if_pos a2]
      unfold spanOf
      rw [if_neg (by omega), if_pos rfl]
      refine ⟨by simp, ?_⟩
      simp only []
      rw [fin _ _ (by omega) (by omega) (.inl rfl) (by omega)]
      omega
    · simp only [if_neg a2]
      by_cases a3 : k < 2 + c.t + 4 * c.s
      · simp only [if_pos a3]
        unfold spanOf
        rw [if_neg (by omega), if_neg (by omega), if_pos (by omega)]
        have e5 : w64 (2 + c.t + (4 + (k - 2 - c.t) % 4)) = 2 + c.t + (4 + (k - 2 - c.t) % 4) := w64_in (by omega) (by omega)
        have e6 : w64 (2 + c.t + (4 + (k - 2 - c.t) % 4) - 4) = 2 + c.t + (4 + (k - 2 - c.t) % 4) - 4 := w64_in (by omega) (by omega)
        simp only [e1, e5, e6]
        refine ⟨by omega, ?_⟩
        rw [fin _ _ (by omega) (by omega) (.inr rfl) (by omega)]
        omega
      · simp only [if_neg a3]
        unfold spanOf
        rw [if_neg (by omega), if_neg (by omega), if_neg (by omega), if_pos rfl]
        simp only [e1, e2, e3]
        refine ⟨by omega, ?_⟩
        rw [fin _ _ (by omega) (by omega) (.inl rfl) (by omega)]
        omega
theorem cellIx_uniq {c : Cfg} (h : c.Right) {j n j' n' : Int} {k : Int} (h0 : 0 ≤ k) (h1 : cellIx c j n = k) (h2 : cellIx c j' n' = k) : j = j' ∧ n = n' := by
  obtain ⟨m, rfl⟩ : ∃ m : Nat, k = (m : Int) := ⟨k.toNat, by omega⟩
  have a := spot_get h h1
  have b := spot_get h h2
  rw [a] at b
  simp at b
  exact b
theorem span_d {c : Cfg} {j : Int} (h1 : 1 ≤ j) (h2 : j ≤ 8) : (spanOf c j).d ≠ 0 := by
  unfold spanOf
  split
  · simp
  · split
    · simp
    · split
      · simp
      · split
        · simp
        · omega

noncomputable abbrev atB (p : List Nat) : Code := bd Tryz.f39 p
abbrev spotC : TypeId := 40
def atFr (c : Cfg) (k j : Int) (ds : List Dec) : Fr := mkFr 40 [(1, .int .i64 k), (2, .pointer (some ⟨0, 0, none⟩)), (4, .pointer (some ⟨1, 0, none⟩)), (5, .int .i64 j)] [(0, .cells c.cells cfgT), (1, .cells [.int .i64 0, .int .i64 0] spotC)] 2 [] ds
def atEnd (a b : Int) (ds : List Dec) : Fr := mkFr 40 [(4, .pointer (some ⟨0, 0, none⟩))] [(0, .cells [.int .i64 a, .int .i64 b] spotC)] 1 [] ds
open Dec in
section
variable (c : Cfg) (k j a b : Int) (ds' : List Dec)
theorem at_in : execR E5 5 .normal [.code (atB [])] [0, 1] [1, 2, 4, 5] 0 ds' ⟨[c.v, .int .i64 k] ++ List.replicate 38 undef, ⟨[], 0, []⟩, [f, f], []⟩ =
    some (.normal, [.code (.loop (atB [1,1,0,1,0,0])), .blk 0, .code (atB [1,1,1])], atFr c k 1 ds', [decide (k < 0) = false, decide (k ≥ c.len) = false]) := by kernel_rfl
theorem at_hit : run E5 5 (atB [1,1,0,1,0,0]) [1] [4] 0 ds' (atFr c k j [t, t]) = some (.ret, atEnd j (qAt c k j) ds', [decide (j ≤ 8) = true, (spanOf c j).d ≠ 0, (cellIx c j (qAt c k j) == k) = true]) := by kernel_rfl
theorem at_no : run E5 5 (atB [1,1,0,1,0,0]) [0, 1] [1, 2, 4, 5] 0 ds' (atFr c k j [t, f]) = some (.normal, atFr c k (w64 (j + 1)) ds', [decide (j ≤ 8) = true, (spanOf c j).d ≠ 0, (cellIx c j (qAt c k j) == k) = false]) := by kernel_rfl
theorem at_ret : execR E5 5 .ret [.blk 0, .code (atB [1,1,1])] [0] [4] 0 ds' (atEnd a b []) = some (.ret, [], atEnd a b ds', []) := by kernel_rfl
end
open Dec in
theorem at_chart (c : Cfg) (k : Int) (h : c.Right) (h0 : 0 ≤ k) (h1 : k < c.len) : CallC Tryz.prog 39 [c.v, .int .i64 k] ⟨[], 0, []⟩ (.agg ⟨[.int .i64 (kindAt c k), .int .i64 (numAt c k)]⟩) ⟨[], 0, []⟩ := by
  have z0 : ∀ (ns : List Nat) k, k < 0 → ns.getD k 0 = k := fun ns k hk => absurd hk (Nat.not_lt_zero k)
  obtain ⟨k1, k2⟩ := kindAt_in h h0
  obtain ⟨d0, q0⟩ := qAt_hit h h0 h1
  have hat := cellIx_at h h0 h1
  refine CallC.of_body (E := E5) (ds := [f, f]) (fn := Tryz.f39) 38 (by kernel_rfl) (by kernel_rfl) (by kernel_rfl) (by kernel_rfl) ?_
  refine KC.of_exec E5ok (at_in c k (if (1 : Int) = kindAt c k then [t, t] else [t, f])) (pcs_of ⟨decide_eq_false (by omega), decide_eq_false (by omega), trivial⟩) (Nat.zero_le _) (z0 _) ?_
  have hloop := KC.loop (E := E5) (m0 := 0) (c := atB [1,1,0,1,0,0]) (K := [.blk 0, .code (atB [1,1,1])]) (Fin := Ev.Ends E5 Tryz.f39 0 (.agg ⟨[.int .i64 (kindAt c k), .int .i64 (numAt c k)]⟩) ⟨[], 0, []⟩)
    (fun i : Nat => atFr c k (i : Int) (if (i : Int) = kindAt c k then [t, t] else [t, f])) (fun i => 1 ≤ i ∧ (i : Int) ≤ kindAt c k) (fun i => 9 - i) (fun ex fr => ex = .ret ∧ fr = atEnd (kindAt c k) (numAt c k) []) (fun i hi => ?_) ?_ 1 ⟨Nat.le_refl _, by omega⟩
  · exact hloop
  · obtain ⟨hi1, hi2⟩ := hi
    by_cases he : (i : Int) = kindAt c k
    · rw [if_pos he]
      have := CodeC.of_run (m0 := 0) (Fin := fun ex fr1 => (ex = .normal ∧ ∃ j : Nat, fr1 = atFr c k (j : Int) (if (j : Int) = kindAt c k then [t, t] else [t, f]) ∧ (1 ≤ j ∧ (j : Int) ≤ kindAt c k) ∧ 9 - j < 9 - i) ∨ (ex ≠ .normal ∧ (ex = .ret ∧ fr1 = atEnd (kindAt c k) (numAt c k) []))) E5ok (at_hit c k i [])
        (pcs_of ⟨decide_eq_true (by omega), by rw [he]; exact d0, by rw [he, q0, hat]; simp, trivial⟩) (Nat.zero_le _) (z0 _) (.inr ⟨by simp, rfl, by rw [he, q0]⟩)
      exact this
    · rw [if_neg he]
      refine CodeC.of_run E5ok (at_no c k i (if ((i + 1 : Nat) : Int) = kindAt c k then [t, t] else [t, f])) (pcs_of ⟨decide_eq_true (by omega), span_d (by omega) (by omega), ?_, trivial⟩) (Nat.zero_le _) (z0 _) (.inl ⟨rfl, i + 1, ?_, ⟨by omega, by omega⟩, by omega⟩)
      · rw [beq_eq_false_iff_ne]
        intro hc
        exact he (cellIx_uniq h h0 hc hat).1
      · rw [w64_in (by omega) (by omega)]
        rfl
  · rintro ex fr1 ⟨rfl, rfl⟩
    exact KC.of_exec E5ok (at_ret (kindAt c k) (numAt c k) []) (pcs_of trivial) (Nat.zero_le _) (z0 _) (KC.done ⟨by simp, [.agg ⟨[.int .i64 (kindAt c k), .int .i64 (numAt c k)]⟩], [], [], 0, by kernel_rfl, by simp, by kernel_rfl, rfl, z0 _⟩)

def gAt (args : List Value) (hp : Hp) : Option (Value × Hp × List Prop) :=
  match args with
  | [v, .int .i64 k] => match cfgOf v with
    | some c => some (.agg ⟨[.int .i64 (kindAt c k), .int .i64 (numAt c k)]⟩, hp, [c.Right ∧ 0 ≤ k ∧ k < c.len])
    | none => none
  | _ => none
theorem gAt_ok : ∀ args hp v hp' pc, gAt args hp = some (v, hp', pc) → ∀ ds, CallOk Tryz.prog 39 args hp ⟨v, hp', ds, pc⟩ := by
  intro args hp v hp' pc hg ds
  unfold gAt at hg
  split at hg
  · split at hg
    · rename_i _ _ k _ c hc
      simp only [Option.some.injEq, Prod.mk.injEq] at hg
      obtain ⟨rfl, rfl, rfl⟩ := hg
      rw [cfgOf_some hc]
      exact CallC.pure (enters (fn := Tryz.f39) (by kernel_rfl) (by kernel_rfl) rfl) (fun h => by
        obtain ⟨h1, h2, h3⟩ := h _ (List.mem_cons_self)
        exact at_chart c k h1 h2 h3) rfl rfl hp ds
    · cases hg
  · cases hg
noncomputable def E6 : Env := E5.add 39 gAt
theorem E6ok : EnvOk E6 := E5ok.add gAt_ok
end Go.Proofs.YtocfhiafegkfkaaGreat.Ct
