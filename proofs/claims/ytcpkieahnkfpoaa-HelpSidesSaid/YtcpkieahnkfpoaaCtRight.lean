/- Which worlds there are: both programs tell what one plain function tells. -/
import Derived.Test.YtcpkieahnkfpoaaCtBase
namespace Go.Proofs.Ytcpkieahnkfpoaa.Ct
open Go Go.Proofs Go.Proofs.Ytcpkieahnkfpoaa.Ev

/-- A world's numbers. -/
structure Cfg where
  t : Int
  s : Int
  k : Int
  g : Int
  q : Int
def Cfg.cells (c : Cfg) : List Value := [.int .i64 c.t, .int .i64 c.s, .int .i64 c.k, .int .i64 c.g, .int .u64 c.q]
def Cfg.v (c : Cfg) : Value := .agg ⟨c.cells⟩
def cfgL : List Value → Option Cfg
  | [.int .i64 t, .int .i64 s, .int .i64 k, .int .i64 g, .int .u64 q] => some ⟨t, s, k, g, q⟩
  | _ => none
def cfgOf : Value → Option Cfg
  | .agg ⟨l⟩ => cfgL l
  | _ => none
theorem cfgL_some {l : List Value} {c : Cfg} (h : cfgL l = some c) : l = c.cells := by
  unfold cfgL at h
  split at h
  · obtain rfl := Option.some.inj h; rfl
  · cases h
theorem cfgOf_some {v : Value} {c : Cfg} (h : cfgOf v = some c) : v = c.v := by
  unfold cfgOf at h
  split at h
  · rename_i l
    rw [cfgL_some h]; rfl
  · cases h
theorem Cfg.nm_v (c : Cfg) : nm c.v = [] := rfl

def Cfg.Right (c : Cfg) : Prop := 1 ≤ c.t ∧ c.t ≤ 8 ∧ 1 ≤ c.s ∧ c.s ≤ 12 ∧ 1 ≤ c.k ∧ c.k ≤ 8 ∧ 0 ≤ c.g ∧ c.g ≤ 1073741823 ∧ c.q ≤ 1099511627775
instance (c : Cfg) : Decidable c.Right := by unfold Cfg.Right; infer_instance
def rightB (c : Cfg) : Bool := decide c.Right

theorem enters {P : Program} {f : FuncId} {fn : Func} {c : Code} (hfn : P.funcs[f]? = some fn) (hname : (fn.name == "runtime.NumGoroutine") = false) (hb : fn.body = some c) : Enters P f := fun args w => by
  have hne : ¬ fn.name = "runtime.NumGoroutine" := by simpa using hname
  simp [callFunc, go_sem, hfn, hne, hb]

/-- A path of a function of numbers. -/
theorem path {E : Env} (hE : EnvOk E) (n : Nat) {f : FuncId} {args : List Value} {ds : List Dec} {v : Value} {pc : List Prop} (h : callR E n f args ⟨[], 0, []⟩ ds [] = some (v, ⟨[], 0, []⟩, pc)) (hpc : ∀ p ∈ pc, p) (hv : isDead v = false) :
    CallC E.P f args ⟨[], 0, []⟩ v ⟨[], 0, []⟩ := CallC.of_call hE h hpc hv fun k hk => absurd hk (Nat.not_lt_zero k)

open Dec in
theorem right_ref (c : Cfg) : CallC Try.prog 33 [c.v] ⟨[], 0, []⟩ (.bool (rightB c)) ⟨[], 0, []⟩ := by
  by_cases h1 : c.t < 1
  · rw [show rightB c = false from decide_eq_false (by unfold Cfg.Right; omega)]
    exact path E0ok 5 (ds := [t, l, l, l, l, l]) (pc := [decide (c.t < 1) = true]) (by kernel_rfl) (by simp [h1]) rfl
  by_cases h2 : c.t > 8
  · rw [show rightB c = false from decide_eq_false (by unfold Cfg.Right; omega)]
    exact path E0ok 5 (ds := [f, t, l, l, l, l]) (pc := [decide (c.t < 1) = false, decide (c.t > 8) = true]) (by kernel_rfl) (by simp [h1, h2]) rfl
  by_cases h3 : c.s < 1
  · rw [show rightB c = false from decide_eq_false (by unfold Cfg.Right; omega)]
    exact path E0ok 5 (ds := [f, f, t, l, l, l]) (pc := [decide (c.t < 1) = false, decide (c.t > 8) = false, decide (c.s < 1) = true]) (by kernel_rfl) (by simp [h1, h2, h3]) rfl
  by_cases h4 : c.s > 12
  · rw [show rightB c = false from decide_eq_false (by unfold Cfg.Right; omega)]
    exact path E0ok 5 (ds := [f, f, f, t, l, l]) (pc := [decide (c.t < 1) = false, decide (c.t > 8) = false, decide (c.s < 1) = false, decide (c.s > 12) = true]) (by kernel_rfl) (by simp [h1, h2, h3, h4]) rfl
  by_cases h5 : c.k < 1
  · rw [show rightB c = false from decide_eq_false (by unfold Cfg.Right; omega)]
    exact path E0ok 5 (ds := [f, f, f, f, t, l]) (pc := [decide (c.t < 1) = false, decide (c.t > 8) = false, decide (c.s < 1) = false, decide (c.s > 12) = false, decide (c.k < 1) = true]) (by kernel_rfl) (by simp [h1, h2, h3, h4, h5]) rfl
  by_cases h6 : c.k > 8
  · rw [show rightB c = false from decide_eq_false (by unfold Cfg.Right; omega)]
    exact path E0ok 5 (ds := [f, f, f, f, f, t]) (pc := [decide (c.t < 1) = false, decide (c.t > 8) = false, decide (c.s < 1) = false, decide (c.s > 12) = false, decide (c.k < 1) = false, decide (c.k > 8) = true]) (by kernel_rfl) (by simp [h1, h2, h3, h4, h5, h6]) rfl
  by_cases h7 : c.g ≥ 0
  · by_cases h8 : c.g ≤ 1073741823
    · rw [show rightB c = decide (c.q ≤ 1099511627775) from decide_eq_decide.2 ⟨fun h => h.2.2.2.2.2.2.2.2, fun h => by unfold Cfg.Right; omega⟩]
      exact path E0ok 5 (ds := [f, f, f, f, f, f, t, t]) (pc := [decide (c.t < 1) = false, decide (c.t > 8) = false, decide (c.s < 1) = false, decide (c.s > 12) = false, decide (c.k < 1) = false, decide (c.k > 8) = false, decide (c.g ≥ 0) = true, decide (c.g ≤ 1073741823) = true]) (by kernel_rfl) (by simp [h1, h2, h3, h4, h5, h6, h7, h8]) rfl
    · rw [show rightB c = false from decide_eq_false (by unfold Cfg.Right; omega)]
      exact path E0ok 5 (ds := [f, f, f, f, f, f, t, f]) (pc := [decide (c.t < 1) = false, decide (c.t > 8) = false, decide (c.s < 1) = false, decide (c.s > 12) = false, decide (c.k < 1) = false, decide (c.k > 8) = false, decide (c.g ≥ 0) = true, decide (c.g ≤ 1073741823) = false]) (by kernel_rfl) (by simp [h1, h2, h3, h4, h5, h6, h7, h8]) rfl
  · rw [show rightB c = false from decide_eq_false (by unfold Cfg.Right; omega)]
    exact path E0ok 5 (ds := [f, f, f, f, f, f, f, l]) (pc := [decide (c.t < 1) = false, decide (c.t > 8) = false, decide (c.s < 1) = false, decide (c.s > 12) = false, decide (c.k < 1) = false, decide (c.k > 8) = false, decide (c.g ≥ 0) = false]) (by kernel_rfl) (by simp [h1, h2, h3, h4, h5, h6, h7]) rfl

def eqTo (n from_ most : Int) : Bool := n == if (if most < n then most else n) > from_ then if most < n then most else n else from_
theorem eqTo_iff {n a b : Int} (h : a ≤ b) : eqTo n a b = decide (a ≤ n ∧ n ≤ b) := by
  unfold eqTo
  rw [Bool.eq_iff_iff]
  simp only [beq_iff_eq, decide_eq_true_eq]
  split <;> split <;> omega
theorem right_chart (c : Cfg) : CallC Try.prog 100 [c.v] ⟨[], 0, []⟩ (.bool (rightB c)) ⟨[], 0, []⟩ := by
  have e : rightB c = andL [eqTo c.t 1 8, eqTo c.s 1 12, eqTo c.k 1 8, eqTo c.g 0 1073741823, c.q == if 1099511627775 < c.q then 1099511627775 else c.q] := by
    have hq : (c.q == if 1099511627775 < c.q then 1099511627775 else c.q) = decide (c.q ≤ 1099511627775) := by
      rw [Bool.eq_iff_iff]
      simp only [beq_iff_eq, decide_eq_true_eq]
      split <;> omega
    rw [hq]
    simp only [andL, eqTo_iff (show (1 : Int) ≤ 8 by decide), eqTo_iff (show (1 : Int) ≤ 12 by decide), eqTo_iff (show (0 : Int) ≤ 1073741823 by decide), ← Bool.decide_and, rightB, Cfg.Right, and_assoc]
  rw [e]
  exact path E0ok 6 (ds := []) (pc := []) (by kernel_rfl) (by simp) rfl

/-- The contracts. -/
def gRight (args : List Value) (hp : Hp) : Option (Value × Hp × List Prop) :=
  match args with
  | [v] => match cfgOf v with
    | some c => some (.bool (rightB c), hp, [])
    | none => none
  | _ => none
theorem gRight_ok {f : FuncId} (hent : Enters Try.prog f) (h : ∀ c : Cfg, CallC Try.prog f [c.v] ⟨[], 0, []⟩ (.bool (rightB c)) ⟨[], 0, []⟩) : ∀ args hp v hp' pc, gRight args hp = some (v, hp', pc) → ∀ ds, CallOk Try.prog f args hp ⟨v, hp', ds, pc⟩ := by
  intro args hp v hp' pc hg ds
  unfold gRight at hg
  split at hg
  · split at hg
    · rename_i c hc
      simp only [Option.some.injEq, Prod.mk.injEq] at hg
      obtain ⟨rfl, rfl, rfl⟩ := hg
      rw [cfgOf_some hc]
      exact CallC.pure hent (fun _ => h c) rfl rfl hp ds
    · cases hg
  · cases hg
noncomputable def E1 : Env := (E0.add 33 gRight).add 100 gRight
theorem E1ok : EnvOk E1 :=
  (E0ok.add (gRight_ok (enters (fn := Try.f33) (by kernel_rfl) (by kernel_rfl) rfl) right_ref)).add (gRight_ok (enters (fn := Try.f100) (by kernel_rfl) (by kernel_rfl) rfl) right_chart)
end Go.Proofs.Ytcpkieahnkfpoaa.Ct
