/- The join's step, and the document's, as contracts. -/
import Derived.Test.YtocfhiafegkfkaaGreatCtStat
namespace Go.Proofs.YtocfhiafegkfkaaGreat.Ct
open Go Go.Proofs Go.Proofs.YtocfhiafegkfkaaGreat.Ev
open Go.RowKit

theorem z3 {tl : List Nat} : ∀ k, k < 3 → (0 :: 1 :: 2 :: tl : List Nat).getD k 0 = k := fun k hk => by
  match k, hk with
  | 0, _ => rfl
  | 1, _ => rfl
  | 2, _ => rfl
/-! Whether a commit was ahead of a snapshot -/
def pastI (n s : Int) : Bool := decide (n ≠ 0) && decide (n ≤ s)
open Dec in
section
variable (n s : Int)
theorem pa_t : callR E45 8 169 [.int .u64 n, .int .u64 s] ⟨[], 0, []⟩ [t] [] = some (.bool (decide (n ≤ s)), ⟨[], 0, []⟩, [(n != 0) = true]) := by kernel_rfl
theorem pa_f : callR E45 8 169 [.int .u64 n, .int .u64 s] ⟨[], 0, []⟩ [f] [] = some (.bool false, ⟨[], 0, []⟩, [(n != 0) = false]) := by kernel_rfl
theorem pr_t : callR E45 8 79 [.int .u64 n, .int .u64 s] ⟨[], 0, []⟩ [t] [] = some (.bool (decide (n ≤ s)), ⟨[], 0, []⟩, [decide (n > 0) = true]) := by kernel_rfl
theorem pr_f : callR E45 8 79 [.int .u64 n, .int .u64 s] ⟨[], 0, []⟩ [f] [] = some (.bool false, ⟨[], 0, []⟩, [decide (n > 0) = false]) := by kernel_rfl
end
theorem pa_C (n s : Int) : CallC Tryz.prog 169 [.int .u64 n, .int .u64 s] ⟨[], 0, []⟩ (.bool (pastI n s)) ⟨[], 0, []⟩ := by
  unfold pastI
  by_cases h : n = 0
  · rw [decide_eq_false (show ¬ n ≠ 0 by omega), Bool.false_and]
    exact path E45ok 8 (pa_f n s) (pcs_of ⟨by rw [h]; rfl, trivial⟩) rfl
  · rw [decide_eq_true h, Bool.true_and]
    exact path E45ok 8 (pa_t n s) (pcs_of ⟨bne_iff_ne.2 h, trivial⟩) rfl
theorem pr_C {n : Int} (hn : Wd n) (s : Int) : CallC Tryz.prog 79 [.int .u64 n, .int .u64 s] ⟨[], 0, []⟩ (.bool (pastI n s)) ⟨[], 0, []⟩ := by
  have := hn.1
  unfold pastI
  by_cases h : n = 0
  · rw [decide_eq_false (show ¬ n ≠ 0 by omega), Bool.false_and]
    exact path E45ok 8 (pr_f n s) (pcs_of ⟨decide_eq_false (by omega), trivial⟩) rfl
  · rw [decide_eq_true h, Bool.true_and]
    exact path E45ok 8 (pr_t n s) (pcs_of ⟨decide_eq_true (by omega), trivial⟩) rfl
def gPa (args : List Value) (hp : Hp) : Option (Value × Hp × List Prop) :=
  match args with
  | [.int .u64 n, .int .u64 s] => some (.bool (pastI n s), hp, [Wd n])
  | _ => none
theorem gPa_ok {f : FuncId} (hent : Enters Tryz.prog f) (h : ∀ n s, Wd n → CallC Tryz.prog f [.int .u64 n, .int .u64 s] ⟨[], 0, []⟩ (.bool (pastI n s)) ⟨[], 0, []⟩) : ∀ args hp v hp' pc, gPa args hp = some (v, hp', pc) → ∀ ds, CallOk Tryz.prog f args hp ⟨v, hp', ds, pc⟩ := by
  intro args hp v hp' pc hg ds
  unfold gPa at hg
  split at hg
  · simp only [Option.some.injEq, Prod.mk.injEq] at hg
    obtain ⟨rfl, rfl, rfl⟩ := hg
    exact CallC.pure hent (fun q => h _ _ (hd1 q)) rfl rfl hp ds
  · cases hg
noncomputable def E46 : Env := (E45.add 169 gPa).add 79 gPa
theorem E46ok : EnvOk E46 := (E45ok.add (gPa_ok (enters (fn := Tryz.f169) (by kernel_rfl) (by kernel_rfl) rfl) (fun n s _ => pa_C n s))).add (gPa_ok (enters (fn := Tryz.f79) (by kernel_rfl) (by kernel_rfl) rfl) (fun _ s h => pr_C h s))
/-! The program's join -/
abbrev jStepF : FuncId := 173
abbrev lookF : FuncId := 172
abbrev numF : FuncId := 179
abbrev layF : FuncId := 185
structure Jn where
  sl : Int
  sd : Int
  by' : Int
  s : Int
  fn : FuncId
  sn : Int
  r : Int
def Jn.cells (n : Nat) (j : Jn) : List Value := [.int .i64 j.sl, .int .i64 j.sd, .int .i64 j.by', .int .u64 j.s, .func (.func j.fn) ⟨[.pointer (some ⟨n, 0, none⟩)]⟩ ⟨[]⟩, .int .u64 j.sn, .int .i64 j.r]
def jnL (n : Nat) : List Value → Option Jn
  | [.int .i64 a, .int .i64 b, .int .i64 c, .int .u64 d, .func (.func f) ⟨[.pointer (some ⟨p, 0, none⟩)]⟩ ⟨[]⟩, .int .u64 e, .int .i64 r] => bif Nat.beq p n then some ⟨a, b, c, d, f, e, r⟩ else none
  | _ => none
def jO : Obj Jn := ⟨196, Jn.cells, jnL⟩
theorem jO_ok : jO.Ok := by
  refine ⟨fun n l s h => ?_, .inr fun s => rfl, fun s σ => rfl⟩
  have h' : jnL n l = some s := h
  unfold jnL at h'
  split at h'
  · rename_i p _ _
    cases hp : Nat.beq p n
    · simp [hp] at h'
    · simp only [hp, cond_true, Option.some.injEq] at h'
      have := beq_nat hp
      subst h'; subst this
      rfl
  · cases h'
/-- What a status is judged to be: 2, laid already; 3, it fails; 0, it may be laid. -/
def jdg (s sd by' : Int) : Int := if hasI s sd by' = true then 2 else if nuI s 27 3 ≠ 2 ∧ anyI s (w64 (1 - sd)) = true then 3 else 0
theorem jdg_h {s sd by' : Int} (h : hasI s sd by' = true) : jdg s sd by' = 2 := if_pos h
theorem jdg_a {s sd by' : Int} (h : ¬ hasI s sd by' = true) (h2 : nuI s 27 3 ≠ 2) (ha : anyI s (w64 (1 - sd)) = true) : jdg s sd by' = 3 := by
  unfold jdg
  rw [if_neg h, if_pos ⟨h2, ha⟩]
theorem jdg_0 {s sd by' : Int} (h : ¬ hasI s sd by' = true) (h2 : ¬ (nuI s 27 3 ≠ 2 ∧ anyI s (w64 (1 - sd)) = true)) : jdg s sd by' = 0 := by
  unfold jdg
  rw [if_neg h, if_neg h2]
def Jn.go (j : Jn) : Jn := if jdg j.s j.sd j.by' = 0 then ⟨j.sl, j.sd, j.by', j.s, layF, j.sn, 0⟩ else ⟨j.sl, j.sd, j.by', j.s, j.fn, j.sn, jdg j.s j.sd j.by'⟩
def jVal (j : Jn) (m : Mm) : Int := getW m.w (cellIx m.c 4 j.sl)
def jNum (j : Jn) (m : Mm) : Int := getW m.w (cellIx m.c 6 j.sl)
/-- A step of it. -/
def jSt (j : Jn) (m : Mm) : Jn :=
  if j.r ≠ 0 then j
  else if j.fn = lookF then
    if nuI (jVal j m) 27 3 = 4 then ⟨j.sl, j.sd, j.by', jVal j m, numF, j.sn, 0⟩
    else if nuI (jVal j m) 27 3 = 2 ∨ nuI (jVal j m) 27 3 = 3 then Jn.go ⟨j.sl, j.sd, j.by', jVal j m, lookF, j.sn, 0⟩
    else ⟨j.sl, j.sd, j.by', jVal j m, lookF, j.sn, 1⟩
  else if j.fn = numF then
    if pastI (jNum j m) j.sn = true then ⟨j.sl, j.sd, j.by', j.s, numF, j.sn, 1⟩ else Jn.go ⟨j.sl, j.sd, j.by', j.s, numF, j.sn, 0⟩
  else ⟨j.sl, j.sd, j.by', j.s, lookF, j.sn, if dnS m 4 j.sl j.s = true then 2 else 0⟩
def jMe (j : Jn) (m : Mm) : Mm :=
  if j.r ≠ 0 then m
  else if j.fn = lookF then mLd m 4 j.sl
  else if j.fn = numF then mLd m 6 j.sl
  else mSw m 4 j.sl j.s (withI j.s j.sd j.by')
def jGood (j : Jn) (m : Mm) : Prop := m.ok ∧ WfW m.w ∧ Wd j.s ∧ (j.fn = lookF ∨ j.fn = numF ∨ j.fn = layF)
open Dec in
section
variable (sl sd by' s sn r : Int) (fn : FuncId) (m : Mm)
theorem jl_n : callR E46 12 jStepF (objA []) (objHp jO ⟨sl, sd, by', s, lookF, sn, 0⟩ m) [Dec.l, t] [0, 1, 2] = some (.tuple ⟨[]⟩, objHp jO ⟨sl, sd, by', (getW m.w (cellIx m.c 4 sl)), numF, sn, 0⟩ (mLd m 4 sl), [m.ok, Wd (getW m.w (cellIx m.c 4 sl)), (nuI (getW m.w (cellIx m.c 4 sl)) 27 3 == 4) = true]) := by kernel_rfl
theorem jl_2h : callR E46 12 jStepF (objA []) (objHp jO ⟨sl, sd, by', s, lookF, sn, 0⟩ m) [Dec.l, f, t, t, t] [0, 1, 2] = some (.tuple ⟨[]⟩, objHp jO ⟨sl, sd, by', (getW m.w (cellIx m.c 4 sl)), lookF, sn, 2⟩ (mLd m 4 sl), [m.ok, Wd (getW m.w (cellIx m.c 4 sl)), (nuI (getW m.w (cellIx m.c 4 sl)) 27 3 == 4) = false, (nuI (getW m.w (cellIx m.c 4 sl)) 27 3 == 2) = true, (nuI (getW m.w (cellIx m.c 4 sl)) 27 3 == 2) = true, Wd (getW m.w (cellIx m.c 4 sl)), Wd (getW m.w (cellIx m.c 4 sl)), hasI (getW m.w (cellIx m.c 4 sl)) sd by' = true]) := by kernel_rfl
theorem jl_2e : callR E46 12 jStepF (objA []) (objHp jO ⟨sl, sd, by', s, lookF, sn, 0⟩ m) [Dec.l, f, t, t, f, f, Dec.l] [0, 1, 2] = some (.tuple ⟨[]⟩, objHp jO ⟨sl, sd, by', (getW m.w (cellIx m.c 4 sl)), layF, sn, 0⟩ (mLd m 4 sl), [m.ok, Wd (getW m.w (cellIx m.c 4 sl)), (nuI (getW m.w (cellIx m.c 4 sl)) 27 3 == 4) = false, (nuI (getW m.w (cellIx m.c 4 sl)) 27 3 == 2) = true, (nuI (getW m.w (cellIx m.c 4 sl)) 27 3 == 2) = true, Wd (getW m.w (cellIx m.c 4 sl)), Wd (getW m.w (cellIx m.c 4 sl)), hasI (getW m.w (cellIx m.c 4 sl)) sd by' = false, (nuI (getW m.w (cellIx m.c 4 sl)) 27 3 != 2) = false]) := by kernel_rfl
theorem jl_3h : callR E46 12 jStepF (objA []) (objHp jO ⟨sl, sd, by', s, lookF, sn, 0⟩ m) [Dec.l, f, f, t, t] [0, 1, 2] = some (.tuple ⟨[]⟩, objHp jO ⟨sl, sd, by', (getW m.w (cellIx m.c 4 sl)), lookF, sn, 2⟩ (mLd m 4 sl), [m.ok, Wd (getW m.w (cellIx m.c 4 sl)), (nuI (getW m.w (cellIx m.c 4 sl)) 27 3 == 4) = false, (nuI (getW m.w (cellIx m.c 4 sl)) 27 3 == 2) = false, (nuI (getW m.w (cellIx m.c 4 sl)) 27 3 == 3) = true, Wd (getW m.w (cellIx m.c 4 sl)), Wd (getW m.w (cellIx m.c 4 sl)), hasI (getW m.w (cellIx m.c 4 sl)) sd by' = true]) := by kernel_rfl
theorem jl_3a : callR E46 12 jStepF (objA []) (objHp jO ⟨sl, sd, by', s, lookF, sn, 0⟩ m) [Dec.l, f, f, t, f, t, t] [0, 1, 2] = some (.tuple ⟨[]⟩, objHp jO ⟨sl, sd, by', (getW m.w (cellIx m.c 4 sl)), lookF, sn, 3⟩ (mLd m 4 sl), [m.ok, Wd (getW m.w (cellIx m.c 4 sl)), (nuI (getW m.w (cellIx m.c 4 sl)) 27 3 == 4) = false, (nuI (getW m.w (cellIx m.c 4 sl)) 27 3 == 2) = false, (nuI (getW m.w (cellIx m.c 4 sl)) 27 3 == 3) = true, Wd (getW m.w (cellIx m.c 4 sl)), Wd (getW m.w (cellIx m.c 4 sl)), hasI (getW m.w (cellIx m.c 4 sl)) sd by' = false, (nuI (getW m.w (cellIx m.c 4 sl)) 27 3 != 2) = true, Wd (getW m.w (cellIx m.c 4 sl)), anyI (getW m.w (cellIx m.c 4 sl)) (w64 (1 - sd)) = true]) := by kernel_rfl
theorem jl_3b : callR E46 12 jStepF (objA []) (objHp jO ⟨sl, sd, by', s, lookF, sn, 0⟩ m) [Dec.l, f, f, t, f, t, f] [0, 1, 2] = some (.tuple ⟨[]⟩, objHp jO ⟨sl, sd, by', (getW m.w (cellIx m.c 4 sl)), layF, sn, 0⟩ (mLd m 4 sl), [m.ok, Wd (getW m.w (cellIx m.c 4 sl)), (nuI (getW m.w (cellIx m.c 4 sl)) 27 3 == 4) = false, (nuI (getW m.w (cellIx m.c 4 sl)) 27 3 == 2) = false, (nuI (getW m.w (cellIx m.c 4 sl)) 27 3 == 3) = true, Wd (getW m.w (cellIx m.c 4 sl)), Wd (getW m.w (cellIx m.c 4 sl)), hasI (getW m.w (cellIx m.c 4 sl)) sd by' = false, (nuI (getW m.w (cellIx m.c 4 sl)) 27 3 != 2) = true, Wd (getW m.w (cellIx m.c 4 sl)), anyI (getW m.w (cellIx m.c 4 sl)) (w64 (1 - sd)) = false]) := by kernel_rfl
theorem jl_0 : callR E46 12 jStepF (objA []) (objHp jO ⟨sl, sd, by', s, lookF, sn, 0⟩ m) [Dec.l, f, f, f] [0, 1, 2] = some (.tuple ⟨[]⟩, objHp jO ⟨sl, sd, by', (getW m.w (cellIx m.c 4 sl)), lookF, sn, 1⟩ (mLd m 4 sl), [m.ok, Wd (getW m.w (cellIx m.c 4 sl)), (nuI (getW m.w (cellIx m.c 4 sl)) 27 3 == 4) = false, (nuI (getW m.w (cellIx m.c 4 sl)) 27 3 == 2) = false, (nuI (getW m.w (cellIx m.c 4 sl)) 27 3 == 3) = false]) := by kernel_rfl
theorem jn_p : callR E46 12 jStepF (objA []) (objHp jO ⟨sl, sd, by', s, numF, sn, 0⟩ m) [Dec.l, t] [0, 1, 2] = some (.tuple ⟨[]⟩, objHp jO ⟨sl, sd, by', s, numF, sn, 1⟩ (mLd m 6 sl), [m.ok, Wd (getW m.w (cellIx m.c 6 sl)), pastI (getW m.w (cellIx m.c 6 sl)) sn = true]) := by kernel_rfl
theorem jn_h : callR E46 12 jStepF (objA []) (objHp jO ⟨sl, sd, by', s, numF, sn, 0⟩ m) [Dec.l, f, t] [0, 1, 2] = some (.tuple ⟨[]⟩, objHp jO ⟨sl, sd, by', s, numF, sn, 2⟩ (mLd m 6 sl), [m.ok, Wd (getW m.w (cellIx m.c 6 sl)), pastI (getW m.w (cellIx m.c 6 sl)) sn = false, Wd s, Wd s, hasI s sd by' = true]) := by kernel_rfl
theorem jn_e : callR E46 12 jStepF (objA []) (objHp jO ⟨sl, sd, by', s, numF, sn, 0⟩ m) [Dec.l, f, f, f, Dec.l] [0, 1, 2] = some (.tuple ⟨[]⟩, objHp jO ⟨sl, sd, by', s, layF, sn, 0⟩ (mLd m 6 sl), [m.ok, Wd (getW m.w (cellIx m.c 6 sl)), pastI (getW m.w (cellIx m.c 6 sl)) sn = false, Wd s, Wd s, hasI s sd by' = false, (nuI s 27 3 != 2) = false]) := by kernel_rfl
theorem jn_a : callR E46 12 jStepF (objA []) (objHp jO ⟨sl, sd, by', s, numF, sn, 0⟩ m) [Dec.l, f, f, t, t] [0, 1, 2] = some (.tuple ⟨[]⟩, objHp jO ⟨sl, sd, by', s, numF, sn, 3⟩ (mLd m 6 sl), [m.ok, Wd (getW m.w (cellIx m.c 6 sl)), pastI (getW m.w (cellIx m.c 6 sl)) sn = false, Wd s, Wd s, hasI s sd by' = false, (nuI s 27 3 != 2) = true, Wd s, anyI s (w64 (1 - sd)) = true]) := by kernel_rfl
theorem jn_b : callR E46 12 jStepF (objA []) (objHp jO ⟨sl, sd, by', s, numF, sn, 0⟩ m) [Dec.l, f, f, t, f] [0, 1, 2] = some (.tuple ⟨[]⟩, objHp jO ⟨sl, sd, by', s, layF, sn, 0⟩ (mLd m 6 sl), [m.ok, Wd (getW m.w (cellIx m.c 6 sl)), pastI (getW m.w (cellIx m.c 6 sl)) sn = false, Wd s, Wd s, hasI s sd by' = false, (nuI s 27 3 != 2) = true, Wd s, anyI s (w64 (1 - sd)) = false]) := by kernel_rfl
theorem jy_t : callR E46 12 jStepF (objA []) (objHp jO ⟨sl, sd, by', s, layF, sn, 0⟩ m) [Dec.l, t] [0, 1, 2] = some (.tuple ⟨[]⟩, objHp jO ⟨sl, sd, by', s, lookF, sn, 2⟩ (mSw m 4 sl s (withI s sd by')), [Wd s, m.ok, dnS m 4 sl s = true]) := by kernel_rfl
theorem jy_f : callR E46 12 jStepF (objA []) (objHp jO ⟨sl, sd, by', s, layF, sn, 0⟩ m) [Dec.l, f] [0, 1, 2] = some (.tuple ⟨[]⟩, objHp jO ⟨sl, sd, by', s, lookF, sn, 0⟩ (mSw m 4 sl s (withI s sd by')), [Wd s, m.ok, dnS m 4 sl s = false]) := by kernel_rfl
theorem j_done : callR E46 12 jStepF (objA []) (objHp jO ⟨sl, sd, by', s, fn, sn, r⟩ m) [f] [0, 1, 2] = some (.tuple ⟨[]⟩, objHp jO ⟨sl, sd, by', s, fn, sn, r⟩ m, [(r == 0) = false]) := by kernel_rfl
end
theorem jStep_C (j : Jn) (m : Mm) (h : jGood j m) : CallC Tryz.prog jStepF (objA []) (objHp jO j m) (.tuple ⟨[]⟩) (objHp jO (jSt j m) (jMe j m)) := by
  obtain ⟨sl, sd, by', s, fn, sn, r⟩ := j
  obtain ⟨ho, hw, hs, hf⟩ := h
  simp only at hs hf
  unfold jSt jMe jVal jNum
  simp only
  by_cases hr : r ≠ 0
  · rw [if_pos hr, if_pos hr]
    exact CallC.of_call E46ok (j_done sl sd by' s sn r fn m) (pcs_of ⟨beq_eq_false_iff_ne.2 hr, trivial⟩) rfl z3
  obtain rfl : r = 0 := Classical.not_not.1 hr
  have hv : Wd (getW m.w (cellIx m.c 4 sl)) := hw.getW _
  have hn : Wd (getW m.w (cellIx m.c 6 sl)) := hw.getW _
  rw [if_neg (show ¬ (0 : Int) ≠ 0 by omega), if_neg (show ¬ (0 : Int) ≠ 0 by omega)]
  rcases hf with rfl | rfl | rfl
  · rw [if_pos rfl, if_pos rfl]
    generalize hve : getW m.w (cellIx m.c 4 sl) = v at *
    by_cases h4 : nuI v 27 3 = 4
    · rw [if_pos h4]
      subst hve
      exact CallC.of_call E46ok (jl_n sl sd by' s sn m) (pcs_of ⟨ho, hv, beq_iff_eq.2 h4, trivial⟩) rfl z3
    rw [if_neg h4]
    by_cases h2 : nuI v 27 3 = 2
    · rw [if_pos (.inl h2)]
      unfold Jn.go
      simp only
      by_cases hh : hasI v sd by' = true
      · rw [jdg_h hh, if_neg (by decide)]
        subst hve
        exact CallC.of_call E46ok (jl_2h sl sd by' s sn m) (pcs_of ⟨ho, hv, beq_eq_false_iff_ne.2 h4, beq_iff_eq.2 h2, beq_iff_eq.2 h2, hv, hv, hh, trivial⟩) rfl z3
      · rw [jdg_0 hh (fun x => x.1 h2), if_pos rfl]
        subst hve
        exact CallC.of_call E46ok (jl_2e sl sd by' s sn m) (pcs_of ⟨ho, hv, beq_eq_false_iff_ne.2 h4, beq_iff_eq.2 h2, beq_iff_eq.2 h2, hv, hv, by simpa using hh, by rw [h2]; rfl, trivial⟩) rfl z3
    by_cases h3 : nuI v 27 3 = 3
    · rw [if_pos (.inr h3)]
      unfold Jn.go
      simp only
      by_cases hh : hasI v sd by' = true
      · rw [jdg_h hh, if_neg (by decide)]
        subst hve
        exact CallC.of_call E46ok (jl_3h sl sd by' s sn m) (pcs_of ⟨ho, hv, beq_eq_false_iff_ne.2 h4, beq_eq_false_iff_ne.2 h2, beq_iff_eq.2 h3, hv, hv, hh, trivial⟩) rfl z3
      · skip
        by_cases ha : anyI v (w64 (1 - sd)) = true
        · rw [jdg_a hh h2 ha, if_neg (by decide)]
          subst hve
          exact CallC.of_call E46ok (jl_3a sl sd by' s sn m) (pcs_of ⟨ho, hv, beq_eq_false_iff_ne.2 h4, beq_eq_false_iff_ne.2 h2, beq_iff_eq.2 h3, hv, hv, by simpa using hh, bne_iff_ne.2 h2, hv, ha, trivial⟩) rfl z3
        · rw [jdg_0 hh (fun x => ha x.2), if_pos rfl]
          subst hve
          exact CallC.of_call E46ok (jl_3b sl sd by' s sn m) (pcs_of ⟨ho, hv, beq_eq_false_iff_ne.2 h4, beq_eq_false_iff_ne.2 h2, beq_iff_eq.2 h3, hv, hv, by simpa using hh, bne_iff_ne.2 h2, hv, by simpa using ha, trivial⟩) rfl z3
    · rw [if_neg (by omega)]
      subst hve
      exact CallC.of_call E46ok (jl_0 sl sd by' s sn m) (pcs_of ⟨ho, hv, beq_eq_false_iff_ne.2 h4, beq_eq_false_iff_ne.2 h2, beq_eq_false_iff_ne.2 h3, trivial⟩) rfl z3
  · rw [if_neg (show ¬ numF = lookF by decide), if_neg (show ¬ numF = lookF by decide), if_pos rfl, if_pos rfl]
    by_cases hp : pastI (getW m.w (cellIx m.c 6 sl)) sn = true
    · rw [if_pos hp]
      exact CallC.of_call E46ok (jn_p sl sd by' s sn m) (pcs_of ⟨ho, hn, hp, trivial⟩) rfl z3
    · have hp' : pastI (getW m.w (cellIx m.c 6 sl)) sn = false := by simpa using hp
      rw [if_neg hp]
      unfold Jn.go
      simp only
      by_cases hh : hasI s sd by' = true
      · rw [jdg_h hh, if_neg (by decide)]
        exact CallC.of_call E46ok (jn_h sl sd by' s sn m) (pcs_of ⟨ho, hn, hp', hs, hs, hh, trivial⟩) rfl z3
      · have hh' : hasI s sd by' = false := by simpa using hh
        by_cases h2 : nuI s 27 3 = 2
        · rw [jdg_0 hh (fun x => x.1 h2), if_pos rfl]
          exact CallC.of_call E46ok (jn_e sl sd by' s sn m) (pcs_of ⟨ho, hn, hp', hs, hs, hh', by rw [h2]; rfl, trivial⟩) rfl z3
        · by_cases ha : anyI s (w64 (1 - sd)) = true
          · rw [jdg_a hh h2 ha, if_neg (by decide)]
            exact CallC.of_call E46ok (jn_a sl sd by' s sn m) (pcs_of ⟨ho, hn, hp', hs, hs, hh', bne_iff_ne.2 h2, hs, ha, trivial⟩) rfl z3
          · rw [jdg_0 hh (fun x => ha x.2), if_pos rfl]
            exact CallC.of_call E46ok (jn_b sl sd by' s sn m) (pcs_of ⟨ho, hn, hp', hs, hs, hh', bne_iff_ne.2 h2, hs, by simpa using ha, trivial⟩) rfl z3
  · rw [if_neg (show ¬ layF = lookF by decide), if_neg (show ¬ layF = lookF by decide), if_neg (show ¬ layF = numF by decide), if_neg (show ¬ layF = numF by decide)]
    cases hd : dnS m 4 sl s
    · rw [if_neg (by simp)]
      exact CallC.of_call E46ok (jy_f sl sd by' s sn m) (pcs_of ⟨hs, ho, hd, trivial⟩) rfl z3
    · rw [if_pos rfl]
      exact CallC.of_call E46ok (jy_t sl sd by' s sn m) (pcs_of ⟨hs, ho, hd, trivial⟩) rfl z3
theorem Jn.go_s (j : Jn) : j.go.s = j.s ∧ j.go.sl = j.sl ∧ j.go.sd = j.sd ∧ j.go.by' = j.by' ∧ j.go.sn = j.sn := by
  unfold Jn.go
  split <;> exact ⟨rfl, rfl, rfl, rfl, rfl⟩
theorem jMe_ok {j : Jn} {m : Mm} (h : jGood j m) : (jMe j m).ok ∧ (jMe j m).c = m.c ∧ WfW (jMe j m).w := by
  obtain ⟨ho, hw, hs, hf⟩ := h
  unfold jMe
  split
  · exact ⟨ho, rfl, hw⟩
  · split
    · exact ⟨acc_ok ho rfl, rfl, hw⟩
    · split
      · exact ⟨acc_ok ho rfl, rfl, hw⟩
      · exact ⟨acc_ok ho (swpW_len _ _ _ _), rfl, hw.swpW _ _ (withI_rng hs _ _)⟩
theorem Jn.go_fn (j : Jn) (h : j.fn = lookF ∨ j.fn = numF ∨ j.fn = layF) : j.go.fn = lookF ∨ j.go.fn = numF ∨ j.go.fn = layF := by
  unfold Jn.go
  split
  · exact .inr (.inr rfl)
  · exact h
theorem jSt_good {j : Jn} {m : Mm} (h : jGood j m) : Wd (jSt j m).s ∧ ((jSt j m).fn = lookF ∨ (jSt j m).fn = numF ∨ (jSt j m).fn = layF) ∧ (jSt j m).sl = j.sl ∧ (jSt j m).sd = j.sd ∧ (jSt j m).by' = j.by' ∧ (jSt j m).sn = j.sn := by
  obtain ⟨ho, hw, hs, hf⟩ := h
  have hv : Wd (jVal j m) := hw.getW _
  unfold jSt
  split
  · exact ⟨hs, hf, rfl, rfl, rfl, rfl⟩
  · split
    · split
      · exact ⟨hv, .inr (.inl rfl), rfl, rfl, rfl, rfl⟩
      · split
        · refine ⟨?_, Jn.go_fn _ (.inl rfl), ?_, ?_, ?_, ?_⟩
          · rw [(Jn.go_s _).1]; exact hv
          · rw [(Jn.go_s _).2.1]
          · rw [(Jn.go_s _).2.2.1]
          · rw [(Jn.go_s _).2.2.2.1]
          · rw [(Jn.go_s _).2.2.2.2]
        · exact ⟨hv, .inl rfl, rfl, rfl, rfl, rfl⟩
    · split
      · split
        · exact ⟨hs, .inr (.inl rfl), rfl, rfl, rfl, rfl⟩
        · refine ⟨?_, Jn.go_fn _ (.inr (.inl rfl)), ?_, ?_, ?_, ?_⟩
          · rw [(Jn.go_s _).1]; exact hs
          · rw [(Jn.go_s _).2.1]
          · rw [(Jn.go_s _).2.2.1]
          · rw [(Jn.go_s _).2.2.2.1]
          · rw [(Jn.go_s _).2.2.2.2]
      · exact ⟨hs, .inl rfl, rfl, rfl, rfl, rfl⟩
theorem jStep_good {j : Jn} {m : Mm} (h : jGood j m) : jGood (jSt j m) (jMe j m) := ⟨(jMe_ok h).1, (jMe_ok h).2.2, (jSt_good h).1, (jSt_good h).2.1⟩
abbrev gJ : List Value → Hp → Option (Value × Hp × List Prop) := gObj jO (fun _ _ _ => .tuple ⟨[]⟩) (fun j m _ => jSt j m) (fun j m _ => jMe j m) (fun j m rest => rest = [] ∧ jGood j m)
theorem gJ_ok : ∀ args hp v hp' pc, gJ args hp = some (v, hp', pc) → ∀ ds, CallOk Tryz.prog jStepF args hp ⟨v, hp', ds, pc⟩ :=
  gObj_ok jO_ok (enters (fn := Tryz.f173) (by kernel_rfl) (by kernel_rfl) rfl) (fun _ _ _ => rfl) fun j m rest h => by
    obtain ⟨rfl, h⟩ := h
    exact jStep_C j m h
/-! The document's join -/
structure Jd where
  sl : Int
  sd : Int
  by' : Int
  sn : Int
  nx : Int
  s : Int
  r : Int
def Jd.cells (d : Jd) : List Value := [.int .i64 d.sl, .int .i64 d.sd, .int .i64 d.by', .int .u64 d.sn, .int .i64 d.nx, .int .u64 d.s, .int .i64 d.r]
def jdL : List Value → Option Jd
  | [.int .i64 a, .int .i64 b, .int .i64 c, .int .u64 d, .int .i64 e, .int .u64 g, .int .i64 r] => some ⟨a, b, c, d, e, g, r⟩
  | _ => none
theorem jdL_some (l : List Value) (d : Jd) (h : jdL l = some d) : l = d.cells := by
  unfold jdL at h
  split at h
  · obtain rfl := Option.some.inj h; rfl
  · cases h
def Jd.go (d : Jd) : Jd := if jdg d.s d.sd d.by' = 0 then ⟨d.sl, d.sd, d.by', d.sn, 2, d.s, 0⟩ else ⟨d.sl, d.sd, d.by', d.sn, d.nx, d.s, jdg d.s d.sd d.by'⟩
open Dec in
section
variable (sl sd by' sn nx s : Int)
theorem dg_h : callR E46 12 125 [.agg ⟨Jd.cells ⟨sl, sd, by', sn, nx, s, 0⟩⟩] ⟨[], 0, []⟩ [t] [] = some (.agg ⟨Jd.cells ⟨sl, sd, by', sn, nx, s, 2⟩⟩, ⟨[], 0, []⟩, [Wd s, hasI s sd by' = true]) := by kernel_rfl
theorem dg_e : callR E46 12 125 [.agg ⟨Jd.cells ⟨sl, sd, by', sn, nx, s, 0⟩⟩] ⟨[], 0, []⟩ [f, f, Dec.l] [] = some (.agg ⟨Jd.cells ⟨sl, sd, by', sn, 2, s, 0⟩⟩, ⟨[], 0, []⟩, [Wd s, hasI s sd by' = false, Wd s, (nuI s 27 3 != 2) = false]) := by kernel_rfl
theorem dg_a : callR E46 12 125 [.agg ⟨Jd.cells ⟨sl, sd, by', sn, nx, s, 0⟩⟩] ⟨[], 0, []⟩ [f, t, t] [] = some (.agg ⟨Jd.cells ⟨sl, sd, by', sn, nx, s, 3⟩⟩, ⟨[], 0, []⟩, [Wd s, hasI s sd by' = false, Wd s, (nuI s 27 3 != 2) = true, Wd s, anyI s (w64 (1 - sd)) = true]) := by kernel_rfl
theorem dg_b : callR E46 12 125 [.agg ⟨Jd.cells ⟨sl, sd, by', sn, nx, s, 0⟩⟩] ⟨[], 0, []⟩ [f, t, f] [] = some (.agg ⟨Jd.cells ⟨sl, sd, by', sn, 2, s, 0⟩⟩, ⟨[], 0, []⟩, [Wd s, hasI s sd by' = false, Wd s, (nuI s 27 3 != 2) = true, Wd s, anyI s (w64 (1 - sd)) = false]) := by kernel_rfl
end
theorem dg_C (d : Jd) (hr : d.r = 0) (hs : Wd d.s) : CallC Tryz.prog 125 [.agg ⟨d.cells⟩] ⟨[], 0, []⟩ (.agg ⟨d.go.cells⟩) ⟨[], 0, []⟩ := by
  obtain ⟨sl, sd, by', sn, nx, s, r⟩ := d
  simp only at hr hs
  subst hr
  unfold Jd.go
  simp only
  by_cases hh : hasI s sd by' = true
  · rw [jdg_h hh, if_neg (by decide)]
    exact path E46ok 12 (dg_h sl sd by' sn nx s) (pcs_of ⟨hs, hh, trivial⟩) rfl
  · have hh' : hasI s sd by' = false := by simpa using hh
    by_cases h2 : nuI s 27 3 = 2
    · rw [jdg_0 hh (fun x => x.1 h2), if_pos rfl]
      exact path E46ok 12 (dg_e sl sd by' sn nx s) (pcs_of ⟨hs, hh', hs, by rw [h2]; rfl, trivial⟩) rfl
    · by_cases ha : anyI s (w64 (1 - sd)) = true
      · rw [jdg_a hh h2 ha, if_neg (by decide)]
        exact path E46ok 12 (dg_a sl sd by' sn nx s) (pcs_of ⟨hs, hh', hs, bne_iff_ne.2 h2, hs, ha, trivial⟩) rfl
      · rw [jdg_0 hh (fun x => ha x.2), if_pos rfl]
        exact path E46ok 12 (dg_b sl sd by' sn nx s) (pcs_of ⟨hs, hh', hs, bne_iff_ne.2 h2, hs, by simpa using ha, trivial⟩) rfl
def gDg (args : List Value) (hp : Hp) : Option (Value × Hp × List Prop) :=
  match args with
  | [.agg ⟨[.int .i64 a, .int .i64 b, .int .i64 c, .int .u64 d, .int .i64 e, .int .u64 g, .int .i64 0]⟩] => some (.agg ⟨(Jd.go ⟨a, b, c, d, e, g, 0⟩).cells⟩, hp, [Wd g])
  | _ => none
theorem gDg_ok : ∀ args hp v hp' pc, gDg args hp = some (v, hp', pc) → ∀ ds, CallOk Tryz.prog 125 args hp ⟨v, hp', ds, pc⟩ := by
  intro args hp v hp' pc hg ds
  unfold gDg at hg
  split at hg
  · simp only [Option.some.injEq, Prod.mk.injEq] at hg
    obtain ⟨rfl, rfl, rfl⟩ := hg
    exact CallC.pure (enters (fn := Tryz.f125) (by kernel_rfl) (by kernel_rfl) rfl) (fun h => dg_C _ rfl (hd1 h)) rfl rfl hp ds
  · cases hg
noncomputable def E47 : Env := E46.add 125 gDg
theorem E47ok : EnvOk E47 := E46ok.add gDg_ok
abbrev jDocF : FuncId := 111
def dV (d : Jd) (m : Mm) : Int := getW m.w (cellIx m.c 4 d.sl)
def dN (d : Jd) (m : Mm) : Int := getW m.w (cellIx m.c 6 d.sl)
def dSt (d : Jd) (m : Mm) : Jd :=
  if d.r ≠ 0 then d
  else if d.nx = 0 then
    if nuI (dV d m) 27 3 = 4 then ⟨d.sl, d.sd, d.by', d.sn, 1, dV d m, 0⟩
    else if nuI (dV d m) 27 3 = 2 ∨ nuI (dV d m) 27 3 = 3 then Jd.go ⟨d.sl, d.sd, d.by', d.sn, 0, dV d m, 0⟩
    else ⟨d.sl, d.sd, d.by', d.sn, 0, dV d m, 1⟩
  else if d.nx = 1 then
    if pastI (dN d m) d.sn = true then ⟨d.sl, d.sd, d.by', d.sn, 1, d.s, 1⟩ else Jd.go ⟨d.sl, d.sd, d.by', d.sn, 1, d.s, 0⟩
  else ⟨d.sl, d.sd, d.by', d.sn, 0, d.s, if dnS m 4 d.sl d.s = true then 2 else 0⟩
def dMe (d : Jd) (m : Mm) : Mm :=
  if d.r ≠ 0 then m
  else if d.nx = 0 then mLd m 4 d.sl
  else if d.nx = 1 then mLd m 6 d.sl
  else mSw m 4 d.sl d.s (withI d.s d.sd d.by')
def dGood (d : Jd) (m : Mm) : Prop := m.ok ∧ m.c.Right ∧ WfW m.w ∧ Wd d.s ∧ (d.nx = 0 ∨ d.nx = 1 ∨ d.nx = 2)
open Dec in
section
variable (sl sd by' sn nx s r : Int) (m : Mm)
theorem dl_n : callR E47 12 jDocF (docA Jd.cells ⟨sl, sd, by', sn, 0, s, 0⟩ m) (rHp m) [Dec.l, Dec.l, t] [0, 1, 6, 7] = some (docV (Jd.cells ⟨sl, sd, by', sn, 1, (getW m.w (cellIx m.c 4 sl)), 0⟩) (mLd m 4 sl) 2 3, (rVw' m m.w), [m.ok ∧ m.c.Right, Wd (getW m.w (cellIx m.c 4 sl)), (nuI (getW m.w (cellIx m.c 4 sl)) 27 3 == 4) = true]) := by kernel_rfl
theorem dl_2 : callR E47 12 jDocF (docA Jd.cells ⟨sl, sd, by', sn, 0, s, 0⟩ m) (rHp m) [Dec.l, Dec.l, f, t, t] [0, 1, 6, 7] = some (docV (Jd.cells (Jd.go ⟨sl, sd, by', sn, 0, (getW m.w (cellIx m.c 4 sl)), 0⟩)) (mLd m 4 sl) 2 3, (rVw' m m.w), [m.ok ∧ m.c.Right, Wd (getW m.w (cellIx m.c 4 sl)), (nuI (getW m.w (cellIx m.c 4 sl)) 27 3 == 4) = false, (nuI (getW m.w (cellIx m.c 4 sl)) 27 3 == 2) = true, (nuI (getW m.w (cellIx m.c 4 sl)) 27 3 == 2) = true, Wd (getW m.w (cellIx m.c 4 sl))]) := by kernel_rfl
theorem dl_3 : callR E47 12 jDocF (docA Jd.cells ⟨sl, sd, by', sn, 0, s, 0⟩ m) (rHp m) [Dec.l, Dec.l, f, f, t] [0, 1, 6, 7] = some (docV (Jd.cells (Jd.go ⟨sl, sd, by', sn, 0, (getW m.w (cellIx m.c 4 sl)), 0⟩)) (mLd m 4 sl) 2 3, (rVw' m m.w), [m.ok ∧ m.c.Right, Wd (getW m.w (cellIx m.c 4 sl)), (nuI (getW m.w (cellIx m.c 4 sl)) 27 3 == 4) = false, (nuI (getW m.w (cellIx m.c 4 sl)) 27 3 == 2) = false, (nuI (getW m.w (cellIx m.c 4 sl)) 27 3 == 3) = true, Wd (getW m.w (cellIx m.c 4 sl))]) := by kernel_rfl
theorem dl_0 : callR E47 12 jDocF (docA Jd.cells ⟨sl, sd, by', sn, 0, s, 0⟩ m) (rHp m) [Dec.l, Dec.l, f, f, f] [0, 1, 6, 7] = some (docV (Jd.cells ⟨sl, sd, by', sn, 0, (getW m.w (cellIx m.c 4 sl)), 1⟩) (mLd m 4 sl) 2 3, (rVw' m m.w), [m.ok ∧ m.c.Right, Wd (getW m.w (cellIx m.c 4 sl)), (nuI (getW m.w (cellIx m.c 4 sl)) 27 3 == 4) = false, (nuI (getW m.w (cellIx m.c 4 sl)) 27 3 == 2) = false, (nuI (getW m.w (cellIx m.c 4 sl)) 27 3 == 3) = false]) := by kernel_rfl
theorem dn_p : callR E47 12 jDocF (docA Jd.cells ⟨sl, sd, by', sn, 1, s, 0⟩ m) (rHp m) [Dec.l, Dec.l, Dec.l, t] [0, 1, 6, 7] = some (docV (Jd.cells ⟨sl, sd, by', sn, 1, s, 1⟩) (mLd m 6 sl) 2 3, (rVw' m m.w), [m.ok ∧ m.c.Right, Wd (getW m.w (cellIx m.c 6 sl)), pastI (getW m.w (cellIx m.c 6 sl)) sn = true]) := by kernel_rfl
theorem dn_g : callR E47 12 jDocF (docA Jd.cells ⟨sl, sd, by', sn, 1, s, 0⟩ m) (rHp m) [Dec.l, Dec.l, Dec.l, f] [0, 1, 6, 7] = some (docV (Jd.cells (Jd.go ⟨sl, sd, by', sn, 1, s, 0⟩)) (mLd m 6 sl) 2 3, (rVw' m m.w), [m.ok ∧ m.c.Right, Wd (getW m.w (cellIx m.c 6 sl)), pastI (getW m.w (cellIx m.c 6 sl)) sn = false, Wd s]) := by kernel_rfl
theorem dy_t : callR E47 12 jDocF (docA Jd.cells ⟨sl, sd, by', sn, 2, s, 0⟩ m) (rHp m) [Dec.l, Dec.l, Dec.l, t] [0, 1, 6, 7] = some (docV (Jd.cells ⟨sl, sd, by', sn, 0, s, 2⟩) (mSw m 4 sl s (withI s sd by')) 2 3, (rVw' m (mSw m 4 sl s (withI s sd by')).w), [Wd s, m.ok ∧ m.c.Right, dnS m 4 sl s = true]) := by kernel_rfl
theorem dy_f : callR E47 12 jDocF (docA Jd.cells ⟨sl, sd, by', sn, 2, s, 0⟩ m) (rHp m) [Dec.l, Dec.l, Dec.l, f] [0, 1, 6, 7] = some (docV (Jd.cells ⟨sl, sd, by', sn, 0, s, 0⟩) (mSw m 4 sl s (withI s sd by')) 2 3, (rVw' m (mSw m 4 sl s (withI s sd by')).w), [Wd s, m.ok ∧ m.c.Right, dnS m 4 sl s = false]) := by kernel_rfl
theorem d_done : callR E47 12 jDocF (docA Jd.cells ⟨sl, sd, by', sn, nx, s, r⟩ m) (rHp m) [t] [0, 1] = some (docV (Jd.cells ⟨sl, sd, by', sn, nx, s, r⟩) m 0 1, rHp m, [(r != 0) = true]) := by kernel_rfl
end
theorem goV (d : Jd) : nmL d.cells = [] := rfl
theorem dDoc_C (d : Jd) (m : Mm) (h : dGood d m) : CallC Tryz.prog jDocF (docA Jd.cells d m) (rHp m) (docV (Jd.cells (dSt d m)) (dMe d m) 2 3) (rOut m (dMe d m)) := by
  obtain ⟨sl, sd, by', sn, nx, s, r⟩ := d
  obtain ⟨ho, hri, hw, hs, hf⟩ := h
  simp only at hs hf
  unfold dSt dMe dV dN
  simp only
  by_cases hr : r ≠ 0
  · rw [if_pos hr, if_pos hr]
    exact r_same (V := docV _ m) rfl (docV_rn rfl m) (docV_nm rfl m) (CallC.of_call E47ok (d_done sl sd by' sn nx s r m) (pcs_of ⟨bne_iff_ne.2 hr, trivial⟩) rfl z2L)
  obtain rfl : r = 0 := Classical.not_not.1 hr
  have hv : Wd (getW m.w (cellIx m.c 4 sl)) := hw.getW _
  have hn : Wd (getW m.w (cellIx m.c 6 sl)) := hw.getW _
  rw [if_neg (show ¬ (0 : Int) ≠ 0 by omega), if_neg (show ¬ (0 : Int) ≠ 0 by omega)]
  rcases hf with rfl | rfl | rfl
  · rw [if_pos rfl, if_pos rfl]
    refine r_vw' (V := docV _ _) (docV_rn rfl _) (docV_nm rfl _) ?_
    generalize hve : getW m.w (cellIx m.c 4 sl) = v at *
    by_cases h4 : nuI v 27 3 = 4
    · rw [if_pos h4]
      subst hve
      exact CallC.of_call E47ok (dl_n sl sd by' sn s m) (pcs_of ⟨⟨ho, hri⟩, hv, beq_iff_eq.2 h4, trivial⟩) rfl z2L
    rw [if_neg h4]
    by_cases h2 : nuI v 27 3 = 2
    · rw [if_pos (.inl h2)]
      subst hve
      exact CallC.of_call E47ok (dl_2 sl sd by' sn s m) (pcs_of ⟨⟨ho, hri⟩, hv, beq_eq_false_iff_ne.2 h4, beq_iff_eq.2 h2, beq_iff_eq.2 h2, hv, trivial⟩) rfl z2L
    by_cases h3 : nuI v 27 3 = 3
    · rw [if_pos (.inr h3)]
      subst hve
      exact CallC.of_call E47ok (dl_3 sl sd by' sn s m) (pcs_of ⟨⟨ho, hri⟩, hv, beq_eq_false_iff_ne.2 h4, beq_eq_false_iff_ne.2 h2, beq_iff_eq.2 h3, hv, trivial⟩) rfl z2L
    · rw [if_neg (by omega)]
      subst hve
      exact CallC.of_call E47ok (dl_0 sl sd by' sn s m) (pcs_of ⟨⟨ho, hri⟩, hv, beq_eq_false_iff_ne.2 h4, beq_eq_false_iff_ne.2 h2, beq_eq_false_iff_ne.2 h3, trivial⟩) rfl z2L
  · rw [if_neg (show ¬ (1 : Int) = 0 by decide), if_neg (show ¬ (1 : Int) = 0 by decide), if_pos rfl, if_pos rfl]
    refine r_vw' (V := docV _ _) (docV_rn rfl _) (docV_nm rfl _) ?_
    by_cases hp : pastI (getW m.w (cellIx m.c 6 sl)) sn = true
    · rw [if_pos hp]
      exact CallC.of_call E47ok (dn_p sl sd by' sn s m) (pcs_of ⟨⟨ho, hri⟩, hn, hp, trivial⟩) rfl z2L
    · rw [if_neg hp]
      exact CallC.of_call E47ok (dn_g sl sd by' sn s m) (pcs_of ⟨⟨ho, hri⟩, hn, by simpa using hp, hs, trivial⟩) rfl z2L
  · rw [if_neg (show ¬ (2 : Int) = 0 by decide), if_neg (show ¬ (2 : Int) = 0 by decide), if_neg (show ¬ (2 : Int) = 1 by decide), if_neg (show ¬ (2 : Int) = 1 by decide)]
    refine r_vw' (V := docV _ _) (docV_rn rfl _) (docV_nm rfl _) ?_
    cases hd : dnS m 4 sl s
    · rw [if_neg (by simp)]
      exact CallC.of_call E47ok (dy_f sl sd by' sn s m) (pcs_of ⟨hs, ⟨ho, hri⟩, hd, trivial⟩) rfl z2L
    · rw [if_pos rfl]
      exact CallC.of_call E47ok (dy_t sl sd by' sn s m) (pcs_of ⟨hs, ⟨ho, hri⟩, hd, trivial⟩) rfl z2L
abbrev gJd : List Value → Hp → Option (Value × Hp × List Prop) := gDoc jdL Jd.cells dSt dMe dGood
theorem gJd_ok : ∀ args hp v hp' pc, gJd args hp = some (v, hp', pc) → ∀ ds, CallOk Tryz.prog jDocF args hp ⟨v, hp', ds, pc⟩ :=
  gDoc_ok jdL_some goV (enters (fn := Tryz.f111) (by kernel_rfl) (by kernel_rfl) rfl) dDoc_C
end Go.Proofs.YtocfhiafegkfkaaGreat.Ct
