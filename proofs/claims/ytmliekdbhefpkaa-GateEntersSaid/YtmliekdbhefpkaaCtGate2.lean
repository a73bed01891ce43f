/- An entering's end, a leaving, and their runs. -/
import Derived.Test.YtmliekdbhefpkaaCtGate
namespace Go.Proofs.Ytmliekdbhefpkaa.Ct
open Go Go.Proofs Go.Proofs.Ytmliekdbhefpkaa.Ev
open Go.RowKit

theorem enSt_st (e : En) (m : Mm) : (enSt e m).st = e.st := by
  unfold enSt
  split
  · rfl
  · split
    · split <;> rfl
    · rfl
theorem enMe_ok {e : En} {m : Mm} (h : enGood e m) : (enMe e m).ok ∧ (enMe e m).c = m.c ∧ WfW (enMe e m).w := by
  obtain ⟨ho, hw, hs, _, _⟩ := h
  unfold enMe
  split
  · exact ⟨ho, rfl, hw⟩
  · split
    · split
      · exact ⟨acc_ok ho (swpW_len _ _ _ _), rfl, hw.swpW _ _ (mvI_rng hs _ _)⟩
      · exact ⟨acc_ok ho rfl, rfl, hw⟩
    · exact ⟨ho, rfl, hw⟩
theorem enSt_s {e : En} {m : Mm} (h : enGood e m) : Wd (enSt e m).s ∧ (enSt e m).h = e.h := by
  obtain ⟨ho, hw, hs, _, _⟩ := h
  unfold enSt
  split
  · exact ⟨hs, rfl⟩
  · split
    · split
      · exact ⟨hs, rfl⟩
      · exact ⟨hw.getW _, rfl⟩
    · exact ⟨hs, rfl⟩
theorem enStep_good {e : En} {m : Mm} (h : enGood e m) : enGood (enSt e m) (enMe e m) :=
  ⟨(enMe_ok h).1, (enMe_ok h).2.2, (enSt_s h).1, by rw [(enSt_s h).2]; exact h.2.2.2.1, by rw [enSt_st]; exact h.2.2.2.2⟩
abbrev gEs : List Value → Hp → Option (Value × Hp × List Prop) := gEn (fun _ _ _ => .tuple ⟨[]⟩) (fun e m _ => enSt e m) (fun e m _ => enMe e m) (fun e m rest => rest = [] ∧ enGood e m)
theorem gEs_ok : ∀ args hp v hp' pc, gEs args hp = some (v, hp', pc) → ∀ ds, CallOk Try.prog enStepF args hp ⟨v, hp', ds, pc⟩ :=
  gEn_ok (enters (fn := Try.f54) (by kernel_rfl) (by kernel_rfl) rfl) (fun _ _ _ => rfl) (fun e m _ => enSt_st e m) fun e m rest h => by
    obtain ⟨rfl, h⟩ := h
    exact enStep_C e m h
noncomputable def Eg4 : Env := Eg3.add enStepF gEs
theorem Eg4ok : EnvOk Eg4 := Eg3ok.add gEs_ok
abbrev enDoneF : FuncId := 57
abbrev enErrF : FuncId := 56
open Dec in
section
variable (sl s h no wd : Int) (tk dn : Bool) (m : Mm) (l : List Int) (ow : Bool)
theorem ed0_t : callR Eg4 12 enDoneF (objA []) (enHp ⟨sl, s, h, .nil, tk, dn, no, wd⟩ m) [t] [0, 1, 2] = some (.bool true, enHp ⟨sl, s, h, .nil, tk, dn, no, wd⟩ m, [dn = true]) := by kernel_rfl
theorem ed0_f : callR Eg4 12 enDoneF (objA []) (enHp ⟨sl, s, h, .nil, tk, dn, no, wd⟩ m) [f] [0, 1, 2] = some (.bool (!ofOk h m.c.s), enHp ⟨sl, s, h, .nil, tk, dn, no, wd⟩ m, [dn = false, Wd h]) := by kernel_rfl
theorem ed1_t : callR Eg4 12 enDoneF (objA []) (enHp ⟨sl, s, h, .row ow l, tk, dn, no, wd⟩ m) [t] [0, 1, 2, 3, 4] = some (.bool true, enHp ⟨sl, s, h, .row ow l, tk, dn, no, wd⟩ m, [dn = true]) := by cases ow <;> kernel_rfl
theorem ed1_f : callR Eg4 12 enDoneF (objA []) (enHp ⟨sl, s, h, .row ow l, tk, dn, no, wd⟩ m) [f] [0, 1, 2, 3, 4] = some (.bool (!ofOk h m.c.s), enHp ⟨sl, s, h, .row ow l, tk, dn, no, wd⟩ m, [dn = false, Wd h]) := by cases ow <;> kernel_rfl
theorem ee0_t : callR Eg4 12 enErrF (objA []) (enHp ⟨sl, s, h, .nil, tk, dn, no, wd⟩ m) [t] [0, 1, 2] = some (.int .i64 2, enHp ⟨sl, s, h, .nil, tk, dn, no, wd⟩ m, [Wd h, (!ofOk h m.c.s) = true]) := by kernel_rfl
theorem ee0_f : callR Eg4 12 enErrF (objA []) (enHp ⟨sl, s, h, .nil, tk, dn, no, wd⟩ m) [f] [0, 1, 2] = some (.int .i64 no, enHp ⟨sl, s, h, .nil, tk, dn, no, wd⟩ m, [Wd h, (!ofOk h m.c.s) = false]) := by kernel_rfl
theorem ee1_t : callR Eg4 12 enErrF (objA []) (enHp ⟨sl, s, h, .row ow l, tk, dn, no, wd⟩ m) [t] [0, 1, 2, 3, 4] = some (.int .i64 2, enHp ⟨sl, s, h, .row ow l, tk, dn, no, wd⟩ m, [Wd h, (!ofOk h m.c.s) = true]) := by cases ow <;> kernel_rfl
theorem ee1_f : callR Eg4 12 enErrF (objA []) (enHp ⟨sl, s, h, .row ow l, tk, dn, no, wd⟩ m) [f] [0, 1, 2, 3, 4] = some (.int .i64 no, enHp ⟨sl, s, h, .row ow l, tk, dn, no, wd⟩ m, [Wd h, (!ofOk h m.c.s) = false]) := by cases ow <;> kernel_rfl
end
def errI (e : En) (m : Mm) : Int := if ofOk e.h m.c.s = true then e.no else 2
theorem enDone_C (e : En) (m : Mm) (hh : Wd e.h) : CallC Try.prog enDoneF (objA []) (enHp e m) (.bool (e.dn || !ofOk e.h m.c.s)) (enHp e m) := by
  obtain ⟨sl, s, h, r, tk, dn, no, wd⟩ := e
  simp only at hh
  cases r with
  | nil =>
    cases dn
    · exact CallC.of_call Eg4ok (ed0_f sl s h no wd tk false m) (pcs_of ⟨rfl, hh, trivial⟩) rfl z3
    · exact CallC.of_call Eg4ok (ed0_t sl s h no wd tk true m) (pcs_of ⟨rfl, trivial⟩) rfl z3
  | row ow l =>
    cases dn
    · exact CallC.of_call Eg4ok (ed1_f sl s h no wd tk false m l ow) (pcs_of ⟨rfl, hh, trivial⟩) rfl z5
    · exact CallC.of_call Eg4ok (ed1_t sl s h no wd tk true m l ow) (pcs_of ⟨rfl, trivial⟩) rfl z5
theorem enErr_C (e : En) (m : Mm) (hh : Wd e.h) : CallC Try.prog enErrF (objA []) (enHp e m) (.int .i64 (errI e m)) (enHp e m) := by
  obtain ⟨sl, s, h, r, tk, dn, no, wd⟩ := e
  simp only at hh
  unfold errI
  cases r with
  | nil =>
    cases ho : ofOk h m.c.s
    · rw [if_neg (by simp)]
      exact CallC.of_call Eg4ok (ee0_t sl s h no wd tk dn m) (pcs_of ⟨hh, by rw [ho]; rfl, trivial⟩) rfl z3
    · rw [if_pos rfl]
      exact CallC.of_call Eg4ok (ee0_f sl s h no wd tk dn m) (pcs_of ⟨hh, by rw [ho]; rfl, trivial⟩) rfl z3
  | row ow l =>
    cases ho : ofOk h m.c.s
    · rw [if_neg (by simp)]
      exact CallC.of_call Eg4ok (ee1_t sl s h no wd tk dn m l ow) (pcs_of ⟨hh, by rw [ho]; rfl, trivial⟩) rfl z5
    · rw [if_pos rfl]
      exact CallC.of_call Eg4ok (ee1_f sl s h no wd tk dn m l ow) (pcs_of ⟨hh, by rw [ho]; rfl, trivial⟩) rfl z5
abbrev gEd : List Value → Hp → Option (Value × Hp × List Prop) := gEn (fun e m _ => .bool (e.dn || !ofOk e.h m.c.s)) (fun e _ _ => e) (fun _ m _ => m) (fun e _ rest => rest = [] ∧ Wd e.h)
abbrev gEe : List Value → Hp → Option (Value × Hp × List Prop) := gEn (fun e m _ => .int .i64 (errI e m)) (fun e _ _ => e) (fun _ m _ => m) (fun e _ rest => rest = [] ∧ Wd e.h)
noncomputable def Eg5 : Env := (Eg4.add enDoneF gEd).add enErrF gEe
theorem Eg5ok : EnvOk Eg5 :=
  (Eg4ok.add (gEn_ok (enters (fn := Try.f57) (by kernel_rfl) (by kernel_rfl) rfl) (fun _ _ _ => rfl) (fun _ _ _ => rfl) fun e m rest h => by
    obtain ⟨rfl, h⟩ := h
    exact enDone_C e m h)).add (gEn_ok (enters (fn := Try.f56) (by kernel_rfl) (by kernel_rfl) rfl) (fun _ _ _ => rfl) (fun _ _ _ => rfl) fun e m rest h => by
    obtain ⟨rfl, h⟩ := h
    exact enErr_C e m h)
/-! On to the end -/
def enRun : Nat → Nat → En → Mm → Nat × En × Mm
  | 0, i, j, m => (i, j, m)
  | n + 1, i, j, m => if (j.dn || !ofOk j.h m.c.s) = true then (i, j, m) else enRun n (i + 1) (enSt j m) (enMe j m)
theorem enRun_st : ∀ (n i : Nat) (j : En) (m : Mm), (enRun n i j m).2.1.st = j.st
  | 0, _, _, _ => rfl
  | n + 1, i, j, m => by
    unfold enRun
    split
    · rfl
    · rw [enRun_st n (i + 1), enSt_st]
theorem enRun_good : ∀ (n i : Nat) (j : En) (m : Mm), enGood j m → enGood (enRun n i j m).2.1 (enRun n i j m).2.2
  | 0, _, _, _, h => h
  | n + 1, i, j, m, h => by
    unfold enRun
    split
    · exact h
    · exact enRun_good n (i + 1) _ _ (enStep_good h)
def En.wi (e : En) (r : Rw) : En := ⟨e.sl, e.s, e.h, r, e.tk, e.dn, e.no, e.wd⟩
theorem En.wi_eq {e : En} {r : Rw} (h : e.st = r) : e.wi r = e := by subst h; rfl
noncomputable abbrev enRF : Func := Try.f55
abbrev enRId : FuncId := 55
abbrev enRL : List Nat := [1, 0, 1, 0, 0]

def ennFr  (j : En) (m : Mm) (N i : Int) (ds : List Dec) : Fr := mkFr 21 [(0, pt0), (1, .pointer (some ⟨1, 0, none⟩)), (2, .int .i64 N), (8, .int .i64 N), (9, .int .i64 i)] (enHp (j.wi .nil) m).blks 3 [0, 1, 2] ds
def ennG  (j : En) (m : Mm) (N : Int) : Fr := mkFr 21 [(0, pt0), (1, .pointer (some ⟨1, 0, none⟩)), (2, .int .i64 N), (8, .int .i64 N), (9, .int .i64 0)] (enHp (j.wi .nil) m).blks 3 [] []
def ennE  (j : En) (m : Mm) (i : Int) (ds : List Dec) : Fr := mkFr 21 [(6, .int .i64 i)] (enHp (j.wi .nil) m).blks 3 [0, 1, 2] ds
def ennX  (j : En) (m : Mm) (N : Int) (ds : List Dec) : Fr := mkFr 21 [(0, pt0), (1, .pointer (some ⟨1, 0, none⟩)), (2, .int .i64 N)] (enHp (j.wi .nil) m).blks 3 [0, 1, 2] ds
open Dec in
section
variable  (j : En) (m : Mm) (N i : Nat)
theorem enn_in : execR Eg5 12 .normal [.code (bd enRF [])] [0, 1, 2] [0, 1, 2, 8, 9] 3 [] ⟨objA [.int .i64 N] ++ List.replicate 18 undef, (enHp (j.wi .nil) m), [], []⟩ = some (.normal, [.code (.loop (bd enRF enRL)), .blk 0, .code (bd enRF [1, 1])], ennG  j m N, []) := by kernel_rfl
theorem enn_go : run Eg5 12 (bd enRF enRL) [0, 1, 2] [0, 1, 2, 8, 9] 3 [] (ennFr  j m N (i : Int) [t, f]) = some (.normal, ennFr  (enSt (j.wi .nil) m) (enMe (j.wi .nil) m) N (w64 ((i : Int) + 1)) [], [decide ((i : Int) < (N : Int)) = true, True, ([] : List Value) = [] ∧ Wd j.h, (j.dn || !ofOk j.h m.c.s) = false, True, ([] : List Value) = [] ∧ enGood (j.wi .nil) m]) := by kernel_rfl
theorem enn_dn : run Eg5 12 (bd enRF enRL) [0, 1, 2] [6] 3 [] (ennFr  j m N (i : Int) [t, t]) = some (.ret, ennE  j m (i : Int) [], [decide ((i : Int) < (N : Int)) = true, True, ([] : List Value) = [] ∧ Wd j.h, (j.dn || !ofOk j.h m.c.s) = true]) := by kernel_rfl
theorem enn_end : run Eg5 12 (bd enRF enRL) [0, 1, 2] [0, 1, 2] 3 [] (ennFr  j m N (i : Int) [f]) = some (.exit 0, ennX  j m N [], [decide ((i : Int) < (N : Int)) = false]) := by kernel_rfl
theorem enn_out : execR Eg5 12 (.exit 0) [.blk 0, .code (bd enRF [1, 1])] [0, 1, 2] [6] 3 [] (ennX  j m N []) = some (.ret, [], ennE  j m N [], []) := by kernel_rfl
theorem enn_ret (v : Int) : execR Eg5 12 .ret [.blk 0, .code (bd enRF [1, 1])] [0, 1, 2] [6] 3 [] (ennE  j m v []) = some (.ret, [], ennE  j m v [], []) := by kernel_rfl
end
open Dec in
theorem enn_C  {j j' : En} {m m' : Mm} {N n : Nat} (hN : N ≤ 1000) (hj : j.st = .nil) (hg : enGood j m) (hR : enRun N 0 j m = (n, j', m')) : CallC Try.prog enRId (objA [.int .i64 N]) (enHp j m) (.int .i64 n) (enHp j' m') := by
  have hst' : ∀ (n i : Nat) (j : En) (m : Mm), j.st = .nil → (enRun n i j m).2.1.st = .nil := fun n i j m h => (enRun_st n i j m).trans h
  have hj' : j'.st = .nil := by have := hst' N 0 j m hj; rw [hR] at this; exact this
  rw [← En.wi_eq hj, ← En.wi_eq hj']
  refine CallC.of_body (E := Eg5) (ds := []) (fn := enRF) 18 (by kernel_rfl) (by kernel_rfl) (by kernel_rfl) (by kernel_rfl) ?_
  refine KC.of_exec (fr := ⟨objA [.int .i64 N] ++ List.replicate 18 undef, (enHp (j.wi .nil) m), [], []⟩) Eg5ok (enn_in  j m N) (pcs_of trivial) (Nat.le_refl _) z3 ?_
  have ha : KC Eg5 3 .normal [.code (.loop (bd enRF enRL)), .blk 0, .code (bd enRF [1, 1])] (ennFr  j m N ((0 : Nat) : Int) []) (Ev.Ends Eg5 enRF 3 (.int .i64 n) (enHp (j'.wi .nil) m')) := by
    refine KC.loop (m0 := 3) (ι := Nat × En × Mm) (fun x => ennFr  x.2.1 x.2.2 N (x.1 : Int) []) (fun x => x.1 ≤ N ∧ x.2.1.st = .nil ∧ enGood x.2.1 x.2.2 ∧ enRun (N - x.1) x.1 x.2.1 x.2.2 = (n, j', m')) (fun x => N - x.1)
      (fun ex fr => (ex = .exit 0 ∧ n = N ∧ fr = ennX  j' m' N []) ∨ (ex = .ret ∧ fr = ennE  j' m' n [])) (fun x hx => ?_) ?_ (0, j, m) ⟨Nat.zero_le _, hj, hg, hR⟩
    · obtain ⟨i, j, m⟩ := x
      obtain ⟨hi, hj, ho, he⟩ := hx
      simp only at hi hj ho he ⊢
      have ew : j.wi .nil = j := En.wi_eq hj
      by_cases hlt : i < N
      · have hd : decide ((i : Int) < (N : Int)) = true := decide_eq_true (by omega)
        obtain ⟨k, hk⟩ : ∃ k, N - i = k + 1 := ⟨N - i - 1, by omega⟩
        rw [hk] at he
        unfold enRun at he
        by_cases hr : (j.dn || !ofOk j.h m.c.s) = true
        · rw [if_pos hr] at he
          simp only [Prod.mk.injEq] at he
          obtain ⟨rfl, rfl, rfl⟩ := he
          exact CodeC.of_run (fr := ennFr  j m N (i : Int) [t, t]) Eg5ok (enn_dn  j m N i) (pcs_of ⟨hd, trivial, ⟨rfl, ho.2.2.2.1⟩, hr, trivial⟩) (Nat.le_refl _) z3 (.inr ⟨by simp, .inr ⟨rfl, rfl⟩⟩)
        · rw [if_neg hr] at he
          refine CodeC.of_run (fr := ennFr  j m N (i : Int) [t, f]) Eg5ok (enn_go  j m N i) (pcs_of ⟨hd, trivial, ⟨rfl, ho.2.2.2.1⟩, eq_false_of_ne_true hr, trivial, ⟨rfl, by rw [ew]; exact ho⟩, trivial⟩) (Nat.le_refl _) z3 (.inl ⟨rfl, (i + 1, enSt j m, enMe j m), by rw [w64_succ i (by omega), ew], ⟨by simp only; omega, (enSt_st j m).trans hj, enStep_good ho, by
            simp only
            rw [show N - (i + 1) = k by omega]
            exact he⟩, by simp only; omega⟩)
      · have e : i = N := by omega
        subst e
        rw [show i - i = 0 by omega] at he
        have he' : (i, j, m) = (n, j', m') := he
        simp only [Prod.mk.injEq] at he'
        obtain ⟨rfl, rfl, rfl⟩ := he'
        exact CodeC.of_run (fr := ennFr  j m i (i : Int) [f]) Eg5ok (enn_end  j m i i) (pcs_of ⟨decide_eq_false (by omega), trivial⟩) (Nat.le_refl _) z3 (.inr ⟨by simp, .inl ⟨rfl, rfl, rfl⟩⟩)
    · rintro ex fr (⟨rfl, rfl, rfl⟩ | ⟨rfl, rfl⟩)
      · exact KC.of_exec Eg5ok (enn_out  j' m' n) (pcs_of trivial) (Nat.le_refl _) z3 (KC.done ⟨by simp, [.int .i64 n], [], [0, 1, 2], 0, by kernel_rfl, by simp, by kernel_rfl, rfl, z3⟩)
      · exact KC.of_exec Eg5ok (enn_ret  j' m' n) (pcs_of trivial) (Nat.le_refl _) z3 (KC.done ⟨by simp, [.int .i64 n], [], [0, 1, 2], 0, by kernel_rfl, by simp, by kernel_rfl, rfl, z3⟩)
  exact KC.alias [0, 1, 2] ha (by kernel_rfl) (by kernel_rfl) (by kernel_rfl) ⟨rfl, rfl, rfl, trivial⟩ (by kernel_rfl) z3

def enrFr (ow : Bool) (l : List Int) (j : En) (m : Mm) (N i : Int) (ds : List Dec) : Fr := mkFr 21 [(0, pt0), (1, .pointer (some ⟨1, 0, none⟩)), (2, .int .i64 N), (8, .int .i64 N), (9, .int .i64 i)] (enHp (j.wi (.row ow l)) m).blks 5 [0, 1, 2] ds
def enrG (ow : Bool) (l : List Int) (j : En) (m : Mm) (N : Int) : Fr := mkFr 21 [(0, pt0), (1, .pointer (some ⟨1, 0, none⟩)), (2, .int .i64 N), (8, .int .i64 N), (9, .int .i64 0)] (enHp (j.wi (.row ow l)) m).blks 5 [] []
def enrE (ow : Bool) (l : List Int) (j : En) (m : Mm) (i : Int) (ds : List Dec) : Fr := mkFr 21 [(6, .int .i64 i)] (enHp (j.wi (.row ow l)) m).blks 5 [0, 1, 2] ds
def enrX (ow : Bool) (l : List Int) (j : En) (m : Mm) (N : Int) (ds : List Dec) : Fr := mkFr 21 [(0, pt0), (1, .pointer (some ⟨1, 0, none⟩)), (2, .int .i64 N)] (enHp (j.wi (.row ow l)) m).blks 5 [0, 1, 2] ds
open Dec in
section
variable (ow : Bool) (l : List Int) (j : En) (m : Mm) (N i : Nat)
theorem enr_in : execR Eg5 12 .normal [.code (bd enRF [])] [0, 1, 2, 3, 4] [0, 1, 2, 8, 9] 5 [] ⟨objA [.int .i64 N] ++ List.replicate 18 undef, (enHp (j.wi (.row ow l)) m), [], []⟩ = some (.normal, [.code (.loop (bd enRF enRL)), .blk 0, .code (bd enRF [1, 1])], enrG ow l j m N, []) := by cases ow <;> kernel_rfl
theorem enr_go : run Eg5 12 (bd enRF enRL) [0, 1, 2, 3, 4] [0, 1, 2, 8, 9] 5 [] (enrFr ow l j m N (i : Int) [t, f]) = some (.normal, enrFr ow l (enSt (j.wi (.row ow l)) m) (enMe (j.wi (.row ow l)) m) N (w64 ((i : Int) + 1)) [], [decide ((i : Int) < (N : Int)) = true, l.length = l.length, ([] : List Value) = [] ∧ Wd j.h, (j.dn || !ofOk j.h m.c.s) = false, l.length = l.length, ([] : List Value) = [] ∧ enGood (j.wi (.row ow l)) m]) := by cases ow <;> kernel_rfl
theorem enr_dn : run Eg5 12 (bd enRF enRL) [0, 1, 2, 3, 4] [6] 5 [] (enrFr ow l j m N (i : Int) [t, t]) = some (.ret, enrE ow l j m (i : Int) [], [decide ((i : Int) < (N : Int)) = true, l.length = l.length, ([] : List Value) = [] ∧ Wd j.h, (j.dn || !ofOk j.h m.c.s) = true]) := by cases ow <;> kernel_rfl
theorem enr_end : run Eg5 12 (bd enRF enRL) [0, 1, 2, 3, 4] [0, 1, 2] 5 [] (enrFr ow l j m N (i : Int) [f]) = some (.exit 0, enrX ow l j m N [], [decide ((i : Int) < (N : Int)) = false]) := by cases ow <;> kernel_rfl
theorem enr_out : execR Eg5 12 (.exit 0) [.blk 0, .code (bd enRF [1, 1])] [0, 1, 2, 3, 4] [6] 5 [] (enrX ow l j m N []) = some (.ret, [], enrE ow l j m N [], []) := by cases ow <;> kernel_rfl
theorem enr_ret (v : Int) : execR Eg5 12 .ret [.blk 0, .code (bd enRF [1, 1])] [0, 1, 2, 3, 4] [6] 5 [] (enrE ow l j m v []) = some (.ret, [], enrE ow l j m v [], []) := by cases ow <;> kernel_rfl
end
open Dec in
theorem enr_C (ow : Bool) (l : List Int) {j j' : En} {m m' : Mm} {N n : Nat} (hN : N ≤ 1000) (hj : j.st = (.row ow l)) (hg : enGood j m) (hR : enRun N 0 j m = (n, j', m')) : CallC Try.prog enRId (objA [.int .i64 N]) (enHp j m) (.int .i64 n) (enHp j' m') := by
  have hst' : ∀ (n i : Nat) (j : En) (m : Mm), j.st = (.row ow l) → (enRun n i j m).2.1.st = (.row ow l) := fun n i j m h => (enRun_st n i j m).trans h
  have hj' : j'.st = (.row ow l) := by have := hst' N 0 j m hj; rw [hR] at this; exact this
  rw [← En.wi_eq hj, ← En.wi_eq hj']
  refine CallC.of_body (E := Eg5) (ds := []) (fn := enRF) 18 (by kernel_rfl) (by kernel_rfl) (by kernel_rfl) (by kernel_rfl) ?_
  refine KC.of_exec (fr := ⟨objA [.int .i64 N] ++ List.replicate 18 undef, (enHp (j.wi (.row ow l)) m), [], []⟩) Eg5ok (enr_in ow l j m N) (pcs_of trivial) (Nat.le_refl _) z5 ?_
  have ha : KC Eg5 5 .normal [.code (.loop (bd enRF enRL)), .blk 0, .code (bd enRF [1, 1])] (enrFr ow l j m N ((0 : Nat) : Int) []) (Ev.Ends Eg5 enRF 5 (.int .i64 n) (enHp (j'.wi (.row ow l)) m')) := by
    refine KC.loop (m0 := 5) (ι := Nat × En × Mm) (fun x => enrFr ow l x.2.1 x.2.2 N (x.1 : Int) []) (fun x => x.1 ≤ N ∧ x.2.1.st = (.row ow l) ∧ enGood x.2.1 x.2.2 ∧ enRun (N - x.1) x.1 x.2.1 x.2.2 = (n, j', m')) (fun x => N - x.1)
      (fun ex fr => (ex = .exit 0 ∧ n = N ∧ fr = enrX ow l j' m' N []) ∨ (ex = .ret ∧ fr = enrE ow l j' m' n [])) (fun x hx => ?_) ?_ (0, j, m) ⟨Nat.zero_le _, hj, hg, hR⟩
    · obtain ⟨i, j, m⟩ := x
      obtain ⟨hi, hj, ho, he⟩ := hx
      simp only at hi hj ho he ⊢
      have ew : j.wi (.row ow l) = j := En.wi_eq hj
      by_cases hlt : i < N
      · have hd : decide ((i : Int) < (N : Int)) = true := decide_eq_true (by omega)
        obtain ⟨k, hk⟩ : ∃ k, N - i = k + 1 := ⟨N - i - 1, by omega⟩
        rw [hk] at he
        unfold enRun at he
        by_cases hr : (j.dn || !ofOk j.h m.c.s) = true
        · rw [if_pos hr] at he
          simp only [Prod.mk.injEq] at he
          obtain ⟨rfl, rfl, rfl⟩ := he
          exact CodeC.of_run (fr := enrFr ow l j m N (i : Int) [t, t]) Eg5ok (enr_dn ow l j m N i) (pcs_of ⟨hd, rfl, ⟨rfl, ho.2.2.2.1⟩, hr, trivial⟩) (Nat.le_refl _) z5 (.inr ⟨by simp, .inr ⟨rfl, rfl⟩⟩)
        · rw [if_neg hr] at he
          refine CodeC.of_run (fr := enrFr ow l j m N (i : Int) [t, f]) Eg5ok (enr_go ow l j m N i) (pcs_of ⟨hd, rfl, ⟨rfl, ho.2.2.2.1⟩, eq_false_of_ne_true hr, rfl, ⟨rfl, by rw [ew]; exact ho⟩, trivial⟩) (Nat.le_refl _) z5 (.inl ⟨rfl, (i + 1, enSt j m, enMe j m), by rw [w64_succ i (by omega), ew], ⟨by simp only; omega, (enSt_st j m).trans hj, enStep_good ho, by
            simp only
            rw [show N - (i + 1) = k by omega]
            exact he⟩, by simp only; omega⟩)
      · have e : i = N := by omega
        subst e
        rw [show i - i = 0 by omega] at he
        have he' : (i, j, m) = (n, j', m') := he
        simp only [Prod.mk.injEq] at he'
        obtain ⟨rfl, rfl, rfl⟩ := he'
        exact CodeC.of_run (fr := enrFr ow l j m i (i : Int) [f]) Eg5ok (enr_end ow l j m i i) (pcs_of ⟨decide_eq_false (by omega), trivial⟩) (Nat.le_refl _) z5 (.inr ⟨by simp, .inl ⟨rfl, rfl, rfl⟩⟩)
    · rintro ex fr (⟨rfl, rfl, rfl⟩ | ⟨rfl, rfl⟩)
      · exact KC.of_exec Eg5ok (enr_out ow l j' m' n) (pcs_of trivial) (Nat.le_refl _) z5 (KC.done ⟨by simp, [.int .i64 n], [], [0, 1, 2, 3, 4], 0, by cases ow <;> kernel_rfl, by simp, by cases ow <;> kernel_rfl, rfl, z5⟩)
      · exact KC.of_exec Eg5ok (enr_ret ow l j' m' n) (pcs_of trivial) (Nat.le_refl _) z5 (KC.done ⟨by simp, [.int .i64 n], [], [0, 1, 2, 3, 4], 0, by cases ow <;> kernel_rfl, by simp, by cases ow <;> kernel_rfl, rfl, z5⟩)
  exact KC.alias [0, 1, 2, 3, 4] ha (by cases ow <;> kernel_rfl) (by cases ow <;> kernel_rfl) (by cases ow <;> kernel_rfl) (by cases ow <;> exact ⟨rfl, rfl, rfl, rfl, trivial⟩) (by cases ow <;> kernel_rfl) z5

theorem enRun_C {j : En} {m : Mm} {N : Nat} (hN : N ≤ 1000) (hg : enGood j m) : CallC Try.prog enRId (objA [.int .i64 N]) (enHp j m) (.int .i64 (enRun N 0 j m).1) (enHp (enRun N 0 j m).2.1 (enRun N 0 j m).2.2) := by
  cases h : j.st with
  | nil => exact enn_C hN h hg rfl
  | row ow l => exact enr_C ow l hN h hg rfl
abbrev gEr : List Value → Hp → Option (Value × Hp × List Prop) := gEn (fun j m rest => .int .i64 (enRun (numOf rest) 0 j m).1) (fun j m rest => (enRun (numOf rest) 0 j m).2.1) (fun j m rest => (enRun (numOf rest) 0 j m).2.2) (fun j m rest => rest = [.int .i64 (numOf rest)] ∧ numOf rest ≤ 1000 ∧ enGood j m)
theorem gEr_ok : ∀ args hp v hp' pc, gEr args hp = some (v, hp', pc) → ∀ ds, CallOk Try.prog enRId args hp ⟨v, hp', ds, pc⟩ :=
  gEn_ok (enters (fn := Try.f55) (by kernel_rfl) (by kernel_rfl) rfl) (fun _ _ _ => rfl) (fun j m rest => enRun_st _ _ _ _) fun j m rest h => by
    obtain ⟨h1, h2, h3⟩ := h
    have hC := enRun_C (j := j) (m := m) h2 h3
    rw [← h1] at hC
    exact hC
noncomputable def Eg6 : Env := Eg5.add enRId gEr
theorem Eg6ok : EnvOk Eg6 := Eg5ok.add gEr_ok
/-! A leaving -/
structure Lv where
  sl : Int
  s : Int
  st : Int
  lk : Bool
  dn : Bool
def Lv.cells (_ : Nat) (o : Lv) : List Value := [.int .i64 o.sl, .int .u64 o.s, .int .i64 o.st, .bool o.lk, .bool o.dn]
def Lv.dcells (o : Lv) : List Value := [.int .i64 o.sl, .int .i64 o.st, .bool o.lk, .int .u64 o.s, .bool o.dn]
def lvParse (_ : Nat) : List Value → Option Lv
  | [.int .i64 a, .int .u64 b, .int .i64 c, .bool e, .bool f] => some ⟨a, b, c, e, f⟩
  | _ => none
def lvD : List Value → Option Lv
  | [.int .i64 a, .int .i64 c, .bool e, .int .u64 b, .bool f] => some ⟨a, b, c, e, f⟩
  | _ => none
def lO : Obj Lv := ⟨182, Lv.cells, lvParse⟩
theorem lO_ok : lO.Ok := by
  refine ⟨fun n l s h => ?_, .inl fun s => rfl, fun s σ => rfl⟩
  have h' : lvParse n l = some s := h
  unfold lvParse at h'
  split at h'
  · obtain rfl := Option.some.inj h'; rfl
  · cases h'
theorem lvD_some (l : List Value) (o : Lv) (h : lvD l = some o) : l = o.dcells := by
  unfold lvD at h
  split at h
  · obtain rfl := Option.some.inj h; rfl
  · cases h
def lvW (o : Lv) : Int := if o.st < 0 then mvI o.s (nuI o.s 27 3) false else if o.st > 7 then mvI o.s (nuI o.s 27 3) false else mvI o.s o.st false
def lSt (o : Lv) (m : Mm) : Lv :=
  if o.dn = true then o
  else if o.lk = true then ⟨o.sl, o.s, o.st, false, dnS m 4 o.sl o.s⟩
  else ⟨o.sl, getW m.w (cellIx m.c 4 o.sl), o.st, true, o.dn⟩
def lMe (o : Lv) (m : Mm) : Mm :=
  if o.dn = true then m
  else if o.lk = true then mSw m 4 o.sl o.s (lvW o)
  else mLd m 4 o.sl
def lGood (o : Lv) (m : Mm) : Prop := m.ok ∧ WfW m.w ∧ Wd o.s
abbrev lStepF : FuncId := 59
abbrev lDocF : FuncId := 65
open Dec in
section
variable (sl s st : Int) (lk : Bool) (m : Mm)
theorem lw_d : callR Eg6 12 lStepF (objA []) (objHp lO ⟨sl, s, st, lk, true⟩ m) [Dec.l] [0, 1, 2] = some (.tuple ⟨[]⟩, objHp lO ⟨sl, s, st, lk, true⟩ m, []) := by kernel_rfl
theorem lw_k : callR Eg6 12 lStepF (objA []) (objHp lO ⟨sl, s, st, false, false⟩ m) [Dec.l, Dec.l] [0, 1, 2] = some (.tuple ⟨[]⟩, objHp lO ⟨sl, getW m.w (cellIx m.c 4 sl), st, true, false⟩ (mLd m 4 sl), [m.ok]) := by kernel_rfl
theorem lw_1 : callR Eg6 12 lStepF (objA []) (objHp lO ⟨sl, s, st, true, false⟩ m) [Dec.l, Dec.l, t, Dec.l] [0, 1, 2] = some (.tuple ⟨[]⟩, objHp lO ⟨sl, s, st, false, dnS m 4 sl s⟩ (mSw m 4 sl s (mvI s (nuI s 27 3) false)), [decide (st < 0) = true, Wd s, Wd s, m.ok]) := by kernel_rfl
theorem lw_2 : callR Eg6 12 lStepF (objA []) (objHp lO ⟨sl, s, st, true, false⟩ m) [Dec.l, Dec.l, f, t] [0, 1, 2] = some (.tuple ⟨[]⟩, objHp lO ⟨sl, s, st, false, dnS m 4 sl s⟩ (mSw m 4 sl s (mvI s (nuI s 27 3) false)), [decide (st < 0) = false, decide (st > 7) = true, Wd s, Wd s, m.ok]) := by kernel_rfl
theorem lw_3 : callR Eg6 12 lStepF (objA []) (objHp lO ⟨sl, s, st, true, false⟩ m) [Dec.l, Dec.l, f, f] [0, 1, 2] = some (.tuple ⟨[]⟩, objHp lO ⟨sl, s, st, false, dnS m 4 sl s⟩ (mSw m 4 sl s (mvI s st false)), [decide (st < 0) = false, decide (st > 7) = false, Wd s, m.ok]) := by kernel_rfl
theorem lg_d : callR Eg6 12 lDocF (docA Lv.dcells ⟨sl, s, st, lk, true⟩ m) (rHp m) [Dec.l] [0, 1] = some (docV (Lv.dcells ⟨sl, s, st, lk, true⟩) m 0 1, rHp m, []) := by kernel_rfl
theorem lg_k : callR Eg6 12 lDocF (docA Lv.dcells ⟨sl, s, st, false, false⟩ m) (rHp m) [Dec.l, Dec.l] [0, 1, 6, 7] = some (docV (Lv.dcells ⟨sl, getW m.w (cellIx m.c 4 sl), st, true, false⟩) (mLd m 4 sl) 2 3, rVw' m m.w, [m.ok ∧ m.c.Right]) := by kernel_rfl
theorem lg_1 : callR Eg6 12 lDocF (docA Lv.dcells ⟨sl, s, st, true, false⟩ m) (rHp m) [Dec.l, Dec.l, t, Dec.l] [0, 1, 6, 7] = some (docV (Lv.dcells ⟨sl, s, st, false, dnS m 4 sl s⟩) (mSw m 4 sl s (mvI s (nuI s 27 3) false)) 2 3, rVw' m (mSw m 4 sl s (mvI s (nuI s 27 3) false)).w, [decide (st < 0) = true, Wd s, Wd s, m.ok ∧ m.c.Right]) := by kernel_rfl
theorem lg_2 : callR Eg6 12 lDocF (docA Lv.dcells ⟨sl, s, st, true, false⟩ m) (rHp m) [Dec.l, Dec.l, f, t] [0, 1, 6, 7] = some (docV (Lv.dcells ⟨sl, s, st, false, dnS m 4 sl s⟩) (mSw m 4 sl s (mvI s (nuI s 27 3) false)) 2 3, rVw' m (mSw m 4 sl s (mvI s (nuI s 27 3) false)).w, [decide (st < 0) = false, decide (st > 7) = true, Wd s, Wd s, m.ok ∧ m.c.Right]) := by kernel_rfl
theorem lg_3 : callR Eg6 12 lDocF (docA Lv.dcells ⟨sl, s, st, true, false⟩ m) (rHp m) [Dec.l, Dec.l, f, f] [0, 1, 6, 7] = some (docV (Lv.dcells ⟨sl, s, st, false, dnS m 4 sl s⟩) (mSw m 4 sl s (mvI s st false)) 2 3, rVw' m (mSw m 4 sl s (mvI s st false)).w, [decide (st < 0) = false, decide (st > 7) = false, Wd s, m.ok ∧ m.c.Right]) := by kernel_rfl
end
theorem lStep_C (o : Lv) (m : Mm) (h : lGood o m) : CallC Try.prog lStepF (objA []) (objHp lO o m) (.tuple ⟨[]⟩) (objHp lO (lSt o m) (lMe o m)) := by
  obtain ⟨sl, s, st, lk, dn⟩ := o
  obtain ⟨ho, hw, hs⟩ := h
  simp only at hs
  cases dn
  · cases lk
    · exact CallC.of_call Eg6ok (lw_k sl s st m) (pcs_of ⟨ho, trivial⟩) rfl z3
    · unfold lSt lMe lvW
      simp only [Bool.false_eq_true, if_false, if_true]
      by_cases h1 : st < 0
      · rw [if_pos h1]
        exact CallC.of_call Eg6ok (lw_1 sl s st m) (pcs_of ⟨decide_eq_true h1, hs, hs, ho, trivial⟩) rfl z3
      · rw [if_neg h1]
        by_cases h2 : st > 7
        · rw [if_pos h2]
          exact CallC.of_call Eg6ok (lw_2 sl s st m) (pcs_of ⟨decide_eq_false h1, decide_eq_true h2, hs, hs, ho, trivial⟩) rfl z3
        · rw [if_neg h2]
          exact CallC.of_call Eg6ok (lw_3 sl s st m) (pcs_of ⟨decide_eq_false h1, decide_eq_false h2, hs, ho, trivial⟩) rfl z3
  · exact CallC.of_call Eg6ok (lw_d sl s st lk m) (pcs_of trivial) rfl z3
theorem lDoc_C (o : Lv) (m : Mm) (h : lGood o m ∧ m.c.Right) : CallC Try.prog lDocF (docA Lv.dcells o m) (rHp m) (docV (Lv.dcells (lSt o m)) (lMe o m) 2 3) (rOut m (lMe o m)) := by
  obtain ⟨sl, s, st, lk, dn⟩ := o
  obtain ⟨⟨ho, hw, hs⟩, hri⟩ := h
  simp only at hs
  cases dn
  · cases lk
    · exact r_vw' (V := docV _ _) (docV_rn rfl _) (docV_nm rfl _) (CallC.of_call Eg6ok (lg_k sl s st m) (pcs_of ⟨⟨ho, hri⟩, trivial⟩) rfl z2L)
    · unfold lSt lMe lvW
      simp only [Bool.false_eq_true, if_false, if_true]
      by_cases h1 : st < 0
      · rw [if_pos h1]
        exact r_vw' (V := docV _ _) (docV_rn rfl _) (docV_nm rfl _) (CallC.of_call Eg6ok (lg_1 sl s st m) (pcs_of ⟨decide_eq_true h1, hs, hs, ⟨ho, hri⟩, trivial⟩) rfl z2L)
      · rw [if_neg h1]
        by_cases h2 : st > 7
        · rw [if_pos h2]
          exact r_vw' (V := docV _ _) (docV_rn rfl _) (docV_nm rfl _) (CallC.of_call Eg6ok (lg_2 sl s st m) (pcs_of ⟨decide_eq_false h1, decide_eq_true h2, hs, hs, ⟨ho, hri⟩, trivial⟩) rfl z2L)
        · rw [if_neg h2]
          exact r_vw' (V := docV _ _) (docV_rn rfl _) (docV_nm rfl _) (CallC.of_call Eg6ok (lg_3 sl s st m) (pcs_of ⟨decide_eq_false h1, decide_eq_false h2, hs, ⟨ho, hri⟩, trivial⟩) rfl z2L)
  · exact r_same (V := docV _ m) rfl (docV_rn rfl m) (docV_nm rfl m) (CallC.of_call Eg6ok (lg_d sl s st lk m) (pcs_of trivial) rfl z2L)
theorem lvW_rng {o : Lv} (h : Wd o.s) : Wd (lvW o) := by
  unfold lvW
  split
  · exact mvI_rng h _ _
  · split <;> exact mvI_rng h _ _
theorem lMe_ok {o : Lv} {m : Mm} (h : lGood o m) : (lMe o m).ok ∧ (lMe o m).c = m.c ∧ WfW (lMe o m).w := by
  obtain ⟨ho, hw, hs⟩ := h
  unfold lMe
  split
  · exact ⟨ho, rfl, hw⟩
  · split
    · exact ⟨acc_ok ho (swpW_len _ _ _ _), rfl, hw.swpW _ _ (lvW_rng hs)⟩
    · exact ⟨acc_ok ho rfl, rfl, hw⟩
theorem lSt_s {o : Lv} {m : Mm} (h : lGood o m) : Wd (lSt o m).s := by
  obtain ⟨ho, hw, hs⟩ := h
  unfold lSt
  split
  · exact hs
  · split
    · exact hs
    · exact hw.getW _
theorem lStep_good {o : Lv} {m : Mm} (h : lGood o m) : lGood (lSt o m) (lMe o m) := ⟨(lMe_ok h).1, (lMe_ok h).2.2, lSt_s h⟩
abbrev gL : List Value → Hp → Option (Value × Hp × List Prop) := gObj lO (fun _ _ _ => .tuple ⟨[]⟩) (fun j m _ => lSt j m) (fun j m _ => lMe j m) (fun j m rest => rest = [] ∧ lGood j m)
theorem gL_ok : ∀ args hp v hp' pc, gL args hp = some (v, hp', pc) → ∀ ds, CallOk Try.prog lStepF args hp ⟨v, hp', ds, pc⟩ :=
  gObj_ok lO_ok (enters (fn := Try.f59) (by kernel_rfl) (by kernel_rfl) rfl) (fun _ _ _ => rfl) fun j m rest h => by
    obtain ⟨rfl, h⟩ := h
    exact lStep_C j m h
abbrev gLd' : List Value → Hp → Option (Value × Hp × List Prop) := gDoc lvD Lv.dcells lSt lMe (fun o m => lGood o m ∧ m.c.Right)
theorem gLd'_ok : ∀ args hp v hp' pc, gLd' args hp = some (v, hp', pc) → ∀ ds, CallOk Try.prog lDocF args hp ⟨v, hp', ds, pc⟩ :=
  gDoc_ok lvD_some (fun _ => rfl) (enters (fn := Try.f65) (by kernel_rfl) (by kernel_rfl) rfl) lDoc_C
noncomputable def Eg7 : Env := (Eg6.add lStepF gL).add lDocF gLd'
theorem Eg7ok : EnvOk Eg7 := (Eg6ok.add gL_ok).add gLd'_ok

/-- On to the end: how many steps, and what is left. -/
def lvRun : Nat → Nat → Lv → Mm → Nat × Lv × Mm
  | 0, i, j, m => (i, j, m)
  | n + 1, i, j, m => if j.dn = true then (i, j, m) else lvRun n (i + 1) (lSt j m) (lMe j m)
noncomputable abbrev lvF : Func := Try.f61
abbrev lvId : FuncId := 61
def lvFr (j : Lv) (m : Mm) (N i : Int) (ds : List Dec) : Fr := mkFr 20 [(0, pt0), (1, .pointer (some ⟨1, 0, none⟩)), (2, .int .i64 N), (8, .int .i64 N), (9, .int .i64 i)] (objHp lO j m).blks 3 [0, 1, 2] ds
def lvG (j : Lv) (m : Mm) (N : Int) : Fr := mkFr 20 [(0, pt0), (1, .pointer (some ⟨1, 0, none⟩)), (2, .int .i64 N), (8, .int .i64 N), (9, .int .i64 0)] (objHp lO j m).blks 3 [] []
def lvE (j : Lv) (m : Mm) (i : Int) (ds : List Dec) : Fr := mkFr 20 [(6, .int .i64 i)] (objHp lO j m).blks 3 [0, 1, 2] ds
def lvX (j : Lv) (m : Mm) (N : Int) (ds : List Dec) : Fr := mkFr 20 [(0, pt0), (1, .pointer (some ⟨1, 0, none⟩)), (2, .int .i64 N)] (objHp lO j m).blks 3 [0, 1, 2] ds
abbrev lvL : List Nat := [1, 0, 1, 0, 0]
open Dec in
section
variable (j : Lv) (m : Mm) (N i : Nat)
theorem lv_in : execR Eg7 12 .normal [.code (bd lvF [])] [0, 1, 2] [0, 1, 2, 8, 9] 3 [] ⟨objA [.int .i64 N] ++ List.replicate 17 undef, objHp lO j m, [], []⟩ = some (.normal, [.code (.loop (bd lvF lvL)), .blk 0, .code (bd lvF [1, 1])], lvG j m N, []) := by kernel_rfl
theorem lv_go : run Eg7 12 (bd lvF lvL) [0, 1, 2] [0, 1, 2, 8, 9] 3 [] (lvFr j m N (i : Int) [t, f]) = some (.normal, lvFr (lSt j m) (lMe j m) N (w64 ((i : Int) + 1)) [], [decide ((i : Int) < (N : Int)) = true, j.dn = false, ([] : List Value) = [] ∧ lGood j m]) := by kernel_rfl
theorem lv_dn : run Eg7 12 (bd lvF lvL) [0, 1, 2] [6] 3 [] (lvFr j m N (i : Int) [t, t]) = some (.ret, lvE j m (i : Int) [], [decide ((i : Int) < (N : Int)) = true, j.dn = true]) := by kernel_rfl
theorem lv_end : run Eg7 12 (bd lvF lvL) [0, 1, 2] [0, 1, 2] 3 [] (lvFr j m N (i : Int) [f]) = some (.exit 0, lvX j m N [], [decide ((i : Int) < (N : Int)) = false]) := by kernel_rfl
theorem lv_out : execR Eg7 12 (.exit 0) [.blk 0, .code (bd lvF [1, 1])] [0, 1, 2] [6] 3 [] (lvX j m N []) = some (.ret, [], lvE j m N [], []) := by kernel_rfl
theorem lv_ret (v : Int) : execR Eg7 12 .ret [.blk 0, .code (bd lvF [1, 1])] [0, 1, 2] [6] 3 [] (lvE j m v []) = some (.ret, [], lvE j m v [], []) := by kernel_rfl
end
theorem lvRun_good : ∀ (n i : Nat) (j : Lv) (m : Mm), lGood j m → lGood (lvRun n i j m).2.1 (lvRun n i j m).2.2
  | 0, _, _, _, h => h
  | n + 1, i, j, m, h => by
    unfold lvRun
    split
    · exact h
    · exact lvRun_good n (i + 1) _ _ (lStep_good h)
open Dec in
theorem lv_C {j j' : Lv} {m m' : Mm} {N n : Nat} (hN : N ≤ 1000) (hg : lGood j m) (hR : lvRun N 0 j m = (n, j', m')) : CallC Try.prog lvId (objA [.int .i64 N]) (objHp lO j m) (.int .i64 n) (objHp lO j' m') := by
  refine CallC.of_body (E := Eg7) (ds := []) (fn := lvF) 17 (by kernel_rfl) (by kernel_rfl) (by kernel_rfl) (by kernel_rfl) ?_
  refine KC.of_exec (fr := ⟨objA [.int .i64 N] ++ List.replicate 17 undef, objHp lO j m, [], []⟩) Eg7ok (lv_in j m N) (pcs_of trivial) (Nat.le_refl _) z3 ?_
  have ha : KC Eg7 3 .normal [.code (.loop (bd lvF lvL)), .blk 0, .code (bd lvF [1, 1])] (lvFr j m N ((0 : Nat) : Int) []) (Ev.Ends Eg7 lvF 3 (.int .i64 n) (objHp lO j' m')) := by
    refine KC.loop (m0 := 3) (ι := Nat × Lv × Mm) (fun x => lvFr x.2.1 x.2.2 N (x.1 : Int) []) (fun x => x.1 ≤ N ∧ lGood x.2.1 x.2.2 ∧ lvRun (N - x.1) x.1 x.2.1 x.2.2 = (n, j', m')) (fun x => N - x.1)
      (fun ex fr => (ex = .exit 0 ∧ n = N ∧ fr = lvX j' m' N []) ∨ (ex = .ret ∧ fr = lvE j' m' n [])) (fun x hx => ?_) ?_ (0, j, m) ⟨Nat.zero_le _, hg, hR⟩
    · obtain ⟨i, j, m⟩ := x
      obtain ⟨hi, ho, he⟩ := hx
      simp only at hi ho he ⊢
      by_cases hlt : i < N
      · have hd : decide ((i : Int) < (N : Int)) = true := decide_eq_true (by omega)
        obtain ⟨k, hk⟩ : ∃ k, N - i = k + 1 := ⟨N - i - 1, by omega⟩
        rw [hk] at he
        unfold lvRun at he
        by_cases hr : j.dn = true
        · rw [if_pos hr] at he
          simp only [Prod.mk.injEq] at he
          obtain ⟨rfl, rfl, rfl⟩ := he
          exact CodeC.of_run (fr := lvFr j m N (i : Int) [t, t]) Eg7ok (lv_dn j m N i) (pcs_of ⟨hd, hr, trivial⟩) (Nat.le_refl _) z3 (.inr ⟨by simp, .inr ⟨rfl, rfl⟩⟩)
        · rw [if_neg hr] at he
          exact CodeC.of_run (fr := lvFr j m N (i : Int) [t, f]) Eg7ok (lv_go j m N i) (pcs_of ⟨hd, by simpa using hr, ⟨rfl, ho⟩, trivial⟩) (Nat.le_refl _) z3 (.inl ⟨rfl, (i + 1, lSt j m, lMe j m), by rw [w64_succ i (by omega)], ⟨by simp only; omega, lStep_good ho, by
            simp only
            rw [show N - (i + 1) = k by omega]
            exact he⟩, by simp only; omega⟩)
      · have e : i = N := by omega
        subst e
        rw [show i - i = 0 by omega] at he
        have he' : (i, j, m) = (n, j', m') := he
        simp only [Prod.mk.injEq] at he'
        obtain ⟨rfl, rfl, rfl⟩ := he'
        exact CodeC.of_run (fr := lvFr j m i (i : Int) [f]) Eg7ok (lv_end j m i i) (pcs_of ⟨decide_eq_false (by omega), trivial⟩) (Nat.le_refl _) z3 (.inr ⟨by simp, .inl ⟨rfl, rfl, rfl⟩⟩)
    · rintro ex fr (⟨rfl, rfl, rfl⟩ | ⟨rfl, rfl⟩)
      · exact KC.of_exec Eg7ok (lv_out j' m' n) (pcs_of trivial) (Nat.le_refl _) z3 (KC.done ⟨by simp, [.int .i64 n], [], [0, 1, 2], 0, by kernel_rfl, by simp, by kernel_rfl, rfl, z3⟩)
      · exact KC.of_exec Eg7ok (lv_ret j' m' n) (pcs_of trivial) (Nat.le_refl _) z3 (KC.done ⟨by simp, [.int .i64 n], [], [0, 1, 2], 0, by kernel_rfl, by simp, by kernel_rfl, rfl, z3⟩)
  exact KC.alias [0, 1, 2] ha (by kernel_rfl) (by kernel_rfl) (by kernel_rfl) ⟨rfl, rfl, rfl, trivial⟩ (by kernel_rfl) z3
abbrev glv : List Value → Hp → Option (Value × Hp × List Prop) := gObj lO (fun j m rest => let R := lvRun (numOf rest) 0 j m; .int .i64 R.1) (fun j m rest => (lvRun (numOf rest) 0 j m).2.1) (fun j m rest => (lvRun (numOf rest) 0 j m).2.2) (fun j m rest => rest = [.int .i64 (numOf rest)] ∧ numOf rest ≤ 1000 ∧ lGood j m)
theorem glv_ok : ∀ args hp v hp' pc, glv args hp = some (v, hp', pc) → ∀ ds, CallOk Try.prog lvId args hp ⟨v, hp', ds, pc⟩ :=
  gObj_ok lO_ok (enters (fn := Try.f61) (by kernel_rfl) (by kernel_rfl) rfl) (fun _ _ _ => rfl) fun j m rest h => by
    obtain ⟨h1, h2, h3⟩ := h
    have hC := lv_C (j := j) (m := m) (n := (lvRun (numOf rest) 0 j m).1) (j' := (lvRun (numOf rest) 0 j m).2.1) (m' := (lvRun (numOf rest) 0 j m).2.2) h2 h3 rfl
    rw [← h1] at hC
    exact hC
noncomputable def Eg8 : Env := Eg7.add lvId glv
theorem Eg8ok : EnvOk Eg8 := Eg7ok.add glv_ok
end Go.Proofs.Ytmliekdbhefpkaa.Ct
