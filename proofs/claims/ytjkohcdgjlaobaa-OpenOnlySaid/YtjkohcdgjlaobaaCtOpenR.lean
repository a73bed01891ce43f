/- A beginning, on to the end. -/
import Derived.Test.YtjkohcdgjlaobaaCtOpen
namespace Go.Proofs.Ytjkohcdgjlaobaa.Ct
open Go Go.Proofs Go.Proofs.Ytjkohcdgjlaobaa.Ev
open Go.RowKit

theorem opHme_ok {o : Op} {m : Mm} (h : opGood o m) : (opHme o m).ok ∧ (opHme o m).c = m.c ∧ WfW (opHme o m).w := by
  obtain ⟨ho, hw, h7, hap, hs, hav, haw, hsq, h3⟩ := h
  unfold opHme
  split
  · exact ⟨acc_ok ho (swpW_len _ _ _ _), rfl, hw.swpW _ _ (seqB_rng haw)⟩
  · exact ⟨acc_ok ho rfl, rfl, hw⟩
  · exact ⟨acc_ok ho (swpW_len _ _ _ _), rfl, hw.swpW _ _ (mvI_rng hav _ _)⟩
  · exact ⟨acc_ok ho (swpW_len _ _ _ _), rfl, hw.swpW _ _ (setB_rng _)⟩
theorem opMe_ok {o : Op} {m : Mm} (h : opGood o m) : (opMe o m).ok ∧ (opMe o m).c = m.c ∧ WfW (opMe o m).w := by
  have hH := opHme_ok h
  obtain ⟨ho, hw, h7, hap, hs, hav, haw, hsq, h3⟩ := h
  unfold opMe
  split
  · exact ⟨acc_ok ho rfl, rfl, hw⟩
  · exact ⟨acc_ok ho (swpW_len _ _ _ _), rfl, hw.swpW _ _ (mvI_rng hs _ _)⟩
  · exact ⟨acc_ok ho rfl, rfl, hw⟩
  · exact hH
  · exact ⟨acc_ok ho (setW_len _ _ _), rfl, hw.setW _ hsq.1 hsq.2⟩
  · have := mvI_rng hs 2 false
    exact ⟨acc_ok ho (setW_len _ _ _), rfl, hw.setW _ this.1 this.2⟩
  · exact ⟨ho, rfl, hw⟩
theorem wd0 : Wd 0 := ⟨Int.le_refl _, by decide⟩
theorem opGo_good {o : Op} {sl : Int} (h : o.good) : (opGo o sl).good := by
  obtain ⟨h7, hap, hs, hav, haw, hsq, h3⟩ := h
  unfold opGo
  split
  · exact ⟨by show 6 ≤ 7; omega, hap, hs, hav, haw, hsq, fun e => by cases e⟩
  · exact ⟨by show 0 ≤ 7; omega, hap, hs, hav, haw, hsq, fun e => by cases e⟩
theorem opSt_good {o : Op} {m : Mm} (h : opGood o m) : (opSt o m).good := by
  obtain ⟨ho, hw, h7, hap, hs, hav, haw, hsq, h3⟩ := h
  have hV : ∀ k, Wd (vSt m k) := fun k => hw.getW _
  have hT : Wd (vTl m) := hw.getW _
  unfold opSt
  split
  · rename_i e0
    split
    · exact ⟨by show 1 ≤ 7; omega, hap, hV _, hav, haw, hsq, fun e => by cases e⟩
    · exact opGo_good ⟨h7, hap, hV _, hav, haw, hsq, h3⟩
  · split
    · exact ⟨by show 2 ≤ 7; omega, hap, hs, hav, haw, hsq, fun e => by cases e⟩
    · exact opGo_good ⟨h7, hap, hs, hav, haw, hsq, h3⟩
  · split
    · exact ⟨by show 3 ≤ 7; omega, by show 1 ≤ 5; omega, hs, wd0, hT, seqB_rng hT, fun _ => ⟨by show 1 ≤ 1; omega, by show 1 ≤ 4; omega⟩⟩
    · exact ⟨by show 4 ≤ 7; omega, hap, hs, hav, haw, seqB_rng hT, fun e => by cases e⟩
  · unfold opHelp
    split
    · exact ⟨by show 3 ≤ 7; omega, by show 2 ≤ 5; omega, hs, hav, haw, hsq, fun _ => ⟨by show 1 ≤ 2; omega, by show 2 ≤ 4; omega⟩⟩
    · have : (if (nuI (vSt m (pendB o.aw)) 27 3 == 3) = true then 3 else 4) = 3 ∨ (if (nuI (vSt m (pendB o.aw)) 27 3 == 3) = true then 3 else 4) = 4 := by split <;> simp
      refine ⟨by show 3 ≤ 7; omega, ?_, hs, hV _, haw, hsq, fun _ => ?_⟩
      · show (if _ then 3 else 4) ≤ 5
        rcases this with e | e <;> rw [e] <;> omega
      · show 1 ≤ (if _ then 3 else 4) ∧ (if _ then 3 else 4) ≤ 4
        rcases this with e | e <;> rw [e] <;> omega
    · have : (if dnS m 4 (pendB o.aw) o.av = true then 4 else 2) = 4 ∨ (if dnS m 4 (pendB o.aw) o.av = true then 4 else 2) = 2 := by split <;> simp
      refine ⟨by show 3 ≤ 7; omega, ?_, hs, hav, haw, hsq, fun _ => ?_⟩
      · show (if _ then 4 else 2) ≤ 5
        rcases this with e | e <;> rw [e] <;> omega
      · show 1 ≤ (if _ then 4 else 2) ∧ (if _ then 4 else 2) ≤ 4
        rcases this with e | e <;> rw [e] <;> omega
    · exact ⟨by show 2 ≤ 7; omega, by show 5 ≤ 5; omega, hs, hav, haw, hsq, fun e => by cases e⟩
  · exact ⟨by show 5 ≤ 7; omega, hap, hs, hav, haw, hsq, fun e => by cases e⟩
  · exact ⟨by show 7 ≤ 7; omega, hap, hs, hav, haw, hsq, fun e => by cases e⟩
  · exact ⟨h7, hap, hs, hav, haw, hsq, h3⟩
theorem opStep_good {o : Op} {m : Mm} (h : opGood o m) : opGood (opSt o m) (opMe o m) := ⟨(opMe_ok h).1, (opMe_ok h).2.2, opSt_good h⟩

def opRun : Nat → Nat → Op → Mm → Nat × Op × Mm
  | 0, i, o, m => (i, o, m)
  | n + 1, i, o, m => if o.dn = true then (i, o, m) else opRun n (i + 1) (opSt o m) (opMe o m)
theorem opRun_good : ∀ (n i : Nat) (o : Op) (m : Mm), opGood o m → opGood (opRun n i o m).2.1 (opRun n i o m).2.2
  | 0, _, _, _, h => h
  | n + 1, i, o, m, h => by
    unfold opRun
    split
    · exact h
    · exact opRun_good n (i + 1) _ _ (opStep_good h)
noncomputable abbrev oeF : Func := Try.f17
abbrev oeId : FuncId := 17
abbrev oeL : List Nat := [1, 0, 1, 0, 0]
abbrev oQ (o : Op) : Prop := isHid opF (hidN 3) o.enc (bl opF (hidN 3) o.enc (hidN 3) 0)
/-- What is left, in the order of the names. -/
def oS (o : Op) (m : Mm) : Hp := ⟨[(0, .opt (hidN 3) (opF 0) o.enc), (3, .cells (m.cells 4) memT), (4, .ints .u64 m.w u64T), (5, .opt (hidN 3) (opF 1) o.enc), (6, .opt (hidN 3) (opF 2) o.enc)], 7, []⟩
def oeFr (o : Op) (m : Mm) (N i : Int) (ds : List Dec) : Fr := mkFr 20 [(0, pt0), (1, .pointer (some ⟨3, 0, none⟩)), (2, .int .i64 N), (8, .int .i64 N), (9, .int .i64 i)] (oS o m).blks 7 [0, 3, 4] ds
def oeG (o : Op) (m : Mm) (N : Int) : Fr := mkFr 20 [(0, pt0), (1, .pointer (some ⟨3, 0, none⟩)), (2, .int .i64 N), (8, .int .i64 N), (9, .int .i64 0)] (hidHp opF 3 o.enc m).blks 5 [] []
def oeE (o : Op) (m : Mm) (i : Int) (ds : List Dec) : Fr := mkFr 20 [(6, .int .i64 i)] (oS o m).blks 7 [0, 3, 4] ds
def oeX (o : Op) (m : Mm) (N : Int) (ds : List Dec) : Fr := mkFr 20 [(2, .int .i64 N)] (oS o m).blks 7 [0, 3, 4] ds
abbrev oeK (o : Op) : List Value → Prop := fun r => r = [] ∧ isOp o.enc ∧ o.good
open Dec in
section
variable (o : Op) (m : Mm) (N i : Nat)
theorem oe_in : execR E47 12 .normal [.code (bd oeF [])] [0, 1, 2, 3, 4] [0, 1, 2, 8, 9] 5 [] ⟨hidA 3 [.int .i64 N] ++ List.replicate 17 undef, hidHp opF 3 o.enc m, [], []⟩ = some (.normal, [.code (.loop (bd oeF oeL)), .blk 0, .code (bd oeF [1, 1])], oeG o m N, []) := by kernel_rfl
theorem oe_go : run E47 12 (bd oeF oeL) [0, 1, 2, 3, 4, 7, 8] [0, 1, 2, 8, 9] 5 [] (oeFr o m N (i : Int) [t, f]) = some (.normal, oeFr (opSt o m) (opMe o m) N (w64 ((i : Int) + 1)) [], [decide ((i : Int) < (N : Int)) = true, oQ o, ([] : List Value) = [] ∧ isOp o.enc ∧ o.good, o.dn = false, oQ o, ([] : List Value) = [] ∧ isOp o.enc ∧ opGood o m]) := by kernel_rfl
theorem oe_dn : run E47 12 (bd oeF oeL) [0, 1, 2, 3, 4, 5, 6] [6] 5 [] (oeFr o m N (i : Int) [t, t]) = some (.ret, oeE o m (i : Int) [], [decide ((i : Int) < (N : Int)) = true, oQ o, ([] : List Value) = [] ∧ isOp o.enc ∧ o.good, o.dn = true]) := by kernel_rfl
theorem oe_end : run E47 12 (bd oeF oeL) [0, 1, 2, 3, 4, 5, 6] [2] 5 [] (oeFr o m N (i : Int) [f]) = some (.exit 0, oeX o m N [], [decide ((i : Int) < (N : Int)) = false]) := by kernel_rfl
theorem oe_out : execR E47 12 (.exit 0) [.blk 0, .code (bd oeF [1, 1])] [0, 1, 2, 3, 4, 5, 6] [6] 5 [] (oeX o m N []) = some (.ret, [], oeE o m N [], []) := by kernel_rfl
theorem oe_ret (v : Int) : execR E47 12 .ret [.blk 0, .code (bd oeF [1, 1])] [0, 1, 2, 3, 4, 5, 6] [6] 5 [] (oeE o m v []) = some (.ret, [], oeE o m v [], []) := by kernel_rfl
end
theorem z5w {tl : List Nat} : ∀ k, k < 5 → (0 :: 1 :: 2 :: 3 :: 4 :: tl : List Nat).getD k 0 = k := fun k hk => by
  match k, hk with
  | 0, _ | 1, _ | 2, _ | 3, _ | 4, _ => rfl
open Dec in
theorem oe_C {o o' : Op} {m m' : Mm} {N n : Nat} (hN : N ≤ 1000) (hg : opGood o m) (hR : opRun N 0 o m = (n, o', m')) : CallC Try.prog oeId (hidA 3 [.int .i64 N]) (hidHp opF 3 o.enc m) (.int .i64 n) (hidOut opF 3 o'.enc m') := by
  refine CallC.ren (hp1 := oS o' m') ?_ [0, 1, 2, 3, 4, 5, 6] rfl (by kernel_rfl) (by kernel_rfl) ⟨rfl, rfl, rfl, rfl, rfl, trivial⟩ (by kernel_rfl) z5w
  refine CallC.of_body (E := E47) (ds := []) (fn := oeF) 17 (by kernel_rfl) (by kernel_rfl) (by kernel_rfl) (by kernel_rfl) ?_
  refine KC.of_exec (fr := ⟨hidA 3 [.int .i64 N] ++ List.replicate 17 undef, hidHp opF 3 o.enc m, [], []⟩) E47ok (oe_in o m N) (pcs_of trivial) (Nat.le_refl _) z5w ?_
  have ha : KC E47 5 .normal [.code (.loop (bd oeF oeL)), .blk 0, .code (bd oeF [1, 1])] (oeFr o m N ((0 : Nat) : Int) []) (Ev.Ends E47 oeF 5 (.int .i64 n) (oS o' m')) := by
    refine KC.loop (m0 := 5) (ι := Nat × Op × Mm) (fun x => oeFr x.2.1 x.2.2 N (x.1 : Int) []) (fun x => x.1 ≤ N ∧ opGood x.2.1 x.2.2 ∧ opRun (N - x.1) x.1 x.2.1 x.2.2 = (n, o', m')) (fun x => N - x.1)
      (fun ex fr => (ex = .exit 0 ∧ n = N ∧ fr = oeX o' m' N []) ∨ (ex = .ret ∧ fr = oeE o' m' n [])) (fun x hx => ?_) ?_ (0, o, m) ⟨Nat.zero_le _, hg, hR⟩
    · obtain ⟨i, o, m⟩ := x
      obtain ⟨hi, ho, he⟩ := hx
      simp only at hi ho he ⊢
      have hl : 5 ≤ 7 := by omega
      by_cases hlt : i < N
      · have hd : decide ((i : Int) < (N : Int)) = true := decide_eq_true (by omega)
        obtain ⟨k, hk⟩ : ∃ k, N - i = k + 1 := ⟨N - i - 1, by omega⟩
        rw [hk] at he
        unfold opRun at he
        by_cases hr : o.dn = true
        · rw [if_pos hr] at he
          simp only [Prod.mk.injEq] at he
          obtain ⟨rfl, rfl, rfl⟩ := he
          exact CodeC.of_run (fr := oeFr o m N (i : Int) [t, t]) E47ok (oe_dn o m N i) (pcs_of ⟨hd, rfl, ⟨rfl, rfl, ho.2.2⟩, hr, trivial⟩) hl z5w (.inr ⟨by simp, .inr ⟨rfl, rfl⟩⟩)
        · rw [if_neg hr] at he
          exact CodeC.of_run (fr := oeFr o m N (i : Int) [t, f]) E47ok (oe_go o m N i) (pcs_of ⟨hd, rfl, ⟨rfl, rfl, ho.2.2⟩, eq_false_of_ne_true hr, rfl, ⟨rfl, rfl, ho⟩, trivial⟩) hl z5w (.inl ⟨rfl, (i + 1, opSt o m, opMe o m), by rw [w64_succ i (by omega)], ⟨by simp only; omega, opStep_good ho, by
            simp only
            rw [show N - (i + 1) = k by omega]
            exact he⟩, by simp only; omega⟩)
      · have e : i = N := by omega
        subst e
        rw [show i - i = 0 by omega] at he
        have he' : (i, o, m) = (n, o', m') := he
        simp only [Prod.mk.injEq] at he'
        obtain ⟨rfl, rfl, rfl⟩ := he'
        exact CodeC.of_run (fr := oeFr o m i (i : Int) [f]) E47ok (oe_end o m i i) (pcs_of ⟨decide_eq_false (by omega), trivial⟩) hl z5w (.inr ⟨by simp, .inl ⟨rfl, rfl, rfl⟩⟩)
    · rintro ex fr (⟨rfl, rfl, rfl⟩ | ⟨rfl, rfl⟩)
      · exact KC.of_exec E47ok (oe_out o' m' n) (pcs_of trivial) (show 5 ≤ 7 by omega) z5w (KC.done ⟨by simp, [.int .i64 n], [], [0, 1, 2, 3, 4, 5, 6], 0, by kernel_rfl, by simp, by kernel_rfl, rfl, z5w⟩)
      · exact KC.of_exec E47ok (oe_ret o' m' n) (pcs_of trivial) (show 5 ≤ 7 by omega) z5w (KC.done ⟨by simp, [.int .i64 n], [], [0, 1, 2, 3, 4, 5, 6], 0, by kernel_rfl, by simp, by kernel_rfl, rfl, z5w⟩)
  exact KC.alias [0, 1, 2, 3, 4, 1, 2] ha (by kernel_rfl) (by kernel_rfl) (by kernel_rfl) ⟨rfl, rfl, rfl, rfl, rfl, trivial⟩ (by kernel_rfl) z5w
def numOf' : List Value → Nat
  | [.int .i64 (.ofNat n)] => n
  | _ => 0
abbrev gOe : List Value → Hp → Option (Value × Hp × List Prop) := gHid opF 3 (fun x m rest => .int .i64 ((opRun (numOf' rest) 0 (.dec x) m).1 : Int)) (fun x m rest => (opRun (numOf' rest) 0 (.dec x) m).2.1.enc) (fun x m rest => (opRun (numOf' rest) 0 (.dec x) m).2.2) (fun x m rest => rest = [.int .i64 (numOf' rest)] ∧ numOf' rest ≤ 1000 ∧ isOp x ∧ opGood (.dec x) m)
theorem gOe_ok : ∀ args hp v hp' pc, gOe args hp = some (v, hp', pc) → ∀ ds, CallOk Try.prog oeId args hp ⟨v, hp', ds, pc⟩ :=
  gHid_ok (enters (fn := Try.f17) (by kernel_rfl) (by kernel_rfl) rfl) (fun _ _ _ => rfl) fun x m rest h => by
    obtain ⟨h1, h2, h3, h4⟩ := h
    have hC := oe_C (o := .dec x) (m := m) (n := (opRun (numOf' rest) 0 (.dec x) m).1) (o' := (opRun (numOf' rest) 0 (.dec x) m).2.1) (m' := (opRun (numOf' rest) 0 (.dec x) m).2.2) h2 h4 rfl
    rw [← h1, ← h3] at hC
    exact hC
noncomputable def E48 : Env := E47.add oeId gOe
theorem E48ok : EnvOk E48 := E47ok.add gOe_ok
end Go.Proofs.Ytjkohcdgjlaobaa.Ct
