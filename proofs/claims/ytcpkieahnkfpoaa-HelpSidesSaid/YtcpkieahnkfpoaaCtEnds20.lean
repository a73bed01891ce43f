/- A help that goes on to its end. -/
import Derived.Test.YtcpkieahnkfpoaaCtPow
namespace Go.Proofs.Ytcpkieahnkfpoaa.Ct.N20
open Go Go.Proofs Go.Proofs.Ytcpkieahnkfpoaa.Ev
open Go.Proofs.Ytcpkieahnkfpoaa.Ct Go.RowKit

/-- Where a help is. -/
inductive Hk where
  | num
  | look
  | lay
  | set
  | fin
abbrev hfV (f : FuncId) : Value := .func (.func f) ⟨[]⟩ ⟨[]⟩
def Hk.fv : Hk → Value
  | .num => hfV 92
  | .look => hfV 103
  | .lay => hfV 107
  | .set => hfV 105
  | .fin => .nilFunc
abbrev hlT : TypeId := 155
def hpr (w : Int) (k : Hk) (s : Int) : List Value := [k.fv, .int .u64 w, .int .u64 s, .int .u64 (seqB w), .int .i64 (pendB w)]
def lookV (w : Int) (m : Mm) : Int := getW m.w (cellIx m.c 4 (pendB w))
def hNum (w : Int) (m : Mm) : Mm := mSw m 6 (pendB w) 0 (seqB w)
def hLook (w : Int) (m : Mm) : Mm := mLd m 4 (pendB w)
def hLay (w s : Int) (m : Mm) : Mm := mSw m 4 (pendB w) s (mvB s (bsB s))
def hSet (w : Int) (m : Mm) : Mm := mSw m 1 0 w (setB w)
def hStep (w : Int) (m : Mm) : Hk → Int → Hk × Int × Mm
  | .num, s => (.look, s, hNum w m)
  | .look, _ => (if stB (lookV w m) = 3 then .lay else .set, lookV w m, hLook w m)
  | .lay, s => (if dnS m 4 (pendB w) s = true then .set else .look, s, hLay w s m)
  | .set, s => (.fin, s, hSet w m)
  | .fin, s => (.fin, s, m)
theorem hStep_ok (w : Int) {m : Mm} (h : m.ok) (k : Hk) (s : Int) : (hStep w m k s).2.2.ok ∧ (hStep w m k s).2.2.c = m.c := by
  cases k with
  | num => exact ⟨acc_ok h (swpW_len _ _ _ _), rfl⟩
  | look => exact ⟨acc_ok h rfl, rfl⟩
  | lay => exact ⟨acc_ok h (swpW_len _ _ _ _), rfl⟩
  | set => exact ⟨acc_ok h (swpW_len _ _ _ _), rfl⟩
  | fin => exact ⟨h, rfl⟩
/-- On to the end: how many steps, and what is left. -/
def hRun (w : Int) : Nat → Nat → Hk → Int → Mm → Nat × Hk × Int × Mm
  | 0, i, k, s, m => (i, k, s, m)
  | _ + 1, i, .fin, s, m => (i, .fin, s, m)
  | n + 1, i, k, s, m => hRun w n (i + 1) (hStep w m k s).1 (hStep w m k s).2.1 (hStep w m k s).2.2
noncomputable abbrev enF : Func := Try.f62
abbrev enId : FuncId := 62
abbrev enA (most : Int) : List Value := [.pointer (some ⟨0, 0, none⟩), .pointer (some ⟨1, 0, none⟩), .int .i64 most]
def enHp (w : Int) (k : Hk) (s : Int) (m : Mm) : Hp := ⟨[(0, .cells (hpr w k s) hlT), (1, .cells (m.cells 2) memT), (2, .ints .u64 m.w u64T)], 3, []⟩
def enFr (w : Int) (k : Hk) (s : Int) (m : Mm) (i : Int) (ds : List Dec) : Fr := mkFr 20 [(0, .pointer (some ⟨0, 0, none⟩)), (1, .pointer (some ⟨1, 0, none⟩)), (2, .int .i64 20), (8, .int .i64 20), (9, .int .i64 i)] (enHp w k s m).blks 3 [0, 1, 2] ds
def enG (w : Int) (k : Hk) (s : Int) (m : Mm) : Fr := mkFr 20 [(0, .pointer (some ⟨0, 0, none⟩)), (1, .pointer (some ⟨1, 0, none⟩)), (2, .int .i64 20), (8, .int .i64 20), (9, .int .i64 0)] (enHp w k s m).blks 3 [] []
def enE (w : Int) (k : Hk) (s : Int) (m : Mm) (v : Int) : Fr := mkFr 20 [(6, .int .i64 v)] (enHp w k s m).blks 3 [0, 1, 2] []
abbrev enL : List Nat := [1, 0, 1, 0, 0]
open Dec in
section
variable (w s : Int) (k : Hk) (m : Mm) (i : Nat) (v : Int)
theorem en_in : execR E40 12 .normal [.code (bd enF [])] [0, 1, 2] [0, 1, 2, 8, 9] 3 [] ⟨enA 20 ++ List.replicate 17 undef, enHp w k s m, [], []⟩ = some (.normal, [.code (.loop (bd enF enL)), .blk 0, .code (bd enF [1, 1])], enG w k s m, []) := by cases k <;> kernel_rfl
theorem en_num : run E40 12 (bd enF enL) [0, 1, 2] [0, 1, 2, 8, 9] 3 [] (enFr w .num s m (i : Int) (t :: List.replicate 6 Dec.l)) = some (.normal, enFr w .look s (hNum w m) (w64 ((i : Int) + 1)) [], [decide ((i : Int) < 20) = true, m.ok]) := by kernel_rfl
theorem en_lkt : run E40 12 (bd enF enL) [0, 1, 2] [0, 1, 2, 8, 9] 3 [] (enFr w .look s m (i : Int) [t, Dec.l, Dec.l, t]) = some (.normal, enFr w .lay (lookV w m) (hLook w m) (w64 ((i : Int) + 1)) [], [decide ((i : Int) < 20) = true, m.ok, (stB (lookV w m) == 3) = true]) := by kernel_rfl
theorem en_lkf : run E40 12 (bd enF enL) [0, 1, 2] [0, 1, 2, 8, 9] 3 [] (enFr w .look s m (i : Int) [t, Dec.l, Dec.l, f]) = some (.normal, enFr w .set (lookV w m) (hLook w m) (w64 ((i : Int) + 1)) [], [decide ((i : Int) < 20) = true, m.ok, (stB (lookV w m) == 3) = false]) := by kernel_rfl
theorem en_lyt : run E40 12 (bd enF enL) [0, 1, 2] [0, 1, 2, 8, 9] 3 [] (enFr w .lay s m (i : Int) [t, Dec.l, Dec.l, t]) = some (.normal, enFr w .set s (hLay w s m) (w64 ((i : Int) + 1)) [], [decide ((i : Int) < 20) = true, m.ok, dnS m 4 (pendB w) s = true]) := by kernel_rfl
theorem en_lyf : run E40 12 (bd enF enL) [0, 1, 2] [0, 1, 2, 8, 9] 3 [] (enFr w .lay s m (i : Int) [t, Dec.l, Dec.l, f]) = some (.normal, enFr w .look s (hLay w s m) (w64 ((i : Int) + 1)) [], [decide ((i : Int) < 20) = true, m.ok, dnS m 4 (pendB w) s = false]) := by kernel_rfl
theorem en_set : run E40 12 (bd enF enL) [0, 1, 2] [0, 1, 2, 8, 9] 3 [] (enFr w .set s m (i : Int) (t :: List.replicate 6 Dec.l)) = some (.normal, enFr w .fin s (hSet w m) (w64 ((i : Int) + 1)) [], [decide ((i : Int) < 20) = true, m.ok]) := by kernel_rfl
theorem en_fin : run E40 12 (bd enF enL) [0, 1, 2] [6] 3 [] (enFr w .fin s m (i : Int) [t, Dec.l]) = some (.ret, enE w .fin s m (i : Int), [decide ((i : Int) < 20) = true]) := by kernel_rfl
theorem en_end : run E40 12 (bd enF enL) [0, 1, 2] [2] 3 [] (enFr w k s m (i : Int) [f]) = some (.exit 0, mkFr 20 [(2, .int .i64 20)] (enHp w k s m).blks 3 [0, 1, 2] [], [decide ((i : Int) < 20) = false]) := by cases k <;> kernel_rfl
theorem en_out : execR E40 12 (.exit 0) [.blk 0, .code (bd enF [1, 1])] [0, 1, 2] [6] 3 [] (mkFr 20 [(2, .int .i64 20)] (enHp w k s m).blks 3 [0, 1, 2] []) = some (.ret, [], enE w k s m 20, []) := by cases k <;> kernel_rfl
theorem en_ret : execR E40 12 .ret [.blk 0, .code (bd enF [1, 1])] [0, 1, 2] [6] 3 [] (enE w k s m v) = some (.ret, [], enE w k s m v, []) := by cases k <;> kernel_rfl
end
open Dec in
theorem en_C {w s s' : Int} {k : Hk} {m m' : Mm} {n : Nat} (hok : m.ok) (hR : hRun w 20 0 k s m = (n, .fin, s', m')) : CallC Try.prog enId (enA 20) (enHp w k s m) (.int .i64 n) (enHp w .fin s' m') := by
  refine CallC.of_body (E := E40) (ds := []) (fn := enF) 17 (by kernel_rfl) (by kernel_rfl) (by kernel_rfl) (by kernel_rfl) ?_
  refine KC.of_exec E40ok (en_in w s k m) (pcs_of trivial) (Nat.le_refl _) z3 ?_
  have ha : KC E40 3 .normal [.code (.loop (bd enF enL)), .blk 0, .code (bd enF [1, 1])] (enFr w k s m ((0 : Nat) : Int) []) (Ev.Ends E40 enF 3 (.int .i64 n) (enHp w .fin s' m')) := by
    refine KC.loop (m0 := 3) (ι := Nat × Hk × Int × Mm) (fun x => enFr w x.2.1 x.2.2.1 x.2.2.2 (x.1 : Int) []) (fun x => x.1 ≤ 20 ∧ x.2.2.2.ok ∧ hRun w (20 - x.1) x.1 x.2.1 x.2.2.1 x.2.2.2 = (n, .fin, s', m')) (fun x => 20 - x.1)
      (fun ex fr => (ex = .exit 0 ∧ n = 20 ∧ fr = mkFr 20 [(2, .int .i64 20)] (enHp w .fin s' m').blks 3 [0, 1, 2] []) ∨ (ex = .ret ∧ fr = enE w .fin s' m' n)) (fun x hx => ?_) ?_ (0, k, s, m) ⟨by omega, hok, hR⟩
    · obtain ⟨i, k, s, m⟩ := x
      obtain ⟨hi, ho, he⟩ := hx
      simp only at hi ho he ⊢
      by_cases hlt : i < 20
      · have hd : decide ((i : Int) < 20) = true := decide_eq_true (by omega)
        obtain ⟨j, hj⟩ : ∃ j, 20 - i = j + 1 := ⟨20 - i - 1, by omega⟩
        rw [hj] at he
        have nx : ∀ k' s1 m1, m1.ok → hRun w j (i + 1) k' s1 m1 = (n, .fin, s', m') → ∃ x : Nat × Hk × Int × Mm, enFr w k' s1 m1 (w64 ((i : Int) + 1)) [] = enFr w x.2.1 x.2.2.1 x.2.2.2 (x.1 : Int) [] ∧ (x.1 ≤ 20 ∧ x.2.2.2.ok ∧ hRun w (20 - x.1) x.1 x.2.1 x.2.2.1 x.2.2.2 = (n, .fin, s', m')) ∧ 20 - x.1 < 20 - i := fun k' s1 m1 h1 h2 =>
          ⟨(i + 1, k', s1, m1), by rw [w64_succ i (by omega)], ⟨by simp only; omega, h1, by
            simp only
            rw [show 20 - (i + 1) = j by omega]
            exact h2⟩, by simp only; omega⟩
        cases k with
        | num =>
          have he' : hRun w j (i + 1) .look s (hNum w m) = (n, .fin, s', m') := he
          exact CodeC.of_run (fr := enFr w .num s m (i : Int) (t :: List.replicate 6 Dec.l)) E40ok (en_num w s m i) (pcs_of ⟨hd, ho, trivial⟩) (Nat.le_refl _) z3 (.inl ⟨rfl, nx _ _ _ (acc_ok ho (swpW_len _ _ _ _)) he'⟩)
        | look =>
          have he' : hRun w j (i + 1) (if stB (lookV w m) = 3 then .lay else .set) (lookV w m) (hLook w m) = (n, .fin, s', m') := he
          by_cases h3 : stB (lookV w m) = 3
          · rw [if_pos h3] at he'
            exact CodeC.of_run (fr := enFr w .look s m (i : Int) [t, Dec.l, Dec.l, t]) E40ok (en_lkt w s m i) (pcs_of ⟨hd, ho, beq_iff_eq.2 h3, trivial⟩) (Nat.le_refl _) z3 (.inl ⟨rfl, nx _ _ _ (acc_ok ho rfl) he'⟩)
          · rw [if_neg h3] at he'
            exact CodeC.of_run (fr := enFr w .look s m (i : Int) [t, Dec.l, Dec.l, f]) E40ok (en_lkf w s m i) (pcs_of ⟨hd, ho, beq_eq_false_iff_ne.2 h3, trivial⟩) (Nat.le_refl _) z3 (.inl ⟨rfl, nx _ _ _ (acc_ok ho rfl) he'⟩)
        | lay =>
          have he' : hRun w j (i + 1) (if dnS m 4 (pendB w) s = true then .set else .look) s (hLay w s m) = (n, .fin, s', m') := he
          cases h3 : dnS m 4 (pendB w) s
          · rw [if_neg (by rw [h3]; simp)] at he'
            exact CodeC.of_run (fr := enFr w .lay s m (i : Int) [t, Dec.l, Dec.l, f]) E40ok (en_lyf w s m i) (pcs_of ⟨hd, ho, h3, trivial⟩) (Nat.le_refl _) z3 (.inl ⟨rfl, nx _ _ _ (acc_ok ho (swpW_len _ _ _ _)) he'⟩)
          · rw [if_pos h3] at he'
            exact CodeC.of_run (fr := enFr w .lay s m (i : Int) [t, Dec.l, Dec.l, t]) E40ok (en_lyt w s m i) (pcs_of ⟨hd, ho, h3, trivial⟩) (Nat.le_refl _) z3 (.inl ⟨rfl, nx _ _ _ (acc_ok ho (swpW_len _ _ _ _)) he'⟩)
        | set =>
          have he' : hRun w j (i + 1) .fin s (hSet w m) = (n, .fin, s', m') := he
          exact CodeC.of_run (fr := enFr w .set s m (i : Int) (t :: List.replicate 6 Dec.l)) E40ok (en_set w s m i) (pcs_of ⟨hd, ho, trivial⟩) (Nat.le_refl _) z3 (.inl ⟨rfl, nx _ _ _ (acc_ok ho (swpW_len _ _ _ _)) he'⟩)
        | fin =>
          have he' : (i, Hk.fin, s, m) = (n, .fin, s', m') := he
          simp only [Prod.mk.injEq, true_and] at he'
          obtain ⟨rfl, rfl, rfl⟩ := he'
          exact CodeC.of_run (fr := enFr w .fin s m (i : Int) [t, Dec.l]) E40ok (en_fin w s m i) (pcs_of ⟨hd, trivial⟩) (Nat.le_refl _) z3 (.inr ⟨by simp, .inr ⟨rfl, rfl⟩⟩)
      · have e : i = 20 := by omega
        subst e
        have he' : (20, k, s, m) = (n, Hk.fin, s', m') := he
        simp only [Prod.mk.injEq] at he'
        obtain ⟨rfl, rfl, rfl, rfl⟩ := he'
        exact CodeC.of_run (fr := enFr w .fin s m ((20 : Nat) : Int) [f]) E40ok (en_end w s .fin m 20) (pcs_of ⟨by decide, trivial⟩) (Nat.le_refl _) z3 (.inr ⟨by simp, .inl ⟨rfl, rfl, rfl⟩⟩)
    · rintro ex fr (⟨rfl, rfl, rfl⟩ | ⟨rfl, rfl⟩)
      · exact KC.of_exec E40ok (en_out w s' .fin m') (pcs_of trivial) (Nat.le_refl _) z3 (KC.done ⟨by simp, [.int .i64 20], [], [0, 1, 2], 0, by kernel_rfl, by simp, by kernel_rfl, rfl, z3⟩)
      · exact KC.of_exec E40ok (en_ret w s' .fin m' n) (pcs_of trivial) (Nat.le_refl _) z3 (KC.done ⟨by simp, [.int .i64 n], [], [0, 1, 2], 0, by kernel_rfl, by simp, by kernel_rfl, rfl, z3⟩)
  cases k <;> exact KC.alias [0, 1, 2] ha (by kernel_rfl) (by kernel_rfl) (by kernel_rfl) ⟨rfl, rfl, rfl, trivial⟩ (by kernel_rfl) z3
def hkOf : Value → Option Hk
  | .nilFunc => some .fin
  | .func (.func f) ⟨[]⟩ ⟨[]⟩ => bif Nat.beq f 92 then some .num else bif Nat.beq f 103 then some .look else bif Nat.beq f 107 then some .lay else bif Nat.beq f 105 then some .set else none
  | _ => none
theorem hkOf_some {v : Value} {k : Hk} (h : hkOf v = some k) : v = k.fv := by
  unfold hkOf at h
  split at h
  · obtain rfl := Option.some.inj h; rfl
  · rename_i f
    cases h1 : Nat.beq f 92
    · cases h2 : Nat.beq f 103
      · cases h3 : Nat.beq f 107
        · cases h4 : Nat.beq f 105
          · simp [h1, h2, h3, h4] at h
          · simp only [h1, h2, h3, h4, cond_false, cond_true, Option.some.injEq] at h
            subst h; rw [beq_nat h4]; rfl
        · simp only [h1, h2, h3, cond_false, cond_true, Option.some.injEq] at h
          subst h; rw [beq_nat h3]; rfl
      · simp only [h1, h2, cond_false, cond_true, Option.some.injEq] at h
        subst h; rw [beq_nat h2]; rfl
    · simp only [h1, cond_true, Option.some.injEq] at h
      subst h; rw [beq_nat h1]; rfl
  · cases h
def hOf (hp : Hp) (n : Nat) : Option (Int × Hk × Int × Int × Int) :=
  match hp.get n with
  | some (.cells [v, .int .u64 w, .int .u64 s, .int .u64 sq, .int .i64 p] ty) => bif Nat.beq ty hlT then match hkOf v with
      | some k => some (w, k, s, sq, p)
      | none => none
    else none
  | _ => none
theorem hOf_some {hp : Hp} {n : Nat} {w s sq p : Int} {k : Hk} (h : hOf hp n = some (w, k, s, sq, p)) : hp.get n = some (.cells [k.fv, .int .u64 w, .int .u64 s, .int .u64 sq, .int .i64 p] hlT) := by
  unfold hOf at h
  split at h
  · rename_i v w' s' sq' p' ty hg
    cases hty : Nat.beq ty hlT
    · simp [hty] at h
    · simp only [hty, cond_true] at h
      split at h
      · rename_i k' hk
        simp only [Option.some.injEq, Prod.mk.injEq] at h
        obtain ⟨rfl, rfl, rfl, rfl, rfl⟩ := h
        have e := beq_nat hty
        subst e
        rw [hg, hkOf_some hk]
      · cases h
  · cases h
def gEn (args : List Value) (hp : Hp) : Option (Value × Hp × List Prop) :=
  match args with
  | [.pointer (some ⟨hk, 0, none⟩), .pointer (some ⟨mk, 0, none⟩), .int .i64 20] => match hOf hp hk, memOf hp mk with
    | some (w, k, s, sq, p), some (wn, m) => bif nodupB [hk, mk, wn] then
        some (.int .i64 (hRun w 20 0 k s m).1, ⟨(hk, .cells (hpr w .fin (hRun w 20 0 k s m).2.2.1) hlT) :: (mk, .cells ((hRun w 20 0 k s m).2.2.2.cells wn) memT) :: (wn, .ints .u64 (hRun w 20 0 k s m).2.2.2.w u64T) :: delB [hk, mk, wn] hp.blks, hp.next, hk :: mk :: wn :: hp.log⟩, [m.ok ∧ sq = seqB w ∧ p = pendB w ∧ (hRun w 20 0 k s m).2.1 = .fin])
      else none
    | _, _ => none
  | _ => none
theorem gEn_ok : ∀ args hp v hp' pc, gEn args hp = some (v, hp', pc) → ∀ ds, CallOk Try.prog enId args hp ⟨v, hp', ds, pc⟩ := by
  intro args hp v hp' pc hg ds
  unfold gEn at hg
  split at hg
  · rename_i hk mk
    split at hg
    · rename_i w k s sq p wn m hh hm
      cases hnd : nodupB [hk, mk, wn]
      · simp [hnd] at hg
      simp only [hnd, cond_true, Option.some.injEq, Prod.mk.injEq] at hg
      obtain ⟨rfl, rfl, rfl⟩ := hg
      obtain ⟨h1, h2, h3⟩ := memOf_some hm
      have h0 := hOf_some hh
      have hent : Enters Try.prog enId := enters (fn := enF) (by kernel_rfl) (by kernel_rfl) rfl
      by_cases hc : m.ok ∧ sq = seqB w ∧ p = pendB w ∧ (hRun w 20 0 k s m).2.1 = .fin
      · obtain ⟨c1, rfl, rfl, c4⟩ := id hc
        have hR : hRun w 20 0 k s m = ((hRun w 20 0 k s m).1, .fin, (hRun w 20 0 k s m).2.2.1, (hRun w 20 0 k s m).2.2.2) := by rw [← c4]
        have hC := en_C c1 hR
        generalize hRun w 20 0 k s m = R at *
        have hk1 : allLt 3 (tellers (enA 20) (enHp w k s m)) = true := by cases k <;> simp [tellers, nmL, nm, nmA, enHp, hpr, Hk.fv, tellers.tellB, allLt, Blk.nm, Mm.cells, Cfg.cells, Tc.cells, Nat.blt]
        have hk2 : allHas (tellers (enA 20) (enHp w k s m)) (upTo 3) = true := by cases k <;> simp [tellers, nmL, nm, nmA, enHp, hpr, Hk.fv, tellers.tellB, allHas, has, upTo, Blk.nm, Mm.cells, Cfg.cells, Tc.cells, Nat.beq]
        have hblk : (Blk.cells (hpr w k s) hlT).rn (ext [hk, mk, wn] 3 hp.next) = .cells (hpr w k s) hlT := by cases k <;> rfl
        exact CallC.lift hent (pc := [m.ok ∧ seqB w = seqB w ∧ pendB w = pendB w ∧ R.2.1 = .fin]) (fun _ => hC) [hk, mk, wn] [0, 1, 2] (Nat.le_refl _) rfl hk1 hk2 hnd rfl
          ⟨.inl (by simp), .inl (by simp), .inl (by simp), trivial⟩ (hp := hp) (args := [.pointer (some ⟨hk, 0, none⟩), .pointer (some ⟨mk, 0, none⟩), .int .i64 20]) rfl ⟨show hp.get hk = some (Blk.rn (ext [hk, mk, wn] 3 hp.next) (Blk.cells (hpr w k s) hlT)) from by rw [hblk]; exact h0, h1, h2, trivial⟩ ds
      · refine ⟨⟨Nat.le_refl _, fun m _ hm => List.mem_cons_of_mem _ (List.mem_cons_of_mem _ (List.mem_cons_of_mem _ hm)), fun n _ hl => ?_⟩, hent, fun hpc => absurd (hd1 hpc) hc⟩
        show lookB n _ = lookB n _
        have nb : ∀ a : Nat, n ≠ a → Nat.beq a n = false := fun a ha => by
          cases e : Nat.beq a n
          · rfl
          · exact absurd (beq_nat e).symm ha
        have n1 := nb hk fun e => hl (e ▸ List.mem_cons_self)
        have n2 := nb mk fun e => hl (e ▸ List.mem_cons_of_mem _ List.mem_cons_self)
        have n3 := nb wn fun e => hl (e ▸ List.mem_cons_of_mem _ (List.mem_cons_of_mem _ List.mem_cons_self))
        simp only [lookB, n1, n2, n3, cond_false, lookB_del, has]
        rfl
    · cases hg
  · cases hg
noncomputable def E32 : Env := E40.add enId gEn
theorem E32ok : EnvOk E32 := E40ok.add gEn_ok
end Go.Proofs.Ytcpkieahnkfpoaa.Ct.N20
