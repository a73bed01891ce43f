/- A join that goes on to its end; the laying of one's own end, and the document's. -/
import Derived.Test.YtmliekdbhefpkaaCtJoin
namespace Go.Proofs.Ytmliekdbhefpkaa.Ct
open Go Go.Proofs Go.Proofs.Ytmliekdbhefpkaa.Ev
open Go.RowKit

/-- The number that a call was handed at its end. -/
def numOf : List Value → Nat
  | [.int .i64 n] => n.toNat
  | _ => 0
noncomputable def E48 : Env := (E47.add jStepF gJ).add jDocF gJd
theorem E48ok : EnvOk E48 := (E47ok.add gJ_ok).add gJd_ok
/-! One's own end -/
structure On where
  sl : Int
  sd : Int
  by' : Int
  s : Int
  lk : Bool
  dn : Bool
def On.cells (_ : Nat) (o : On) : List Value := [.int .i64 o.sl, .int .i64 o.sd, .int .i64 o.by', .int .u64 o.s, .bool o.lk, .bool o.dn]
def On.dcells (o : On) : List Value := [.int .i64 o.sl, .int .i64 o.sd, .int .i64 o.by', .bool o.lk, .int .u64 o.s, .bool o.dn]
def onL (_ : Nat) : List Value → Option On
  | [.int .i64 a, .int .i64 b, .int .i64 c, .int .u64 d, .bool e, .bool f] => some ⟨a, b, c, d, e, f⟩
  | _ => none
def onD : List Value → Option On
  | [.int .i64 a, .int .i64 b, .int .i64 c, .bool e, .int .u64 d, .bool f] => some ⟨a, b, c, d, e, f⟩
  | _ => none
def oO : Obj On := ⟨158, On.cells, onL⟩
theorem oO_ok : oO.Ok := by
  refine ⟨fun n l s h => ?_, .inl fun s => rfl, fun s σ => rfl⟩
  have h' : onL n l = some s := h
  unfold onL at h'
  split at h'
  · obtain rfl := Option.some.inj h'; rfl
  · cases h'
theorem onD_some (l : List Value) (o : On) (h : onD l = some o) : l = o.dcells := by
  unfold onD at h
  split at h
  · obtain rfl := Option.some.inj h; rfl
  · cases h
def oVal (o : On) (m : Mm) : Int := getW m.w (cellIx m.c 4 o.sl)
def oSt (o : On) (m : Mm) : On :=
  if o.dn = true then o
  else if o.lk = true then ⟨o.sl, o.sd, o.by', o.s, false, dnS m 4 o.sl o.s⟩
  else ⟨o.sl, o.sd, o.by', oVal o m, true, withI (oVal o m) o.sd o.by' == oVal o m⟩
def oMe (o : On) (m : Mm) : Mm :=
  if o.dn = true then m
  else if o.lk = true then mSw m 4 o.sl o.s (withI o.s o.sd o.by')
  else mLd m 4 o.sl
def oGood (o : On) (m : Mm) : Prop := m.ok ∧ WfW m.w ∧ Wd o.s
abbrev oStepF : FuncId := 35
abbrev oDocF : FuncId := 45
open Dec in
section
variable (sl sd by' s : Int) (lk : Bool) (m : Mm)
theorem ow_d : callR E48 12 oStepF (objA []) (objHp oO ⟨sl, sd, by', s, lk, true⟩ m) [Dec.l] [0, 1, 2] = some (.tuple ⟨[]⟩, objHp oO ⟨sl, sd, by', s, lk, true⟩ m, []) := by kernel_rfl
theorem ow_l : callR E48 12 oStepF (objA []) (objHp oO ⟨sl, sd, by', s, true, false⟩ m) [Dec.l, Dec.l] [0, 1, 2] = some (.tuple ⟨[]⟩, objHp oO ⟨sl, sd, by', s, false, dnS m 4 sl s⟩ (mSw m 4 sl s (withI s sd by')), [Wd s, m.ok]) := by kernel_rfl
theorem ow_k : callR E48 12 oStepF (objA []) (objHp oO ⟨sl, sd, by', s, false, false⟩ m) [Dec.l, Dec.l] [0, 1, 2] = some (.tuple ⟨[]⟩, objHp oO ⟨sl, sd, by', getW m.w (cellIx m.c 4 sl), true, withI (getW m.w (cellIx m.c 4 sl)) sd by' == getW m.w (cellIx m.c 4 sl)⟩ (mLd m 4 sl), [m.ok, Wd (getW m.w (cellIx m.c 4 sl))]) := by kernel_rfl
theorem og_d : callR E48 12 oDocF (docA On.dcells ⟨sl, sd, by', s, lk, true⟩ m) (rHp m) [Dec.l] [0, 1] = some (docV (On.dcells ⟨sl, sd, by', s, lk, true⟩) m 0 1, rHp m, []) := by kernel_rfl
theorem og_l : callR E48 12 oDocF (docA On.dcells ⟨sl, sd, by', s, true, false⟩ m) (rHp m) [Dec.l, Dec.l] [0, 1, 6, 7] = some (docV (On.dcells ⟨sl, sd, by', s, false, dnS m 4 sl s⟩) (mSw m 4 sl s (withI s sd by')) 2 3, rVw' m (mSw m 4 sl s (withI s sd by')).w, [Wd s, m.ok ∧ m.c.Right]) := by kernel_rfl
theorem og_k : callR E48 12 oDocF (docA On.dcells ⟨sl, sd, by', s, false, false⟩ m) (rHp m) [Dec.l, Dec.l] [0, 1, 6, 7] = some (docV (On.dcells ⟨sl, sd, by', getW m.w (cellIx m.c 4 sl), true, withI (getW m.w (cellIx m.c 4 sl)) sd by' == getW m.w (cellIx m.c 4 sl)⟩) (mLd m 4 sl) 2 3, rVw' m m.w, [m.ok ∧ m.c.Right, Wd (getW m.w (cellIx m.c 4 sl))]) := by kernel_rfl
end
theorem oStep_C (o : On) (m : Mm) (h : oGood o m) : CallC Try.prog oStepF (objA []) (objHp oO o m) (.tuple ⟨[]⟩) (objHp oO (oSt o m) (oMe o m)) := by
  obtain ⟨sl, sd, by', s, lk, dn⟩ := o
  obtain ⟨ho, hw, hs⟩ := h
  have hv : Wd (getW m.w (cellIx m.c 4 sl)) := hw.getW _
  cases dn
  · cases lk
    · exact CallC.of_call E48ok (ow_k sl sd by' s m) (pcs_of ⟨ho, hv, trivial⟩) rfl z3
    · exact CallC.of_call E48ok (ow_l sl sd by' s m) (pcs_of ⟨hs, ho, trivial⟩) rfl z3
  · exact CallC.of_call E48ok (ow_d sl sd by' s lk m) (pcs_of trivial) rfl z3
theorem oDoc_C (o : On) (m : Mm) (h : oGood o m ∧ m.c.Right) : CallC Try.prog oDocF (docA On.dcells o m) (rHp m) (docV (On.dcells (oSt o m)) (oMe o m) 2 3) (rOut m (oMe o m)) := by
  obtain ⟨sl, sd, by', s, lk, dn⟩ := o
  obtain ⟨⟨ho, hw, hs⟩, hri⟩ := h
  have hv : Wd (getW m.w (cellIx m.c 4 sl)) := hw.getW _
  cases dn
  · cases lk
    · exact r_vw' (V := docV _ _) (docV_rn rfl _) (docV_nm rfl _) (CallC.of_call E48ok (og_k sl sd by' s m) (pcs_of ⟨⟨ho, hri⟩, hv, trivial⟩) rfl z2L)
    · exact r_vw' (V := docV _ _) (docV_rn rfl _) (docV_nm rfl _) (CallC.of_call E48ok (og_l sl sd by' s m) (pcs_of ⟨hs, ⟨ho, hri⟩, trivial⟩) rfl z2L)
  · exact r_same (V := docV _ m) rfl (docV_rn rfl m) (docV_nm rfl m) (CallC.of_call E48ok (og_d sl sd by' s lk m) (pcs_of trivial) rfl z2L)
theorem oMe_ok {o : On} {m : Mm} (h : oGood o m) : (oMe o m).ok ∧ (oMe o m).c = m.c ∧ WfW (oMe o m).w := by
  obtain ⟨ho, hw, hs⟩ := h
  unfold oMe
  split
  · exact ⟨ho, rfl, hw⟩
  · split
    · exact ⟨acc_ok ho (swpW_len _ _ _ _), rfl, hw.swpW _ _ (withI_rng hs _ _)⟩
    · exact ⟨acc_ok ho rfl, rfl, hw⟩
theorem oSt_s {o : On} {m : Mm} (h : oGood o m) : Wd (oSt o m).s := by
  obtain ⟨ho, hw, hs⟩ := h
  have hv : Wd (oVal o m) := hw.getW _
  unfold oSt
  split
  · exact hs
  · split
    · exact hs
    · exact hv
theorem oStep_good {o : On} {m : Mm} (h : oGood o m) : oGood (oSt o m) (oMe o m) := ⟨(oMe_ok h).1, (oMe_ok h).2.2, oSt_s h⟩
abbrev gO : List Value → Hp → Option (Value × Hp × List Prop) := gObj oO (fun _ _ _ => .tuple ⟨[]⟩) (fun j m _ => oSt j m) (fun j m _ => oMe j m) (fun j m rest => rest = [] ∧ oGood j m)
theorem gO_ok : ∀ args hp v hp' pc, gO args hp = some (v, hp', pc) → ∀ ds, CallOk Try.prog oStepF args hp ⟨v, hp', ds, pc⟩ :=
  gObj_ok oO_ok (enters (fn := Try.f35) (by kernel_rfl) (by kernel_rfl) rfl) (fun _ _ _ => rfl) fun j m rest h => by
    obtain ⟨rfl, h⟩ := h
    exact oStep_C j m h
abbrev gOd : List Value → Hp → Option (Value × Hp × List Prop) := gDoc onD On.dcells oSt oMe (fun o m => oGood o m ∧ m.c.Right)
theorem gOd_ok : ∀ args hp v hp' pc, gOd args hp = some (v, hp', pc) → ∀ ds, CallOk Try.prog oDocF args hp ⟨v, hp', ds, pc⟩ :=
  gDoc_ok onD_some (fun _ => rfl) (enters (fn := Try.f45) (by kernel_rfl) (by kernel_rfl) rfl) oDoc_C
noncomputable def E49 : Env := (E48.add oStepF gO).add oDocF gOd
theorem E49ok : EnvOk E49 := (E48ok.add gO_ok).add gOd_ok
/-! On to the end -/

/-- On to the end: how many steps, and what is left. -/
def jrRun : Nat → Nat → Jn → Mm → Nat × Jn × Mm
  | 0, i, j, m => (i, j, m)
  | n + 1, i, j, m => if (j.r != 0) = true then (i, j, m) else jrRun n (i + 1) (jSt j m) (jMe j m)
noncomputable abbrev jrF : Func := Try.f31
abbrev jrId : FuncId := 31
def jrFr (j : Jn) (m : Mm) (N i : Int) (ds : List Dec) : Fr := mkFr 29 [(0, pt0), (1, .pointer (some ⟨1, 0, none⟩)), (2, .int .i64 N), (12, .int .i64 N), (13, .int .i64 i)] (objHp jO j m).blks 3 [0, 1, 2] ds
def jrG (j : Jn) (m : Mm) (N : Int) : Fr := mkFr 29 [(0, pt0), (1, .pointer (some ⟨1, 0, none⟩)), (2, .int .i64 N), (12, .int .i64 N), (13, .int .i64 0)] (objHp jO j m).blks 3 [] []
def jrE (j : Jn) (m : Mm) (i : Int) (ds : List Dec) : Fr := mkFr 29 [(6, .int .i64 j.r), (7, .int .i64 i)] (objHp jO j m).blks 3 [0, 1, 2] ds
def jrX (j : Jn) (m : Mm) (N : Int) (ds : List Dec) : Fr := mkFr 29 [(0, pt0), (1, .pointer (some ⟨1, 0, none⟩)), (2, .int .i64 N)] (objHp jO j m).blks 3 [0, 1, 2] ds
abbrev jrL : List Nat := [1, 1, 0, 1, 0, 0]
open Dec in
section
variable (j : Jn) (m : Mm) (N i : Nat)
theorem jr_in : execR E49 12 .normal [.code (bd jrF [])] [0, 1, 2] [0, 1, 2, 12, 13] 3 [] ⟨objA [.int .i64 N] ++ List.replicate 26 undef, objHp jO j m, [Dec.l], []⟩ = some (.normal, [.code (.loop (bd jrF jrL)), .blk 0, .code (bd jrF [1, 1, 1])], jrG j m N, []) := by kernel_rfl
theorem jr_go : run E49 12 (bd jrF jrL) [0, 1, 2] [0, 1, 2, 12, 13] 3 [] (jrFr j m N (i : Int) [t, f]) = some (.normal, jrFr (jSt j m) (jMe j m) N (w64 ((i : Int) + 1)) [], [decide ((i : Int) < (N : Int)) = true, (j.r != 0) = false, ([] : List Value) = [] ∧ jGood j m]) := by kernel_rfl
theorem jr_dn : run E49 12 (bd jrF jrL) [0, 1, 2] [6, 7] 3 [] (jrFr j m N (i : Int) [t, t]) = some (.ret, jrE j m (i : Int) [], [decide ((i : Int) < (N : Int)) = true, (j.r != 0) = true]) := by kernel_rfl
theorem jr_end : run E49 12 (bd jrF jrL) [0, 1, 2] [0, 1, 2] 3 [] (jrFr j m N (i : Int) [f]) = some (.exit 0, jrX j m N [], [decide ((i : Int) < (N : Int)) = false]) := by kernel_rfl
theorem jr_out : execR E49 12 (.exit 0) [.blk 0, .code (bd jrF [1, 1, 1])] [0, 1, 2] [6, 7] 3 [] (jrX j m N []) = some (.ret, [], jrE j m N [], []) := by kernel_rfl
theorem jr_ret (v : Int) : execR E49 12 .ret [.blk 0, .code (bd jrF [1, 1, 1])] [0, 1, 2] [6, 7] 3 [] (jrE j m v []) = some (.ret, [], jrE j m v [], []) := by kernel_rfl
end
theorem jrRun_good : ∀ (n i : Nat) (j : Jn) (m : Mm), jGood j m → jGood (jrRun n i j m).2.1 (jrRun n i j m).2.2
  | 0, _, _, _, h => h
  | n + 1, i, j, m, h => by
    unfold jrRun
    split
    · exact h
    · exact jrRun_good n (i + 1) _ _ (jStep_good h)
open Dec in
theorem jr_C {j j' : Jn} {m m' : Mm} {N n : Nat} (hN : N ≤ 1000) (hg : jGood j m) (hR : jrRun N 0 j m = (n, j', m')) : CallC Try.prog jrId (objA [.int .i64 N]) (objHp jO j m) (.tuple ⟨[.int .i64 j'.r, .int .i64 n]⟩) (objHp jO j' m') := by
  refine CallC.of_body (E := E49) (ds := []) (fn := jrF) 26 (by kernel_rfl) (by kernel_rfl) (by kernel_rfl) (by kernel_rfl) ?_
  refine KC.of_exec (fr := ⟨objA [.int .i64 N] ++ List.replicate 26 undef, objHp jO j m, [Dec.l], []⟩) E49ok (jr_in j m N) (pcs_of trivial) (Nat.le_refl _) z3 ?_
  have ha : KC E49 3 .normal [.code (.loop (bd jrF jrL)), .blk 0, .code (bd jrF [1, 1, 1])] (jrFr j m N ((0 : Nat) : Int) []) (Ev.Ends E49 jrF 3 (.tuple ⟨[.int .i64 j'.r, .int .i64 n]⟩) (objHp jO j' m')) := by
    refine KC.loop (m0 := 3) (ι := Nat × Jn × Mm) (fun x => jrFr x.2.1 x.2.2 N (x.1 : Int) []) (fun x => x.1 ≤ N ∧ jGood x.2.1 x.2.2 ∧ jrRun (N - x.1) x.1 x.2.1 x.2.2 = (n, j', m')) (fun x => N - x.1)
      (fun ex fr => (ex = .exit 0 ∧ n = N ∧ fr = jrX j' m' N []) ∨ (ex = .ret ∧ fr = jrE j' m' n [])) (fun x hx => ?_) ?_ (0, j, m) ⟨Nat.zero_le _, hg, hR⟩
    · obtain ⟨i, j, m⟩ := x
      obtain ⟨hi, ho, he⟩ := hx
      simp only at hi ho he ⊢
      by_cases hlt : i < N
      · have hd : decide ((i : Int) < (N : Int)) = true := decide_eq_true (by omega)
        obtain ⟨k, hk⟩ : ∃ k, N - i = k + 1 := ⟨N - i - 1, by omega⟩
        rw [hk] at he
        unfold jrRun at he
        by_cases hr : (j.r != 0) = true
        · rw [if_pos hr] at he
          simp only [Prod.mk.injEq] at he
          obtain ⟨rfl, rfl, rfl⟩ := he
          exact CodeC.of_run (fr := jrFr j m N (i : Int) [t, t]) E49ok (jr_dn j m N i) (pcs_of ⟨hd, hr, trivial⟩) (Nat.le_refl _) z3 (.inr ⟨by simp, .inr ⟨rfl, rfl⟩⟩)
        · rw [if_neg hr] at he
          exact CodeC.of_run (fr := jrFr j m N (i : Int) [t, f]) E49ok (jr_go j m N i) (pcs_of ⟨hd, by simpa using hr, ⟨rfl, ho⟩, trivial⟩) (Nat.le_refl _) z3 (.inl ⟨rfl, (i + 1, jSt j m, jMe j m), by rw [w64_succ i (by omega)], ⟨by simp only; omega, jStep_good ho, by
            simp only
            rw [show N - (i + 1) = k by omega]
            exact he⟩, by simp only; omega⟩)
      · have e : i = N := by omega
        subst e
        rw [show i - i = 0 by omega] at he
        have he' : (i, j, m) = (n, j', m') := he
        simp only [Prod.mk.injEq] at he'
        obtain ⟨rfl, rfl, rfl⟩ := he'
        exact CodeC.of_run (fr := jrFr j m i (i : Int) [f]) E49ok (jr_end j m i i) (pcs_of ⟨decide_eq_false (by omega), trivial⟩) (Nat.le_refl _) z3 (.inr ⟨by simp, .inl ⟨rfl, rfl, rfl⟩⟩)
    · rintro ex fr (⟨rfl, rfl, rfl⟩ | ⟨rfl, rfl⟩)
      · exact KC.of_exec E49ok (jr_out j' m' n) (pcs_of trivial) (Nat.le_refl _) z3 (KC.done ⟨by simp, [.int .i64 j'.r, .int .i64 n], [], [0, 1, 2], 0, by kernel_rfl, by simp, by kernel_rfl, rfl, z3⟩)
      · exact KC.of_exec E49ok (jr_ret j' m' n) (pcs_of trivial) (Nat.le_refl _) z3 (KC.done ⟨by simp, [.int .i64 j'.r, .int .i64 n], [], [0, 1, 2], 0, by kernel_rfl, by simp, by kernel_rfl, rfl, z3⟩)
  exact KC.alias [0, 1, 2] ha (by kernel_rfl) (by kernel_rfl) (by kernel_rfl) ⟨rfl, rfl, rfl, trivial⟩ (by kernel_rfl) z3
abbrev gjr : List Value → Hp → Option (Value × Hp × List Prop) := gObj jO (fun j m rest => let R := jrRun (numOf rest) 0 j m; .tuple ⟨[.int .i64 R.2.1.r, .int .i64 R.1]⟩) (fun j m rest => (jrRun (numOf rest) 0 j m).2.1) (fun j m rest => (jrRun (numOf rest) 0 j m).2.2) (fun j m rest => rest = [.int .i64 (numOf rest)] ∧ numOf rest ≤ 1000 ∧ jGood j m)
theorem gjr_ok : ∀ args hp v hp' pc, gjr args hp = some (v, hp', pc) → ∀ ds, CallOk Try.prog jrId args hp ⟨v, hp', ds, pc⟩ :=
  gObj_ok jO_ok (enters (fn := Try.f31) (by kernel_rfl) (by kernel_rfl) rfl) (fun _ _ _ => rfl) fun j m rest h => by
    obtain ⟨h1, h2, h3⟩ := h
    have hC := jr_C (j := j) (m := m) (n := (jrRun (numOf rest) 0 j m).1) (j' := (jrRun (numOf rest) 0 j m).2.1) (m' := (jrRun (numOf rest) 0 j m).2.2) h2 h3 rfl
    rw [← h1] at hC
    exact hC


/-- On to the end: how many steps, and what is left. -/
def owRun : Nat → Nat → On → Mm → Nat × On × Mm
  | 0, i, j, m => (i, j, m)
  | n + 1, i, j, m => if j.dn = true then (i, j, m) else owRun n (i + 1) (oSt j m) (oMe j m)
noncomputable abbrev owF : Func := Try.f36
abbrev owId : FuncId := 36
def owFr (j : On) (m : Mm) (N i : Int) (ds : List Dec) : Fr := mkFr 20 [(0, pt0), (1, .pointer (some ⟨1, 0, none⟩)), (2, .int .i64 N), (8, .int .i64 N), (9, .int .i64 i)] (objHp oO j m).blks 3 [0, 1, 2] ds
def owG (j : On) (m : Mm) (N : Int) : Fr := mkFr 20 [(0, pt0), (1, .pointer (some ⟨1, 0, none⟩)), (2, .int .i64 N), (8, .int .i64 N), (9, .int .i64 0)] (objHp oO j m).blks 3 [] []
def owE (j : On) (m : Mm) (i : Int) (ds : List Dec) : Fr := mkFr 20 [(6, .int .i64 i)] (objHp oO j m).blks 3 [0, 1, 2] ds
def owX (j : On) (m : Mm) (N : Int) (ds : List Dec) : Fr := mkFr 20 [(0, pt0), (1, .pointer (some ⟨1, 0, none⟩)), (2, .int .i64 N)] (objHp oO j m).blks 3 [0, 1, 2] ds
abbrev owL : List Nat := [1, 0, 1, 0, 0]
open Dec in
section
variable (j : On) (m : Mm) (N i : Nat)
theorem ow_in : execR E49 12 .normal [.code (bd owF [])] [0, 1, 2] [0, 1, 2, 8, 9] 3 [] ⟨objA [.int .i64 N] ++ List.replicate 17 undef, objHp oO j m, [], []⟩ = some (.normal, [.code (.loop (bd owF owL)), .blk 0, .code (bd owF [1, 1])], owG j m N, []) := by kernel_rfl
theorem ow_go : run E49 12 (bd owF owL) [0, 1, 2] [0, 1, 2, 8, 9] 3 [] (owFr j m N (i : Int) [t, f]) = some (.normal, owFr (oSt j m) (oMe j m) N (w64 ((i : Int) + 1)) [], [decide ((i : Int) < (N : Int)) = true, j.dn = false, ([] : List Value) = [] ∧ oGood j m]) := by kernel_rfl
theorem ow_dn : run E49 12 (bd owF owL) [0, 1, 2] [6] 3 [] (owFr j m N (i : Int) [t, t]) = some (.ret, owE j m (i : Int) [], [decide ((i : Int) < (N : Int)) = true, j.dn = true]) := by kernel_rfl
theorem ow_end : run E49 12 (bd owF owL) [0, 1, 2] [0, 1, 2] 3 [] (owFr j m N (i : Int) [f]) = some (.exit 0, owX j m N [], [decide ((i : Int) < (N : Int)) = false]) := by kernel_rfl
theorem ow_out : execR E49 12 (.exit 0) [.blk 0, .code (bd owF [1, 1])] [0, 1, 2] [6] 3 [] (owX j m N []) = some (.ret, [], owE j m N [], []) := by kernel_rfl
theorem ow_ret (v : Int) : execR E49 12 .ret [.blk 0, .code (bd owF [1, 1])] [0, 1, 2] [6] 3 [] (owE j m v []) = some (.ret, [], owE j m v [], []) := by kernel_rfl
end
theorem owRun_good : ∀ (n i : Nat) (j : On) (m : Mm), oGood j m → oGood (owRun n i j m).2.1 (owRun n i j m).2.2
  | 0, _, _, _, h => h
  | n + 1, i, j, m, h => by
    unfold owRun
    split
    · exact h
    · exact owRun_good n (i + 1) _ _ (oStep_good h)
open Dec in
theorem ow_C {j j' : On} {m m' : Mm} {N n : Nat} (hN : N ≤ 1000) (hg : oGood j m) (hR : owRun N 0 j m = (n, j', m')) : CallC Try.prog owId (objA [.int .i64 N]) (objHp oO j m) (.int .i64 n) (objHp oO j' m') := by
  refine CallC.of_body (E := E49) (ds := []) (fn := owF) 17 (by kernel_rfl) (by kernel_rfl) (by kernel_rfl) (by kernel_rfl) ?_
  refine KC.of_exec (fr := ⟨objA [.int .i64 N] ++ List.replicate 17 undef, objHp oO j m, [], []⟩) E49ok (ow_in j m N) (pcs_of trivial) (Nat.le_refl _) z3 ?_
  have ha : KC E49 3 .normal [.code (.loop (bd owF owL)), .blk 0, .code (bd owF [1, 1])] (owFr j m N ((0 : Nat) : Int) []) (Ev.Ends E49 owF 3 (.int .i64 n) (objHp oO j' m')) := by
    refine KC.loop (m0 := 3) (ι := Nat × On × Mm) (fun x => owFr x.2.1 x.2.2 N (x.1 : Int) []) (fun x => x.1 ≤ N ∧ oGood x.2.1 x.2.2 ∧ owRun (N - x.1) x.1 x.2.1 x.2.2 = (n, j', m')) (fun x => N - x.1)
      (fun ex fr => (ex = .exit 0 ∧ n = N ∧ fr = owX j' m' N []) ∨ (ex = .ret ∧ fr = owE j' m' n [])) (fun x hx => ?_) ?_ (0, j, m) ⟨Nat.zero_le _, hg, hR⟩
    · obtain ⟨i, j, m⟩ := x
      obtain ⟨hi, ho, he⟩ := hx
      simp only at hi ho he ⊢
      by_cases hlt : i < N
      · have hd : decide ((i : Int) < (N : Int)) = true := decide_eq_true (by omega)
        obtain ⟨k, hk⟩ : ∃ k, N - i = k + 1 := ⟨N - i - 1, by omega⟩
        rw [hk] at he
        unfold owRun at he
        by_cases hr : j.dn = true
        · rw [if_pos hr] at he
          simp only [Prod.mk.injEq] at he
          obtain ⟨rfl, rfl, rfl⟩ := he
          exact CodeC.of_run (fr := owFr j m N (i : Int) [t, t]) E49ok (ow_dn j m N i) (pcs_of ⟨hd, hr, trivial⟩) (Nat.le_refl _) z3 (.inr ⟨by simp, .inr ⟨rfl, rfl⟩⟩)
        · rw [if_neg hr] at he
          exact CodeC.of_run (fr := owFr j m N (i : Int) [t, f]) E49ok (ow_go j m N i) (pcs_of ⟨hd, by simpa using hr, ⟨rfl, ho⟩, trivial⟩) (Nat.le_refl _) z3 (.inl ⟨rfl, (i + 1, oSt j m, oMe j m), by rw [w64_succ i (by omega)], ⟨by simp only; omega, oStep_good ho, by
            simp only
            rw [show N - (i + 1) = k by omega]
            exact he⟩, by simp only; omega⟩)
      · have e : i = N := by omega
        subst e
        rw [show i - i = 0 by omega] at he
        have he' : (i, j, m) = (n, j', m') := he
        simp only [Prod.mk.injEq] at he'
        obtain ⟨rfl, rfl, rfl⟩ := he'
        exact CodeC.of_run (fr := owFr j m i (i : Int) [f]) E49ok (ow_end j m i i) (pcs_of ⟨decide_eq_false (by omega), trivial⟩) (Nat.le_refl _) z3 (.inr ⟨by simp, .inl ⟨rfl, rfl, rfl⟩⟩)
    · rintro ex fr (⟨rfl, rfl, rfl⟩ | ⟨rfl, rfl⟩)
      · exact KC.of_exec E49ok (ow_out j' m' n) (pcs_of trivial) (Nat.le_refl _) z3 (KC.done ⟨by simp, [.int .i64 n], [], [0, 1, 2], 0, by kernel_rfl, by simp, by kernel_rfl, rfl, z3⟩)
      · exact KC.of_exec E49ok (ow_ret j' m' n) (pcs_of trivial) (Nat.le_refl _) z3 (KC.done ⟨by simp, [.int .i64 n], [], [0, 1, 2], 0, by kernel_rfl, by simp, by kernel_rfl, rfl, z3⟩)
  exact KC.alias [0, 1, 2] ha (by kernel_rfl) (by kernel_rfl) (by kernel_rfl) ⟨rfl, rfl, rfl, trivial⟩ (by kernel_rfl) z3
abbrev gow : List Value → Hp → Option (Value × Hp × List Prop) := gObj oO (fun j m rest => let R := owRun (numOf rest) 0 j m; .int .i64 R.1) (fun j m rest => (owRun (numOf rest) 0 j m).2.1) (fun j m rest => (owRun (numOf rest) 0 j m).2.2) (fun j m rest => rest = [.int .i64 (numOf rest)] ∧ numOf rest ≤ 1000 ∧ oGood j m)
theorem gow_ok : ∀ args hp v hp' pc, gow args hp = some (v, hp', pc) → ∀ ds, CallOk Try.prog owId args hp ⟨v, hp', ds, pc⟩ :=
  gObj_ok oO_ok (enters (fn := Try.f36) (by kernel_rfl) (by kernel_rfl) rfl) (fun _ _ _ => rfl) fun j m rest h => by
    obtain ⟨h1, h2, h3⟩ := h
    have hC := ow_C (j := j) (m := m) (n := (owRun (numOf rest) 0 j m).1) (j' := (owRun (numOf rest) 0 j m).2.1) (m' := (owRun (numOf rest) 0 j m).2.2) h2 h3 rfl
    rw [← h1] at hC
    exact hC

noncomputable def E50 : Env := (E49.add jrId gjr).add owId gow
theorem E50ok : EnvOk E50 := (E49ok.add gjr_ok).add gow_ok
end Go.Proofs.Ytmliekdbhefpkaa.Ct
