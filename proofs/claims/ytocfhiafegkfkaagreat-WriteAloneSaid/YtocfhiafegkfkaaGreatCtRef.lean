/- The document's accesses are what plain functions of the words tell; their rows stand under new names. -/
import Derived.Test.YtocfhiafegkfkaaGreatCtMem2
namespace Go.Proofs.YtocfhiafegkfkaaGreat.Ct
open Go Go.Proofs Go.Proofs.YtocfhiafegkfkaaGreat.Ev
open Go.RowKit

def rHp (m : Mm) : Hp := ⟨[(0, .view 0 (.ints .u64 m.w u64T))], 2, []⟩
def rOut (m m' : Mm) : Hp := ⟨[(2, .view 0 (.ints .u64 m'.w u64T)), (0, .view 0 (.ints .u64 m.w u64T))], 4, []⟩
def rOwn (m : Mm) (w : List Int) : Hp := ⟨[(0, .view 0 (.ints .u64 m.w u64T)), (2, .own (.ints .u64 w u64T) 3)], 4, []⟩
def refPut (hp : Hp) (m : Mm) : Hp := ⟨(hp.next, .view 0 (.ints .u64 m.w u64T)) :: delB [hp.next] hp.blks, hp.next + 2, hp.log⟩
theorem rHp_isV (m : Mm) : ∀ n b, (rHp m).get n = some b → b.isV = true := view_isV
theorem rOut_get {m m' : Mm} {n : Nat} {b : Blk} (h : (rOut m m').get n = some b) : (n = 2 ∧ b = .view 0 (.ints .u64 m'.w u64T)) ∨ (n = 0 ∧ b = .view 0 (.ints .u64 m.w u64T)) := by
  simp only [rOut, Hp.get, lookB] at h
  cases h2 : Nat.beq 2 n
  · simp only [h2, cond_false] at h
    cases h0 : Nat.beq 0 n
    · simp [h0] at h
    · simp only [h0, cond_true, Option.some.injEq] at h
      exact .inr ⟨(beq_nat h0).symm, h.symm⟩
  · simp only [h2, cond_true, Option.some.injEq] at h
    exact .inl ⟨(beq_nat h2).symm, h.symm⟩
theorem r_same {f : FuncId} {args : List Value} {m m' : Mm} (hw : m'.w = m.w) {V : Nat → Nat → Value} (hV : ∀ σ, rn σ (V 2 3) = V (σ 2) (σ 3)) (hn : ∀ k ∈ nm (V 2 3), k < 4) (h : CallC Tryz.prog f args (rHp m) (V 0 1) (rHp m)) : CallC Tryz.prog f args (rHp m) (V 2 3) (rOut m m') := by
  refine CallC.alias h (rHp_isV m) [0, 1, 0, 1] (fun k hk => ?_) (hV fun k => [0, 1, 0, 1].getD k 0).symm hn fun n b hb => ?_
  · match k, hk with
    | 0, _ => rfl
    | 1, _ => rfl
  · rcases rOut_get hb with ⟨rfl, rfl⟩ | ⟨rfl, rfl⟩
    · exact ⟨by show 2 < 4; omega, rfl, .view 0 (.ints .u64 m.w u64T), rfl, rfl, fun ρ o ho ρ'' => by rw [hw]; exact view_view ρ o ho ρ''⟩
    · exact ⟨by show 0 < 4; omega, rfl, .view 0 (.ints .u64 m.w u64T), rfl, rfl, fun ρ o ho ρ'' => view_view ρ o ho ρ''⟩
theorem r_own {f : FuncId} {args : List Value} {m m' : Mm} {V : Nat → Nat → Value} (hV : ∀ σ, rn σ (V 2 3) = V (σ 2) (σ 3)) (hn : ∀ k ∈ nm (V 2 3), k < 4) (h : CallC Tryz.prog f args (rHp m) (V 2 3) (rOwn m m'.w)) : CallC Tryz.prog f args (rHp m) (V 2 3) (rOut m m') := by
  refine CallC.alias h (rHp_isV m) [0, 1, 2, 3] (fun k hk => ?_) (hV fun k => [0, 1, 2, 3].getD k 0).symm hn fun n b hb => ?_
  · match k, hk with
    | 0, _ => rfl
    | 1, _ => rfl
  · rcases rOut_get hb with ⟨rfl, rfl⟩ | ⟨rfl, rfl⟩
    · exact ⟨by show 2 < 4; omega, rfl, .own (.ints .u64 m'.w u64T) 3, rfl, rfl, fun ρ o ho ρ'' => own_view ρ o ho ρ''⟩
    · exact ⟨by show 0 < 4; omega, rfl, .view 0 (.ints .u64 m.w u64T), rfl, rfl, fun ρ o ho ρ'' => view_view ρ o ho ρ''⟩
theorem ref_lift {f : FuncId} (hent : Enters Tryz.prog f) {m m' : Mm} {x : List Value} {V : Nat → Nat → Value} {pc : List Prop} (hV : ∀ σ, rn σ (V 2 3) = V (σ 2) (σ 3)) (hC : (∀ p ∈ pc, p) → CallC Tryz.prog f (.agg ⟨m.rcells 0 1⟩ :: x) (rHp m) (V 2 3) (rOut m m')) (hx : nmL x = []) {hp : Hp} {r : Value} {rn cn : Nat} (h : refOf hp r = some (rn, cn, m)) (ds : List Dec) :
    CallOk Tryz.prog f (r :: x) hp ⟨V hp.next (hp.next + 1), refPut hp m', ds, pc⟩ := by
  obtain ⟨rfl, h2, h3⟩ := refOf_some h
  have hl := CallC.lift hent hC [rn, cn] [2] (by show 2 ≤ 4; omega) rfl (by simp [tellers, hx, nmL, nm, nmA, rHp, tellers.tellB, allLt, Blk.nm, Mm.rcells, Cfg.cells, Tc.cells, Nat.blt]) (by simp [tellers, hx, nmL, nm, nmA, rHp, tellers.tellB, allHas, has, upTo, Blk.nm, Mm.rcells, Cfg.cells, Tc.cells, Nat.beq]) (nodup2 h3) rfl
    ⟨.inr rfl, trivial⟩ (hp := hp) (args := .agg ⟨m.rcells rn cn⟩ :: x) (by simp only [rnL, rnL_none x hx, Ev.rn, rnA]; rfl) ⟨h2, trivial⟩ ds
  rw [hV] at hl
  exact hl

abbrev rV (m : Mm) (a b : Nat) : Value := .agg ⟨m.rcells a b⟩
abbrev rT (m : Mm) (x : Value) (a b : Nat) : Value := .tuple ⟨[.agg ⟨m.rcells a b⟩, x]⟩
theorem rV_rn (m : Mm) (σ : Nat → Nat) : rn σ (rV m 2 3) = rV m (σ 2) (σ 3) := rfl
theorem rT_rnI (m : Mm) (x : Int) (σ : Nat → Nat) : rn σ (rT m (.int .u64 x) 2 3) = rT m (.int .u64 x) (σ 2) (σ 3) := rfl
theorem rT_rnB (m : Mm) (x : Bool) (σ : Nat → Nat) : rn σ (rT m (.bool x) 2 3) = rT m (.bool x) (σ 2) (σ 3) := rfl
theorem rV_nm (m : Mm) : ∀ k ∈ nm (rV m 2 3), k < 4 := fun k hk => by
  simp [nm, nmA, nmL, Mm.rcells, Cfg.cells, Tc.cells] at hk
  omega
theorem rT_nmI (m : Mm) (x : Int) : ∀ k ∈ nm (rT m (.int .u64 x) 2 3), k < 4 := fun k hk => by
  simp [nm, nmA, nmL, Mm.rcells, Cfg.cells, Tc.cells] at hk
  omega
theorem rT_nmB (m : Mm) (x : Bool) : ∀ k ∈ nm (rT m (.bool x) 2 3), k < 4 := fun k hk => by
  simp [nm, nmA, nmL, Mm.rcells, Cfg.cells, Tc.cells] at hk
  omega
def rinP (m : Mm) (kd n : Int) : List Prop := [m.c.Right, decide (ix m kd n ≥ 0) = true, 0 ≤ ix m kd n, ix m kd n < (m.N : Int), 0 ≤ (ix m kd n).toNat, (ix m kd n).toNat < m.w.length]
theorem Mm.ok.right {m : Mm} (_ : m.ok) {kd n : Int} (h0 : 0 ≤ ix m kd n) : m.c.Right := by
  refine Classical.byContradiction fun hr => ?_
  have : cellIx m.c kd n = -1 := by
    unfold cellIx
    rw [if_neg fun h => hr h.1]
  have h0' : 0 ≤ cellIx m.c kd n := h0
  omega
theorem rinP_ok {m : Mm} (hok : m.ok) {kd n : Int} (h0 : 0 ≤ ix m kd n) : ∀ p ∈ rinP m kd n, p := pcs_of ⟨hok.right h0, decide_eq_true h0, h0, (hok.bnd h0).1, Nat.zero_le _, (hok.bnd h0).2, trivial⟩
def roP (m : Mm) (kd n : Int) : List Prop := [m.c.Right, decide (ix m kd n ≥ 0) = false]
theorem roP_ok {m : Mm} (hr : m.c.Right) {kd n : Int} (h0 : ¬ 0 ≤ ix m kd n) : ∀ p ∈ roP m kd n, p := pcs_of ⟨hr, decide_eq_false h0, trivial⟩
def cpP (m : Mm) (kd n new : Int) : List Prop := [(new != cu m kd n) = true, m.N ≤ m.w.length, (0 : Nat) = 0, (0 + m.N) * 8 ≤ 140737488355328, 0 + m.N ≤ 9223372036854775807, 0 ≤ ix m kd n, ix m kd n < (m.N : Int), (ix m kd n).toNat < (m.w.take m.N).length]
theorem Mm.ok.small {m : Mm} (h : m.ok) : m.w.length ≤ 66 := by
  obtain ⟨_, h2⟩ := h
  by_cases hr : m.c.Right
  · have := Cfg.len_in hr
    omega
  · have : m.c.len = 0 := by unfold Cfg.len; rw [if_neg hr]
    omega
theorem cpP_ok {m : Mm} (hok : m.ok) {kd n new : Int} (h0 : 0 ≤ ix m kd n) (hne : new ≠ cu m kd n) : ∀ p ∈ cpP m kd n new, p := by
  have hb := hok.bnd h0
  have hs := hok.small
  have e := hok.1
  have hl : (m.w.take m.N).length = m.w.length := by rw [List.length_take]; omega
  exact pcs_of ⟨bne_iff_ne.2 hne, by omega, rfl, by omega, by omega, h0, hb.1, by rw [hl]; exact hb.2, trivial⟩
abbrev rA (m : Mm) : Value := .agg ⟨m.rcells 0 1⟩
abbrev wS (m : Mm) (kd n new : Int) : List Int := (m.w.take m.N).set (ix m kd n).toNat new
open Dec in
section
variable (m : Mm) (kd n v o : Int)
theorem rld_t : callR E8 8 76 [rA m, .int .i64 kd, .int .i64 n] (rHp m) [t, l, l, l, l, l, f] [0, 1] = some (rT (m.put 1 kd n (cu m kd n) (cu m kd n) true m.w) (.int .u64 (cu m kd n)) 0 1, rHp m, rinP m kd n ++ [(cu m kd n != cu m kd n) = false]) := by kernel_rfl
theorem rld_f : callR E8 8 76 [rA m, .int .i64 kd, .int .i64 n] (rHp m) [f] [0, 1] = some (rT (m.put 1 kd n 0 0 false m.w) (.int .u64 0) 0 1, rHp m, roP m kd n) := by kernel_rfl
theorem rst_tt : callR E8 8 74 [rA m, .int .i64 kd, .int .i64 n, .int .u64 v] (rHp m) [t, l, l, l, l, t] [0, 1, 12, 13] = some (rV (m.put 2 kd n (cu m kd n) v true m.w) 2 3, rOwn m (wS m kd n v), rinP m kd n ++ cpP m kd n v) := by kernel_rfl
theorem rst_tf : callR E8 8 74 [rA m, .int .i64 kd, .int .i64 n, .int .u64 v] (rHp m) [t, l, l, l, l, f] [0, 1] = some (rV (m.put 2 kd n (cu m kd n) v true m.w) 0 1, rHp m, rinP m kd n ++ [(v != cu m kd n) = false]) := by kernel_rfl
theorem rst_f : callR E8 8 74 [rA m, .int .i64 kd, .int .i64 n, .int .u64 v] (rHp m) [f] [0, 1] = some (rV (m.put 2 kd n 0 0 false m.w) 0 1, rHp m, roP m kd n) := by kernel_rfl
theorem rsw_ff : callR E8 8 82 [rA m, .int .i64 kd, .int .i64 n, .int .u64 o, .int .u64 v] (rHp m) [t, l, l, l, f, l, f] [0, 1] = some (rT (m.put 3 kd n (cu m kd n) (cu m kd n) (cu m kd n == o) m.w) (.bool (cu m kd n == o)) 0 1, rHp m, rinP m kd n ++ [(cu m kd n == o) = false, (cu m kd n != cu m kd n) = false]) := by kernel_rfl
theorem rsw_tf : callR E8 8 82 [rA m, .int .i64 kd, .int .i64 n, .int .u64 o, .int .u64 v] (rHp m) [t, l, l, l, t, l, f] [0, 1] = some (rT (m.put 3 kd n (cu m kd n) v (cu m kd n == o) m.w) (.bool (cu m kd n == o)) 0 1, rHp m, rinP m kd n ++ [(cu m kd n == o) = true, (v != cu m kd n) = false]) := by kernel_rfl
theorem rsw_tt : callR E8 8 82 [rA m, .int .i64 kd, .int .i64 n, .int .u64 o, .int .u64 v] (rHp m) [t, l, l, l, t, l, t] [0, 1, 12, 13] = some (rT (m.put 3 kd n (cu m kd n) v (cu m kd n == o) m.w) (.bool (cu m kd n == o)) 2 3, rOwn m (wS m kd n v), rinP m kd n ++ ((cu m kd n == o) = true) :: cpP m kd n v) := by kernel_rfl
theorem rsw_f : callR E8 8 82 [rA m, .int .i64 kd, .int .i64 n, .int .u64 o, .int .u64 v] (rHp m) [f] [0, 1] = some (rT (m.put 3 kd n 0 0 false m.w) (.bool false) 0 1, rHp m, roP m kd n) := by kernel_rfl
end
theorem rcells_w (m : Mm) (op kd n old new : Int) (dn : Bool) (w w' : List Int) (a b : Nat) : (m.put op kd n old new dn w).rcells a b = (m.put op kd n old new dn w').rcells a b := rfl
theorem wS_eq {m : Mm} (hok : m.ok) (kd n new : Int) : wS m kd n new = m.w.set (ix m kd n).toNat new := by
  have e := hok.1
  unfold wS
  rw [List.take_of_length_le (by omega)]
theorem set_cu {m : Mm} {kd n new : Int} (h : new = cu m kd n) : m.w.set (ix m kd n).toNat new = m.w := by
  rw [h, set_same]
/-- A store's outcome: whether it is copied, or not. -/
theorem rst_C {m : Mm} (hok : m.ok) (hr : m.c.Right) (kd n v : Int) : CallC Tryz.prog 74 [rA m, .int .i64 kd, .int .i64 n, .int .u64 v] (rHp m) (rV (mSt m kd n v) 2 3) (rOut m (mSt m kd n v)) := by
  by_cases h0 : 0 ≤ ix m kd n
  · have em : mSt m kd n v = m.put 2 kd n (cu m kd n) v true (m.w.set (ix m kd n).toNat v) := by
      rw [acc_in hok h0, mSt, dnA, decide_eq_true (p := 0 ≤ cellIx m.c kd n) h0]
    rw [em]
    by_cases he : v = cu m kd n
    · exact r_same (V := rV (m.put 2 kd n (cu m kd n) v true (m.w.set (ix m kd n).toNat v))) (set_cu he) (rV_rn _) (rV_nm _) (CallC.of_call E8ok (rst_tf m kd n v) (pcs_app (rinP_ok hok h0) (pcs_of ⟨by rw [← he]; exact bne_self_eq_false _, trivial⟩)) rfl z2L)
    · have h := CallC.of_call E8ok (rst_tt m kd n v) (pcs_app (rinP_ok hok h0) (cpP_ok hok h0 he)) rfl z2L
      rw [wS_eq hok] at h
      exact r_own (V := rV (m.put 2 kd n (cu m kd n) v true (m.w.set (ix m kd n).toNat v))) (rV_rn _) (rV_nm _) h
  · have em : mSt m kd n v = m.put 2 kd n 0 0 false m.w := by
      rw [acc_out h0, mSt, dnA, decide_eq_false (p := 0 ≤ cellIx m.c kd n) h0, setW_out (i := cellIx m.c kd n) h0]
    rw [em]
    exact r_same (V := rV (m.put 2 kd n 0 0 false m.w)) rfl (rV_rn _) (rV_nm _) (CallC.of_call E8ok (rst_f m kd n v) (roP_ok hr h0) rfl z2L)
theorem rld_C {m : Mm} (hok : m.ok) (hr : m.c.Right) (kd n : Int) : CallC Tryz.prog 76 [rA m, .int .i64 kd, .int .i64 n] (rHp m) (rT (mLd m kd n) (.int .u64 (getW m.w (cellIx m.c kd n))) 2 3) (rOut m (mLd m kd n)) := by
  by_cases h0 : 0 ≤ ix m kd n
  · have em : mLd m kd n = m.put 1 kd n (cu m kd n) (cu m kd n) true m.w := by
      rw [acc_same h0, mLd, dnA, decide_eq_true (p := 0 ≤ cellIx m.c kd n) h0]
    have eg : getW m.w (cellIx m.c kd n) = cu m kd n := getW_in (i := cellIx m.c kd n) h0
    rw [em, eg]
    exact r_same (V := rT (m.put 1 kd n (cu m kd n) (cu m kd n) true m.w) (.int .u64 (cu m kd n))) rfl (rT_rnI _ _) (rT_nmI _ _) (CallC.of_call E8ok (rld_t m kd n) (pcs_app (rinP_ok hok h0) (pcs_of ⟨bne_self_eq_false _, trivial⟩)) rfl z2L)
  · have em : mLd m kd n = m.put 1 kd n 0 0 false m.w := by
      rw [acc_out h0, mLd, dnA, decide_eq_false (p := 0 ≤ cellIx m.c kd n) h0]
    rw [em, getW_out (i := cellIx m.c kd n) h0]
    exact r_same (V := rT (m.put 1 kd n 0 0 false m.w) (.int .u64 0)) rfl (rT_rnI _ _) (rT_nmI _ _) (CallC.of_call E8ok (rld_f m kd n) (roP_ok hr h0) rfl z2L)
theorem rsw_C {m : Mm} (hok : m.ok) (hr : m.c.Right) (kd n o v : Int) : CallC Tryz.prog 82 [rA m, .int .i64 kd, .int .i64 n, .int .u64 o, .int .u64 v] (rHp m) (rT (mSw m kd n o v) (.bool (dnS m kd n o)) 2 3) (rOut m (mSw m kd n o v)) := by
  by_cases h0 : 0 ≤ ix m kd n
  · have eg : getW m.w (cellIx m.c kd n) = cu m kd n := getW_in (i := cellIx m.c kd n) h0
    have ed : dnS m kd n o = (cu m kd n == o) := by
      rw [dnS, eg, decide_eq_true (p := 0 ≤ cellIx m.c kd n) h0, Bool.true_and]
    by_cases he : cu m kd n = o
    · have em : mSw m kd n o v = m.put 3 kd n (cu m kd n) v (cu m kd n == o) (m.w.set (ix m kd n).toNat v) := by
        rw [acc_in hok h0, mSw, ed, swpW, eg, if_pos he]
      have eb : (cu m kd n == o) = true := beq_iff_eq.2 he
      rw [em, ed]
      by_cases hv : v = cu m kd n
      · exact r_same (V := rT (m.put 3 kd n (cu m kd n) v (cu m kd n == o) (m.w.set (ix m kd n).toNat v)) (.bool (cu m kd n == o))) (set_cu hv) (rT_rnB _ _) (rT_nmB _ _) (CallC.of_call E8ok (rsw_tf m kd n v o) (pcs_app (rinP_ok hok h0) (pcs_of ⟨eb, by rw [← hv]; exact bne_self_eq_false _, trivial⟩)) rfl z2L)
      · have h := CallC.of_call E8ok (rsw_tt m kd n v o) (pcs_app (rinP_ok hok h0) (List.forall_mem_cons.2 ⟨eb, cpP_ok hok h0 hv⟩)) rfl z2L
        rw [wS_eq hok] at h
        exact r_own (V := rT (m.put 3 kd n (cu m kd n) v (cu m kd n == o) (m.w.set (ix m kd n).toNat v)) (.bool (cu m kd n == o))) (rT_rnB _ _) (rT_nmB _ _) h
    · have em : mSw m kd n o v = m.put 3 kd n (cu m kd n) (cu m kd n) (cu m kd n == o) m.w := by
        rw [acc_same h0, mSw, ed, swpW, eg, if_neg he]
      rw [em, ed]
      exact r_same (V := rT (m.put 3 kd n (cu m kd n) (cu m kd n) (cu m kd n == o) m.w) (.bool (cu m kd n == o))) rfl (rT_rnB _ _) (rT_nmB _ _) (CallC.of_call E8ok (rsw_ff m kd n v o) (pcs_app (rinP_ok hok h0) (pcs_of ⟨beq_eq_false_iff_ne.2 he, bne_self_eq_false _, trivial⟩)) rfl z2L)
  · have e2 : dnS m kd n o = false := by rw [dnS, decide_eq_false (p := 0 ≤ cellIx m.c kd n) h0]; rfl
    have e3 : swpW m.w (cellIx m.c kd n) o v = m.w := by
      unfold swpW
      rw [setW_out (i := cellIx m.c kd n) h0]
      split <;> rfl
    have em : mSw m kd n o v = m.put 3 kd n 0 0 false m.w := by
      rw [acc_out h0, mSw, e2, e3]
    rw [em, e2]
    exact r_same (V := rT (m.put 3 kd n 0 0 false m.w) (.bool false)) rfl (rT_rnB _ _) (rT_nmB _ _) (CallC.of_call E8ok (rsw_f m kd n v o) (roP_ok hr h0) rfl z2L)

def gRLd (args : List Value) (hp : Hp) : Option (Value × Hp × List Prop) :=
  match args with
  | [r, .int .i64 kd, .int .i64 n] => match refOf hp r with
    | some (_, _, m) => some (rT (mLd m kd n) (.int .u64 (getW m.w (cellIx m.c kd n))) hp.next (hp.next + 1), refPut hp (mLd m kd n), [m.ok ∧ m.c.Right])
    | none => none
  | _ => none
def gRSt (args : List Value) (hp : Hp) : Option (Value × Hp × List Prop) :=
  match args with
  | [r, .int .i64 kd, .int .i64 n, .int .u64 v] => match refOf hp r with
    | some (_, _, m) => some (rV (mSt m kd n v) hp.next (hp.next + 1), refPut hp (mSt m kd n v), [m.ok ∧ m.c.Right])
    | none => none
  | _ => none
def gRSw (args : List Value) (hp : Hp) : Option (Value × Hp × List Prop) :=
  match args with
  | [r, .int .i64 kd, .int .i64 n, .int .u64 o, .int .u64 v] => match refOf hp r with
    | some (_, _, m) => some (rT (mSw m kd n o v) (.bool (dnS m kd n o)) hp.next (hp.next + 1), refPut hp (mSw m kd n o v), [m.ok ∧ m.c.Right])
    | none => none
  | _ => none
theorem gRLd_ok : ∀ args hp v hp' pc, gRLd args hp = some (v, hp', pc) → ∀ ds, CallOk Tryz.prog 76 args hp ⟨v, hp', ds, pc⟩ := by
  intro args hp v hp' pc hg ds
  unfold gRLd at hg
  split at hg
  · split at hg
    · rename_i h
      simp only [Option.some.injEq, Prod.mk.injEq] at hg
      obtain ⟨rfl, rfl, rfl⟩ := hg
      exact ref_lift (V := rT _ _) (enters (fn := Tryz.f76) (by kernel_rfl) (by kernel_rfl) rfl) (rT_rnI _ _) (fun hp => rld_C (hd1 hp).1 (hd1 hp).2 _ _) rfl h ds
    · cases hg
  · cases hg
theorem gRSt_ok : ∀ args hp v hp' pc, gRSt args hp = some (v, hp', pc) → ∀ ds, CallOk Tryz.prog 74 args hp ⟨v, hp', ds, pc⟩ := by
  intro args hp v hp' pc hg ds
  unfold gRSt at hg
  split at hg
  · split at hg
    · rename_i h
      simp only [Option.some.injEq, Prod.mk.injEq] at hg
      obtain ⟨rfl, rfl, rfl⟩ := hg
      exact ref_lift (V := rV _) (enters (fn := Tryz.f74) (by kernel_rfl) (by kernel_rfl) rfl) (rV_rn _) (fun hp => rst_C (hd1 hp).1 (hd1 hp).2 _ _ _) rfl h ds
    · cases hg
  · cases hg
theorem gRSw_ok : ∀ args hp v hp' pc, gRSw args hp = some (v, hp', pc) → ∀ ds, CallOk Tryz.prog 82 args hp ⟨v, hp', ds, pc⟩ := by
  intro args hp v hp' pc hg ds
  unfold gRSw at hg
  split at hg
  · split at hg
    · rename_i h
      simp only [Option.some.injEq, Prod.mk.injEq] at hg
      obtain ⟨rfl, rfl, rfl⟩ := hg
      exact ref_lift (V := rT _ _) (enters (fn := Tryz.f82) (by kernel_rfl) (by kernel_rfl) rfl) (rT_rnB _ _) (fun hp => rsw_C (hd1 hp).1 (hd1 hp).2 _ _ _ _) rfl h ds
    · cases hg
  · cases hg
noncomputable def E10 : Env := ((E9.add 76 gRLd).add 74 gRSt).add 82 gRSw
theorem E10ok : EnvOk E10 := ((E9ok.add gRLd_ok).add gRSt_ok).add gRSw_ok
end Go.Proofs.YtocfhiafegkfkaaGreat.Ct
