/- What 'StoreOthers' comes to, of any input: it returns true and changes nothing that was there. -/
import Derived.Test.YtcpkieahnkfpoaaCtFrameLaw
namespace Go.Proofs.Ytcpkieahnkfpoaa.StoreOthersDone
open Go Go.Proofs Go.Proofs.Ytcpkieahnkfpoaa.Ev Go.Proofs.Ytcpkieahnkfpoaa.Ct
open Go.RowKit

noncomputable abbrev fn : Func := Try.f6
abbrev fid : FuncId := 6
def hp0 (l : List Int) (off : Nat) : Hp := ⟨[(0, .view off (.ints .u64 l u64T))], 1, []⟩
def opV (k0 kd n o v : Int) : Value := .agg ⟨[.int .i64 k0, .int .i64 kd, .int .i64 n, .int .u64 o, .int .u64 v]⟩
def args (c : Cfg) (a : Option Addr) (N cap : Nat) (x : Value) : List Value := [c.v, .slice a N cap, x]
def fr (c : Cfg) (l w : List Int) (off cap : Nat) (kd n : Int) (dn : Bool) (i : Int) (ds : List Dec) : Fr := mkFr 84 [(1, .slice (some ⟨0, off, none⟩) l.length cap), (3, .pointer (some ⟨1, 0, none⟩)), (10, .pointer (some ⟨2, 0, none⟩)), (11, .bool dn), (58, .slice (some ⟨3, 0, none⟩) l.length l.length), (59, .int .i64 l.length), (60, .int .i64 i)]
  [(0, .view off (.ints .u64 l u64T)), (1, .cells c.cells 24), (2, .cells [.int .i64 kd, .int .i64 n] 39), (3, .ints .u64 w u64T)] 4 [] ds
def frX (l : List Int) (off : Nat) : Fr := mkFr 84 [] (hp0 l off).blks 1 [] []
def frE (l : List Int) (off : Nat) : Fr := mkFr 84 [(6, .bool true)] (hp0 l off).blks 1 [] []
abbrev lp : List Nat := [1, 1, 1, 1, 1, 1, 0, 1, 0, 0]
noncomputable abbrev K : List Kt := [.code (.loop (bd fn lp)), .blk 1, .code (bd fn [1, 1, 1, 1, 1, 1, 1])]
def q0 (c : Cfg) (l : List Int) (off : Nat) : List Prop := [c.Right ∧ (l.length : Int) = c.len ∧ l.length = l.length ∧ off = off]
def jv (off i : Nat) : Nat := addN off (mulN i 1) - off
theorem jv_eq (off i : Nat) : jv off i = i := by unfold jv; rw [addN_eq, mulN_eq]; omega
def rd (l w : List Int) (off i : Nat) : List Prop := [decide ((i : Int) < (l.length : Int)) = true, 0 ≤ (i : Int), (i : Int) < (l.length : Int), i < w.length, 0 ≤ (i : Int), (i : Int) < (l.length : Int), off ≤ addN off (mulN i 1), jv off i < l.length]
open Dec in
section
variable (c : Cfg) (l w : List Int) (off cap : Nat) (k0 kd n o v : Int) (dn : Bool) (i : Nat)
noncomputable abbrev start (ds : List Dec) : Fr := ⟨args c (some ⟨0, off, none⟩) l.length cap (opV k0 kd n o v) ++ List.replicate 81 undef, hp0 l off, ds, []⟩
theorem so_1 : execR E12 8 .normal [.code (bd fn [])] [0, 1, 8, 9] [1, 3, 10, 11, 58, 59, 60] 1 [] (start c l off cap k0 kd n o v [Dec.l, t]) =
    some (.normal, K, fr c l l off cap kd n false 0 [], q0 c l off ++ [(k0 == 1) = true, (newM c l).ok, (mLd (newM c l) kd n).ok]) := by kernel_rfl
theorem so_2 : execR E12 8 .normal [.code (bd fn [])] [0, 1, 8, 9] [1, 3, 10, 11, 58, 59, 60] 1 [] (start c l off cap k0 kd n o v [Dec.l, f, t]) =
    some (.normal, K, fr c l (setW l (cellIx c kd n) v) off cap kd n true 0 [], q0 c l off ++ [(k0 == 1) = false, (k0 == 2) = true, (newM c l).ok, (mSt (newM c l) kd n v).ok]) := by kernel_rfl
theorem so_3 : execR E12 8 .normal [.code (bd fn [])] [0, 1, 8, 9] [1, 3, 10, 11, 58, 59, 60] 1 [] (start c l off cap k0 kd n o v [Dec.l, f, f, t]) =
    some (.normal, K, fr c l (swpW l (cellIx c kd n) o v) off cap kd n (dnS (newM c l) kd n o) 0 [], q0 c l off ++ [(k0 == 1) = false, (k0 == 2) = false, (k0 == 3) = true, (newM c l).ok, (mSw (newM c l) kd n o v).ok]) := by kernel_rfl
theorem so_4 : execR E12 8 .normal [.code (bd fn [])] [0, 1, 8, 9] [1, 3, 10, 11, 58, 59, 60] 1 [] (start c l off cap k0 kd n o v [Dec.l, f, f, f]) =
    some (.normal, K, fr c l (addW l (cellIx c kd n) v) off cap kd n true 0 [], q0 c l off ++ [(k0 == 1) = false, (k0 == 2) = false, (k0 == 3) = false, (newM c l).ok, (mAd (newM c l) kd n v).ok]) := by kernel_rfl
theorem rd_eq : run E12 8 (bd fn lp) [0, 1, 2, 3] [1, 3, 10, 11, 58, 59, 60] 1 [] (fr c l w off cap kd n dn (i : Int) [t, f, Dec.l]) = some (.normal, fr c l w off cap kd n dn (w64 ((i : Int) + 1)) [], rd l w off i ++ [(w.getD i 0 != l.getD (jv off i) 0) = false]) := by kernel_rfl
theorem rd_ne : run E12 8 (bd fn lp) [0, 1, 2, 3] [1, 3, 10, 11, 58, 59, 60] 1 [] (fr c l w off cap kd n dn (i : Int) [t, t, f, f]) = some (.normal, fr c l w off cap kd n dn (w64 ((i : Int) + 1)) [], rd l w off i ++ [(w.getD i 0 != l.getD (jv off i) 0) = true, (!dn) = false, c.Right ∧ 0 ≤ (i : Int) ∧ (i : Int) < c.len, (!andL [kindAt c i == kd, numAt c i == n]) = false]) := by kernel_rfl
theorem rd_end : run E12 8 (bd fn lp) [0] [] 1 [] (fr c l w off cap kd n dn (i : Int) [f]) = some (.exit 1, frX l off, [decide ((i : Int) < (l.length : Int)) = false]) := by kernel_rfl
theorem so_out : execR E12 8 (.exit 1) [.blk 1, .code (bd fn [1, 1, 1, 1, 1, 1, 1])] [0] [6] 1 [] (frX l off) = some (.ret, [], frE l off, []) := by kernel_rfl
theorem not_right (a : Option Addr) (N : Nat) : told (doCall E11 20 fid (args c a N cap (opV k0 kd n o v)) ⟨[], 1, []⟩ [t, Dec.l, Dec.l]) = some (.bool true, [(!rightB c) = true]) := by kernel_rfl
theorem not_len (a : Option Addr) (N : Nat) : told (doCall E11 20 fid (args c a N cap (opV k0 kd n o v)) ⟨[], 1, []⟩ [f, t, Dec.l]) = some (.bool true, [(!rightB c) = false, c.Right, ((N : Int) != c.len) = true]) := by kernel_rfl
end
open Dec in
theorem main (c : Cfg) (l : List Int) (off cap : Nat) (k0 kd n o v : Int) (hr : c.Right) (hlen : (l.length : Int) = c.len) :
    CallC Try.prog fid (args c (some ⟨0, off, none⟩) l.length cap (opV k0 kd n o v)) (hp0 l off) (.bool true) (hp0 l off) := by
  have hok := newM_ok hlen
  have hcl := Cfg.len_in hr
  have hq : ∀ p ∈ q0 c l off, p := pcs_of ⟨⟨hr, hlen, rfl, rfl⟩, trivial⟩
  have go : ∀ (w : List Int) (dn : Bool), w.length = l.length → (∀ j : Nat, w.getD j 0 ≠ l.getD j 0 → dn = true ∧ cellIx c kd n = (j : Int)) → KC E12 1 .normal K (fr c l w off cap kd n dn 0 []) (Ev.Ends E12 fn 1 (.bool true) (hp0 l off)) := fun w dn hw hch => by
    refine KC.loop (m0 := 1) (ι := Nat) (fun i => fr c l w off cap kd n dn (i : Int) []) (fun i => i ≤ l.length) (fun i => l.length - i) (fun ex fr => ex = .exit 1 ∧ fr = frX l off) (fun i hi => ?_) ?_ 0 (Nat.zero_le _)
    · by_cases hlt : i < l.length
      · have hrd : ∀ p ∈ rd l w off i, p := pcs_of ⟨decide_eq_true (by omega), by omega, by omega, by omega, by omega, by omega, by rw [addN_eq]; omega, by rw [jv_eq]; exact hlt, trivial⟩
        by_cases he : w.getD i 0 = l.getD i 0
        · exact CodeC.of_run (fr := fr c l w off cap kd n dn (i : Int) [t, f, Dec.l]) E12ok (rd_eq c l w off cap kd n dn i) (pcs_app hrd (pcs_of ⟨by rw [jv_eq, he]; exact bne_self_eq_false _, trivial⟩)) (show 1 ≤ 4 by omega) (z1 _) (.inl ⟨rfl, i + 1, by rw [w64_succ i (by omega)], hlt, by omega⟩)
        · obtain ⟨h1, h2⟩ := hch i he
          obtain ⟨h3, h4⟩ := at_cellIx h2 (by omega)
          exact CodeC.of_run (fr := fr c l w off cap kd n dn (i : Int) [t, t, f, f]) E12ok (rd_ne c l w off cap kd n dn i) (pcs_app hrd (pcs_of ⟨by rw [jv_eq]; exact bne_iff_ne.2 he, by rw [h1]; rfl, ⟨hr, by omega, by omega⟩, by rw [h3, h4]; simp [andL], trivial⟩)) (show 1 ≤ 4 by omega) (z1 _) (.inl ⟨rfl, i + 1, by rw [w64_succ i (by omega)], hlt, by omega⟩)
      · exact CodeC.of_run (fr := fr c l w off cap kd n dn (i : Int) [f]) E12ok (rd_end c l w off cap kd n dn i) (pcs_of ⟨decide_eq_false (by omega), trivial⟩) (show 1 ≤ 4 by omega) (z1 _) (.inr ⟨by simp, rfl, rfl⟩)
    rintro ex fr ⟨rfl, rfl⟩
    exact KC.of_exec E12ok (so_out l off) (pcs_of trivial) (Nat.le_refl _) (z1 _) (KC.done ⟨by simp, [.bool true], [], [0], 1, by kernel_rfl, by simp, by kernel_rfl, rfl, z1 _⟩)
  refine CallC.of_body (E := E12) (ds := []) (fn := fn) 81 (by kernel_rfl) (by kernel_rfl) (by kernel_rfl) (by kernel_rfl) ?_
  by_cases k1 : k0 = 1
  · exact KC.of_exec (fr := start c l off cap k0 kd n o v [Dec.l, t]) E12ok (so_1 c l off cap k0 kd n o v) (pcs_app hq (pcs_of ⟨beq_iff_eq.2 k1, hok, acc_ok hok rfl, trivial⟩)) (Nat.le_refl _) (z1 _) (go l false rfl fun j hj => absurd rfl hj)
  have b1 : (k0 == 1) = false := beq_eq_false_iff_ne.2 k1
  by_cases k2 : k0 = 2
  · exact KC.of_exec (fr := start c l off cap k0 kd n o v [Dec.l, f, t]) E12ok (so_2 c l off cap k0 kd n o v) (pcs_app hq (pcs_of ⟨b1, beq_iff_eq.2 k2, hok, acc_ok hok (setW_len _ _ _), trivial⟩)) (Nat.le_refl _) (z1 _) (go _ true (setW_len _ _ _) fun j hj => ⟨rfl, setW_getD hj⟩)
  have b2 : (k0 == 2) = false := beq_eq_false_iff_ne.2 k2
  by_cases k3 : k0 = 3
  · refine KC.of_exec (fr := start c l off cap k0 kd n o v [Dec.l, f, f, t]) E12ok (so_3 c l off cap k0 kd n o v) (pcs_app hq (pcs_of ⟨b1, b2, beq_iff_eq.2 k3, hok, acc_ok hok (swpW_len _ _ _ _), trivial⟩)) (Nat.le_refl _) (z1 _) (go _ _ (swpW_len _ _ _ _) fun j hj => ?_)
    obtain ⟨h1, h2⟩ := swpW_getD hj
    refine ⟨?_, h1⟩
    show (decide (0 ≤ cellIx c kd n) && (getW l (cellIx c kd n) == o)) = true
    rw [h2, h1, beq_self_eq_true, Bool.and_true]
    exact decide_eq_true (by omega)
  have b3 : (k0 == 3) = false := beq_eq_false_iff_ne.2 k3
  exact KC.of_exec (fr := start c l off cap k0 kd n o v [Dec.l, f, f, f]) E12ok (so_4 c l off cap k0 kd n o v) (pcs_app hq (pcs_of ⟨b1, b2, b3, hok, acc_ok hok (addW_len _ _ _), trivial⟩)) (Nat.le_refl _) (z1 _) (go _ true (addW_len _ _ _) fun j hj => ⟨rfl, setW_getD hj⟩)

theorem walk (c : Cfg) (v : Value) (l : List Int) (z : List Int) (w : World) (hl : RowIn .u64 w v l) (hz : z.length = 5) (_ : ∀ i, i < 5 → (Lit.int (([.i64, .i64, .i64, .u64, .u64] : List IntKind).getD i .i64) (z.getD i 0)).wf = true) :
    Calls Try.prog fid #[c.v, v, .agg ⟨rowV [.i64, .i64, .i64, .u64, .u64] z⟩] w fun e w1 => e = .returned (.bool true) ∧ Below w.heap.size w w1 := by
  obtain ⟨k0, kd, n, o, x, rfl⟩ : ∃ a b d e f, z = [a, b, d, e, f] := by
    match z, hz with
    | [a, b, d, e, f], _ => exact ⟨a, b, d, e, f, rfl⟩
  exact law_cells (E' := E12) E11ok rfl (x := [opV k0 kd n o x]) hl (fun ρ => rfl) (fun hr hlen off cap => ⟨_, main c l off cap k0 kd n o x hr hlen⟩)
    (fun hr a m cap => ⟨_, _, not_right c cap k0 kd n o x a m, pcs_of ⟨by simp [rightB, hr], trivial⟩⟩)
    (fun hr a m cap hlen => ⟨_, _, not_len c cap k0 kd n o x a m, pcs_of ⟨by simp [rightB, hr], hr, by simpa using hlen, trivial⟩⟩)
end Go.Proofs.Ytcpkieahnkfpoaa.StoreOthersDone
