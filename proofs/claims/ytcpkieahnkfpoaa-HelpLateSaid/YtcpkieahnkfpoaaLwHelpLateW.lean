/- What 'HelpLate' comes to, of any input: it returns true and changes nothing that was there. -/
import Derived.Test.YtcpkieahnkfpoaaCtHelp2
namespace Go.Proofs.Ytcpkieahnkfpoaa.HelpLateDone
open Go Go.Proofs Go.Proofs.Ytcpkieahnkfpoaa.Ev Go.Proofs.Ytcpkieahnkfpoaa.Ct
open Go.RowKit

noncomputable abbrev fn : Func := Try.f19
abbrev fid : FuncId := 19
def args (c : Cfg) (a : Option Addr) (n cap : Nat) (w : Int) : List Value := [c.v, .slice a n cap, .int .u64 w]
def hp0 (l : List Int) (off : Nat) : Hp := ⟨[(0, .view off (.ints .u64 l u64T))], 1, []⟩
abbrev hT : TypeId := 155
def q0 (c : Cfg) (l : List Int) (off : Nat) (w : Int) : List Prop := [c.Right ∧ (l.length : Int) = c.len ∧ l.length = l.length ∧ off = off, 0 ≤ w ∧ w ≤ 18446744073709551615]
def m1 (c : Cfg) (l : List Int) (w : Int) : Mm := mLd (newM c l) 4 (pendB w)
def m2 (c : Cfg) (l : List Int) (w : Int) : Mm := mLd (m1 c l w) 6 (pendB w)
def n1 (c : Cfg) (l : List Int) (w : Int) : Mm := mSw (m2 c l w) 6 (pendB w) 0 (seqB w)
def sv (c : Cfg) (l : List Int) (w : Int) : Int := getW (n1 c l w).w (cellIx c 4 (pendB w))
def n2 (c : Cfg) (l : List Int) (w : Int) : Mm := mLd (n1 c l w) 4 (pendB w)
def n3 (c : Cfg) (l : List Int) (w : Int) : Mm := mSw (n2 c l w) 1 0 w (setB w)
def fr (l : List Int) (off cap : Nat) (w s : Int) (wf : List Int) (i : Int) (ds : List Dec) : Fr := mkFr 93 [(1, .slice (some ⟨0, off, none⟩) l.length cap), (11, .pointer (some ⟨1, 0, none⟩)), (12, .slice (some ⟨2, 0, none⟩) l.length l.length), (74, .int .i64 l.length), (75, .int .i64 i)]
  [(0, .view off (.ints .u64 l u64T)), (1, .cells [.nilFunc, .int .u64 w, .int .u64 s, .int .u64 (seqB w), .int .i64 (pendB w)] hT), (2, .ints .u64 wf u64T)] 3 [] ds
def frX (l : List Int) (off : Nat) (w s : Int) (ds : List Dec) : Fr := mkFr 93 [(11, .pointer (some ⟨1, 0, none⟩))] [(0, .view off (.ints .u64 l u64T)), (1, .cells [.nilFunc, .int .u64 w, .int .u64 s, .int .u64 (seqB w), .int .i64 (pendB w)] hT)] 2 [] ds
def frE (l : List Int) (off : Nat) : Fr := mkFr 93 [(6, .bool true)] (hp0 l off).blks 1 [] []
abbrev lp : List Nat := [1, 1, 1, 1, 1, 1, 1, 1, 0, 1, 0, 0]
noncomputable abbrev K : List Kt := [.blk 0, .code (bd fn [1, 1, 1, 1, 1, 1, 1, 1, 1])]
noncomputable abbrev start (c : Cfg) (l : List Int) (off cap : Nat) (w : Int) (ds : List Dec) : Fr := ⟨args c (some ⟨0, off, none⟩) l.length cap w ++ List.replicate 90 undef, hp0 l off, ds, []⟩
def jv (off i : Nat) : Nat := addN off (mulN i 1) - off
theorem jv_eq (off i : Nat) : jv off i = i := by unfold jv; rw [addN_eq, mulN_eq]; omega
def pS (c : Cfg) (l : List Int) (w : Int) : Int := getW l (cellIx c 4 (pendB w))
def pN (c : Cfg) (l : List Int) (w : Int) : Int := getW l (cellIx c 6 (pendB w))
def p1 (c : Cfg) (l : List Int) (off : Nat) (w : Int) : List Prop := [decide (pendB w ≥ 0) = true, decide (pendB w < 0) = false, decide (pendB w ≥ c.s) = false, (0 : Int) ≤ 0, (0 : Int) < (l.length : Int), off ≤ addN off (mulN 0 1), jv off 0 < l.length]
def p2 (c : Cfg) (l : List Int) (w : Int) : List Prop := [(newM c l).ok, 0 ≤ pS c l w ∧ pS c l w ≤ 18446744073709551615]
open Dec in
section
variable (c : Cfg) (l : List Int) (off cap : Nat) (w s : Int) (wf : List Int) (i : Nat)
noncomputable abbrev A : List Value := args c (some ⟨0, off, none⟩) l.length cap w
theorem hl_in : execR E26 12 .normal [.code (bd fn [])] [0, 7, 12] [1, 11, 12, 74, 75] 1 [] (start c l off cap w ([t, Dec.l, Dec.l, f, f, f, f, f] ++ (List.replicate 6 Dec.l ++ ([f] ++ List.replicate 10 Dec.l)))) = some (.normal, .code (.loop (bd fn lp)) :: K, fr l off cap w (sv c l w) (n3 c l w).w 0 [],
    q0 c l off w ++ (p1 c l off w ++ ([(l.getD (jv off 0) 0 == w) = false] ++ (p2 c l w ++ [(stW (pS c l w) == 3) = false, (m1 c l w).ok, (pN c l w == 0) = false, (m2 c l w).ok, (n1 c l w).ok, (stB (sv c l w) == 3) = false, (n2 c l w).ok, (n3 c l w).ok])))) := by kernel_rfl
theorem hl_A : callR E26 12 fid (A c l off cap w) (hp0 l off) ([f, Dec.l, Dec.l, t] ++ List.replicate 10 Dec.l) [0] = some (.bool true, hp0 l off, q0 c l off w ++ [decide (pendB w ≥ 0) = false, decide (pendB w < 0) = true]) := by kernel_rfl
theorem hl_B : callR E26 12 fid (A c l off cap w) (hp0 l off) ([t, Dec.l, Dec.l, f, t] ++ List.replicate 10 Dec.l) [0] = some (.bool true, hp0 l off, q0 c l off w ++ [decide (pendB w ≥ 0) = true, decide (pendB w < 0) = false, decide (pendB w ≥ c.s) = true]) := by kernel_rfl
theorem hl_C : callR E26 12 fid (A c l off cap w) (hp0 l off) ([t, Dec.l, Dec.l, f, f, t] ++ List.replicate 10 Dec.l) [0] = some (.bool true, hp0 l off, q0 c l off w ++ (p1 c l off w ++ [(l.getD (jv off 0) 0 == w) = true])) := by kernel_rfl
theorem hl_D : callR E26 12 fid (A c l off cap w) (hp0 l off) ([t, Dec.l, Dec.l, f, f, f, t] ++ List.replicate 10 Dec.l) [0] = some (.bool true, hp0 l off, q0 c l off w ++ (p1 c l off w ++ ([(l.getD (jv off 0) 0 == w) = false] ++ (p2 c l w ++ [(stW (pS c l w) == 3) = true])))) := by kernel_rfl
theorem hl_E : callR E26 12 fid (A c l off cap w) (hp0 l off) ([t, Dec.l, Dec.l, f, f, f, f, t] ++ List.replicate 10 Dec.l) [0] = some (.bool true, hp0 l off, q0 c l off w ++ (p1 c l off w ++ ([(l.getD (jv off 0) 0 == w) = false] ++ (p2 c l w ++ [(stW (pS c l w) == 3) = false, (m1 c l w).ok, (pN c l w == 0) = true])))) := by kernel_rfl
theorem rd_1 : run E26 12 (bd fn lp) [0, 1, 2] [1, 11, 12, 74, 75] 1 [] (fr l off cap w s wf (i : Int) [t, f]) = some (.normal, fr l off cap w s wf (w64 ((i : Int) + 1)) [], [decide ((i : Int) < (l.length : Int)) = true, 0 ≤ (i : Int), (i : Int) < (l.length : Int), i < wf.length, 0 ≤ (i : Int), (i : Int) < (l.length : Int), off ≤ addN off (mulN i 1), jv off i < l.length, (wf.getD i 0 != l.getD (jv off i) 0) = false]) := by kernel_rfl
theorem rd_end : run E26 12 (bd fn lp) [0, 1] [11] 1 [] (fr l off cap w s wf (i : Int) [f]) = some (.exit 0, frX l off w s [], [decide ((i : Int) < (l.length : Int)) = false]) := by kernel_rfl
theorem out_t : execR E26 12 (.exit 0) K [0] [6] 1 [] (frX l off w s [Dec.l]) = some (.ret, [], frE l off, []) := by kernel_rfl
theorem not_right_f (a : Option Addr) (m : Nat) : told (doCall E25 20 fid (args c a m cap w) ⟨[], 1, []⟩ (t :: Dec.l :: f :: List.replicate 12 Dec.l)) = some (.bool true, [(!rightB c) = true, 0 ≤ w ∧ w ≤ 18446744073709551615, decide (pendB w ≥ 0) = false]) := by kernel_rfl
theorem not_right_t (a : Option Addr) (m : Nat) : told (doCall E25 20 fid (args c a m cap w) ⟨[], 1, []⟩ (t :: Dec.l :: t :: List.replicate 12 Dec.l)) = some (.bool true, [(!rightB c) = true, 0 ≤ w ∧ w ≤ 18446744073709551615, decide (pendB w ≥ 0) = true]) := by kernel_rfl
theorem not_len_f (a : Option Addr) (m : Nat) : told (doCall E25 20 fid (args c a m cap w) ⟨[], 1, []⟩ (f :: t :: f :: List.replicate 12 Dec.l)) = some (.bool true, [(!rightB c) = false, c.Right, ((m : Int) != c.len) = true, 0 ≤ w ∧ w ≤ 18446744073709551615, decide (pendB w ≥ 0) = false]) := by kernel_rfl
theorem not_len_t (a : Option Addr) (m : Nat) : told (doCall E25 20 fid (args c a m cap w) ⟨[], 1, []⟩ (f :: t :: t :: List.replicate 12 Dec.l)) = some (.bool true, [(!rightB c) = false, c.Right, ((m : Int) != c.len) = true, 0 ≤ w ∧ w ≤ 18446744073709551615, decide (pendB w ≥ 0) = true]) := by kernel_rfl
end
theorem swpW_no {w : List Int} {i o v : Int} (h : getW w i ≠ o) : swpW w i o v = w := by
  unfold swpW
  rw [if_neg h]
open Dec in
theorem main (c : Cfg) (l : List Int) (off cap : Nat) (w : Int) (hr : c.Right) (hlen : (l.length : Int) = c.len) (hwf : WfW l) (w0 : 0 ≤ w) (w1 : w ≤ 18446744073709551615) :
    CallC Try.prog fid (args c (some ⟨0, off, none⟩) l.length cap w) (hp0 l off) (.bool true) (hp0 l off) := by
  have hcl := Cfg.len_in hr
  have o0 := newM_ok hlen
  have o1 : (m1 c l w).ok := acc_ok o0 rfl
  have o2 : (m2 c l w).ok := acc_ok o1 rfl
  have hq : ∀ p ∈ q0 c l off w, p := pcs_of ⟨⟨hr, hlen, rfl, rfl⟩, ⟨w0, w1⟩, trivial⟩
  by_cases hp : pendB w ≥ 0
  · by_cases hs : pendB w ≥ c.s
    · exact CallC.of_call E26ok (hl_B c l off cap w) (pcs_app hq (pcs_of ⟨decide_eq_true hp, decide_eq_false (by omega), decide_eq_true hs, trivial⟩)) rfl (z1 _)
    have hp1 : ∀ p ∈ p1 c l off w, p := pcs_of ⟨decide_eq_true hp, decide_eq_false (by omega), decide_eq_false hs, by omega, by omega, by rw [addN_eq]; omega, by rw [jv_eq]; omega, trivial⟩
    have hp2 : ∀ p ∈ p2 c l w, p := pcs_of ⟨o0, hwf.getW _, trivial⟩
    by_cases h0 : l.getD 0 0 = w
    · exact CallC.of_call E26ok (hl_C c l off cap w) (pcs_app hq (pcs_app hp1 (pcs_of ⟨by rw [jv_eq]; exact beq_iff_eq.2 h0, trivial⟩))) rfl (z1 _)
    have h0' : ∀ p ∈ [(l.getD (jv off 0) 0 == w) = false], p := pcs_of ⟨by rw [jv_eq]; exact beq_eq_false_iff_ne.2 h0, trivial⟩
    by_cases h3 : stW (pS c l w) = 3
    · exact CallC.of_call E26ok (hl_D c l off cap w) (pcs_app hq (pcs_app hp1 (pcs_app h0' (pcs_app hp2 (pcs_of ⟨beq_iff_eq.2 h3, trivial⟩))))) rfl (z1 _)
    by_cases hn : pN c l w = 0
    · exact CallC.of_call E26ok (hl_E c l off cap w) (pcs_app hq (pcs_app hp1 (pcs_app h0' (pcs_app hp2 (pcs_of ⟨beq_eq_false_iff_ne.2 h3, o1, beq_iff_eq.2 hn, trivial⟩))))) rfl (z1 _)
    have e1 : (n1 c l w).w = l := swpW_no hn
    have o3 : (n1 c l w).ok := acc_ok o2 (swpW_len _ _ _ _)
    have o4 : (n2 c l w).ok := acc_ok o3 rfl
    have o5 : (n3 c l w).ok := acc_ok o4 (swpW_len _ _ _ _)
    have es : sv c l w = pS c l w := by
      unfold sv
      rw [e1]
      rfl
    have hb : 0 ≤ pS c l w ∧ pS c l w ≤ 18446744073709551615 := hwf.getW (cellIx c 4 (pendB w))
    have h3' : (stB (sv c l w) == 3) = false := by
      rw [es, stB_eq hb.1 hb.2]
      exact beq_eq_false_iff_ne.2 h3
    have e3 : (n3 c l w).w = l := by
      show swpW (n1 c l w).w (cellIx c 1 0) w (setB w) = l
      rw [e1]
      refine swpW_no ?_
      rw [ix_tally hr, getW_in (by omega)]
      exact h0
    refine CallC.of_body (E := E26) (ds := []) (fn := fn) 90 (by kernel_rfl) (by kernel_rfl) (by kernel_rfl) (by kernel_rfl) ?_
    refine KC.of_exec (fr := start c l off cap w ([t, Dec.l, Dec.l, f, f, f, f, f] ++ (List.replicate 6 Dec.l ++ ([f] ++ List.replicate 10 Dec.l)))) E26ok (hl_in c l off cap w) (pcs_app hq (pcs_app hp1 (pcs_app h0' (pcs_app hp2 (pcs_of ⟨beq_eq_false_iff_ne.2 h3, o1, beq_eq_false_iff_ne.2 hn, o2, o3, h3', o4, o5, trivial⟩))))) (Nat.le_refl _) (z1 _) ?_
    rw [e3]
    generalize sv c l w = s
    refine KC.loop (m0 := 1) (ι := Nat) (fun i => fr l off cap w s l (i : Int) []) (fun i => i ≤ l.length) (fun i => l.length - i) (fun ex fr => ex = .exit 0 ∧ fr = frX l off w s []) (fun i hi => ?_) ?_ 0 (Nat.zero_le _)
    · by_cases hlt : i < l.length
      · exact CodeC.of_run (fr := fr l off cap w s l (i : Int) [t, f]) E26ok (rd_1 l off cap w s l i) (pcs_of ⟨decide_eq_true (by omega), by omega, by omega, hlt, by omega, by omega, by rw [addN_eq]; omega, by rw [jv_eq]; exact hlt, by rw [jv_eq]; exact bne_self_eq_false _, trivial⟩) (show 1 ≤ 3 by omega) (z1 _) (.inl ⟨rfl, i + 1, by rw [w64_succ i (by omega)], hlt, by omega⟩)
      · exact CodeC.of_run (fr := fr l off cap w s l (i : Int) [f]) E26ok (rd_end l off cap w s l i) (pcs_of ⟨decide_eq_false (by omega), trivial⟩) (show 1 ≤ 3 by omega) (z1 _) (.inr ⟨by simp, rfl, rfl⟩)
    rintro ex fr ⟨rfl, rfl⟩
    exact KC.of_exec (fr := frX l off w s [Dec.l]) E26ok (out_t l off w s) (pcs_of trivial) (show 1 ≤ 2 by omega) (z1 _) (KC.done ⟨by simp, [.bool true], [], [0], 1, by kernel_rfl, by simp, by kernel_rfl, rfl, z1 _⟩)
  · exact CallC.of_call E26ok (hl_A c l off cap w) (pcs_app hq (pcs_of ⟨decide_eq_false hp, decide_eq_true (by omega), trivial⟩)) rfl (z1 _)

theorem walk (c : Cfg) (v : Value) (l : List Int) (x : Int) (w : World) (hl : RowIn .u64 w v l) (hx : (Lit.int .u64 x).wf = true) :
    Calls Try.prog fid #[c.v, v, .int .u64 x] w fun e w1 => e = .returned (.bool true) ∧ Below w.heap.size w w1 := by
  obtain ⟨x0, x1⟩ := bounds_u64 hx
  refine law_cells (E' := E26) (n := 20) E25ok rfl (x := [.int .u64 x]) hl (fun ρ => rfl) (fun hr hlen off cap => ⟨_, main c l off cap x hr hlen (row_wf hl) x0 x1⟩) (fun hr a m cap => ?_) (fun hr a m cap hlen => ?_)
  · by_cases hp : pendB x ≥ 0
    · exact ⟨_, _, not_right_t c cap x a m, pcs_of ⟨by simp [rightB, hr], ⟨x0, x1⟩, decide_eq_true hp, trivial⟩⟩
    · exact ⟨_, _, not_right_f c cap x a m, pcs_of ⟨by simp [rightB, hr], ⟨x0, x1⟩, decide_eq_false hp, trivial⟩⟩
  · by_cases hp : pendB x ≥ 0
    · exact ⟨_, _, not_len_t c cap x a m, pcs_of ⟨by simp [rightB, hr], hr, by simpa using hlen, ⟨x0, x1⟩, decide_eq_true hp, trivial⟩⟩
    · exact ⟨_, _, not_len_f c cap x a m, pcs_of ⟨by simp [rightB, hr], hr, by simpa using hlen, ⟨x0, x1⟩, decide_eq_false hp, trivial⟩⟩
end Go.Proofs.Ytcpkieahnkfpoaa.HelpLateDone
