/- What 'HelpOnly' comes to, of any input: it returns true and changes nothing that was there. -/
import Derived.Test.YtcpkieahnkfpoaaCtHelp
namespace Go.Proofs.Ytcpkieahnkfpoaa.HelpOnlyDone
open Go Go.Proofs Go.Proofs.Ytcpkieahnkfpoaa.Ev Go.Proofs.Ytcpkieahnkfpoaa.Ct
open Go.RowKit

noncomputable abbrev fn : Func := Try.f21
abbrev fid : FuncId := 21
def args (c : Cfg) (a : Option Addr) (n cap : Nat) (w : Int) : List Value := [c.v, .slice a n cap, .int .u64 w]
def hp0 (l : List Int) (off : Nat) : Hp := ⟨[(0, .view off (.ints .u64 l u64T))], 1, []⟩
abbrev hT : TypeId := 155
def fr (c : Cfg) (l : List Int) (off cap : Nat) (w s n : Int) (wf : List Int) (i : Int) (ds : List Dec) : Fr := mkFr 94 [(1, .slice (some ⟨0, off, none⟩) l.length cap), (3, .pointer (some ⟨1, 0, none⟩)), (10, .pointer (some ⟨2, 0, none⟩)), (11, .int .i64 n), (12, .int .i64 (pendB w)), (43, .slice (some ⟨3, 0, none⟩) l.length l.length), (44, .int .i64 l.length), (45, .int .i64 i)]
  [(0, .view off (.ints .u64 l u64T)), (1, .cells c.cells 24), (2, .cells [.nilFunc, .int .u64 w, .int .u64 s, .int .u64 (seqB w), .int .i64 (pendB w)] hT), (3, .ints .u64 wf u64T)] 4 [] ds
abbrev lp : List Nat := [1, 1, 1, 1, 1, 1, 0, 1, 0, 0]
noncomputable abbrev K : List Kt := [.blk 0, .code (bd fn [1, 1, 1, 1, 1, 1, 1])]
def q0 (c : Cfg) (l : List Int) (off : Nat) : List Prop := [c.Right ∧ (l.length : Int) = c.len ∧ l.length = l.length ∧ off = off]
def n1 (c : Cfg) (l : List Int) (w : Int) : Mm := mSw (newM c l) 6 (pendB w) 0 (seqB w)
def sv (c : Cfg) (l : List Int) (w : Int) : Int := getW (n1 c l w).w (cellIx c 4 (pendB w))
def n2 (c : Cfg) (l : List Int) (w : Int) : Mm := mLd (n1 c l w) 4 (pendB w)
def n3 (c : Cfg) (l : List Int) (w : Int) : Mm := mSw (n2 c l w) 1 0 w (setB w)
def k3 (c : Cfg) (l : List Int) (w : Int) : Mm := mSw (n2 c l w) 4 (pendB w) (sv c l w) (mvB (sv c l w) (bsB (sv c l w)))
def k4 (c : Cfg) (l : List Int) (w : Int) : Mm := mSw (k3 c l w) 1 0 w (setB w)
noncomputable abbrev start (c : Cfg) (l : List Int) (off cap : Nat) (w : Int) (ds : List Dec) : Fr := ⟨args c (some ⟨0, off, none⟩) l.length cap w ++ List.replicate 91 undef, hp0 l off, ds, []⟩
def frX (l : List Int) (off : Nat) (w s n : Int) (ds : List Dec) : Fr := mkFr 94 [(10, .pointer (some ⟨1, 0, none⟩)), (11, .int .i64 n), (12, .int .i64 (pendB w))] [(0, .view off (.ints .u64 l u64T)), (1, .cells [.nilFunc, .int .u64 w, .int .u64 s, .int .u64 (seqB w), .int .i64 (pendB w)] hT)] 2 [] ds
def frE (l : List Int) (off : Nat) : Fr := mkFr 94 [(6, .bool true)] (hp0 l off).blks 1 [] []
def jv (off i : Nat) : Nat := addN off (mulN i 1) - off
theorem jv_eq (off i : Nat) : jv off i = i := by unfold jv; rw [addN_eq, mulN_eq]; omega
def rd (c : Cfg) (l wf : List Int) (off i : Nat) : List Prop := [decide ((i : Int) < (l.length : Int)) = true, 0 ≤ (i : Int), (i : Int) < (l.length : Int), i < wf.length, c.Right ∧ 0 ≤ (i : Int) ∧ (i : Int) < c.len, 0 ≤ (i : Int), (i : Int) < (l.length : Int), off ≤ addN off (mulN i 1), jv off i < l.length]
def atK (c : Cfg) (i : Nat) (k n : Int) : Bool := andL [kindAt c i == k, numAt c i == n]
theorem atK_true {c : Cfg} {i : Nat} {k n : Int} (h : cellIx c k n = (i : Int)) : atK c i k n = true := by
  obtain ⟨h1, h2⟩ := at_cellIx h (by omega)
  unfold atK
  rw [h1, h2]
  simp [andL]
abbrev nsR : List Nat := [0, 1, 2, 3]
abbrev lvR : List Nat := [1, 3, 10, 11, 12, 43, 44, 45]
open Dec in
section
variable (c : Cfg) (l : List Int) (off cap : Nat) (w s n : Int) (wf : List Int) (i : Nat)
theorem ho_n : execR E23 12 .normal [.code (bd fn [])] [0, 1, 7, 8] lvR 1 [] (start c l off cap w (f :: List.replicate 10 Dec.l)) = some (.normal, .code (.loop (bd fn lp)) :: K, fr c l off cap w 0 0 l 0 [], q0 c l off ++ [decide (pendB w ≥ 0) = false, 0 ≤ w ∧ w ≤ 18446744073709551615, (newM c l).ok]) := by kernel_rfl
theorem ho_s : execR E23 12 .normal [.code (bd fn [])] [0, 1, 7, 10] lvR 1 [] (start c l off cap w ([t] ++ (List.replicate 8 Dec.l ++ ([f] ++ List.replicate 10 Dec.l)))) = some (.normal, .code (.loop (bd fn lp)) :: K, fr c l off cap w (sv c l w) 3 (n3 c l w).w 0 [], q0 c l off ++ [decide (pendB w ≥ 0) = true, (newM c l).ok, (n1 c l w).ok, (stB (sv c l w) == 3) = false, (n2 c l w).ok, 0 ≤ w ∧ w ≤ 18446744073709551615, (n3 c l w).ok]) := by kernel_rfl
theorem ho_l : execR E23 12 .normal [.code (bd fn [])] [0, 1, 7, 11] lvR 1 [] (start c l off cap w ([t] ++ (List.replicate 8 Dec.l ++ ([t, Dec.l, Dec.l, Dec.l, t] ++ List.replicate 10 Dec.l)))) = some (.normal, .code (.loop (bd fn lp)) :: K, fr c l off cap w (sv c l w) 4 (k4 c l w).w 0 [], q0 c l off ++ [decide (pendB w ≥ 0) = true, (newM c l).ok, (n1 c l w).ok, (stB (sv c l w) == 3) = true, (n2 c l w).ok, dnS (n2 c l w) 4 (pendB w) (sv c l w) = true, (k3 c l w).ok, 0 ≤ w ∧ w ≤ 18446744073709551615, (k4 c l w).ok]) := by kernel_rfl
theorem rd_eq : run E23 12 (bd fn lp) nsR lvR 1 [] (fr c l off cap w s n wf (i : Int) [t, f, Dec.l, Dec.l]) = some (.normal, fr c l off cap w s n wf (w64 ((i : Int) + 1)) [], rd c l wf off i ++ [(wf.getD i 0 != l.getD (jv off i) 0) = false]) := by kernel_rfl
theorem rd_ta : run E23 12 (bd fn lp) nsR lvR 1 [] (fr c l off cap w s n wf (i : Int) [t, t, f, Dec.l]) = some (.normal, fr c l off cap w s n wf (w64 ((i : Int) + 1)) [], rd c l wf off i ++ [(wf.getD i 0 != l.getD (jv off i) 0) = true, (!atK c i 1 0) = false]) := by kernel_rfl
theorem rd_st : run E23 12 (bd fn lp) nsR lvR 1 [] (fr c l off cap w s n wf (i : Int) [t, t, t, f, f, Dec.l]) = some (.normal, fr c l off cap w s n wf (w64 ((i : Int) + 1)) [], rd c l wf off i ++ [(wf.getD i 0 != l.getD (jv off i) 0) = true, (!atK c i 1 0) = true, decide (pendB w < 0) = false, (!atK c i 4 (pendB w)) = false]) := by kernel_rfl
theorem rd_nu : run E23 12 (bd fn lp) nsR lvR 1 [] (fr c l off cap w s n wf (i : Int) [t, t, t, f, t, f]) = some (.normal, fr c l off cap w s n wf (w64 ((i : Int) + 1)) [], rd c l wf off i ++ [(wf.getD i 0 != l.getD (jv off i) 0) = true, (!atK c i 1 0) = true, decide (pendB w < 0) = false, (!atK c i 4 (pendB w)) = true, (!atK c i 6 (pendB w)) = false]) := by kernel_rfl
theorem rd_end : run E23 12 (bd fn lp) [0, 2] [10, 11, 12] 1 [] (fr c l off cap w s n wf (i : Int) [f]) = some (.exit 0, frX l off w s n [], [decide ((i : Int) < (l.length : Int)) = false]) := by kernel_rfl
theorem out_t : execR E23 12 (.exit 0) K [0] [6] 1 [] (frX l off w s n [Dec.l, Dec.l, t]) = some (.ret, [], frE l off, [decide (pendB w ≥ 0) = true]) := by kernel_rfl
theorem out_f : execR E23 12 (.exit 0) K [0] [6] 1 [] (frX l off w s 0 [Dec.l, Dec.l, f]) = some (.ret, [], frE l off, [decide (pendB w ≥ 0) = false]) := by kernel_rfl
theorem not_right_f (a : Option Addr) (m : Nat) : told (doCall E22 20 fid (args c a m cap w) ⟨[], 1, []⟩ (t :: Dec.l :: f :: List.replicate 12 Dec.l)) = some (.bool true, [(!rightB c) = true, decide (pendB w ≥ 0) = false]) := by kernel_rfl
theorem not_right_t (a : Option Addr) (m : Nat) : told (doCall E22 20 fid (args c a m cap w) ⟨[], 1, []⟩ (t :: Dec.l :: t :: List.replicate 12 Dec.l)) = some (.bool true, [(!rightB c) = true, decide (pendB w ≥ 0) = true]) := by kernel_rfl
theorem not_len_f (a : Option Addr) (m : Nat) : told (doCall E22 20 fid (args c a m cap w) ⟨[], 1, []⟩ (f :: t :: f :: List.replicate 12 Dec.l)) = some (.bool true, [(!rightB c) = false, c.Right, ((m : Int) != c.len) = true, decide (pendB w ≥ 0) = false]) := by kernel_rfl
theorem not_len_t (a : Option Addr) (m : Nat) : told (doCall E22 20 fid (args c a m cap w) ⟨[], 1, []⟩ (f :: t :: t :: List.replicate 12 Dec.l)) = some (.bool true, [(!rightB c) = false, c.Right, ((m : Int) != c.len) = true, decide (pendB w ≥ 0) = true]) := by kernel_rfl
end
theorem stB_zero : stB 0 = 0 := by decide +kernel
open Dec in
theorem main (c : Cfg) (l : List Int) (off cap : Nat) (w : Int) (hr : c.Right) (hlen : (l.length : Int) = c.len) (w0 : 0 ≤ w) (w1 : w ≤ 18446744073709551615) :
    CallC Try.prog fid (args c (some ⟨0, off, none⟩) l.length cap w) (hp0 l off) (.bool true) (hp0 l off) := by
  have hcl := Cfg.len_in hr
  have o0 := newM_ok hlen
  have o1 : (n1 c l w).ok := acc_ok o0 (swpW_len _ _ _ _)
  have o2 : (n2 c l w).ok := acc_ok o1 rfl
  have hq : ∀ p ∈ q0 c l off, p := pcs_of ⟨⟨hr, hlen, rfl, rfl⟩, trivial⟩
  have go : ∀ (s n : Int) (wf : List Int), wf.length = l.length → (pendB w ≥ 0 ∨ n = 0) → (∀ j : Nat, wf.getD j 0 ≠ l.getD j 0 → pendB w ≥ 0 ∧ (cellIx c 6 (pendB w) = (j : Int) ∨ cellIx c 4 (pendB w) = (j : Int) ∨ cellIx c 1 0 = (j : Int))) →
      KC E23 1 .normal (.code (.loop (bd fn lp)) :: K) (fr c l off cap w s n wf 0 []) (Ev.Ends E23 fn 1 (.bool true) (hp0 l off)) := fun s n wf hw hn hch => by
    refine KC.loop (m0 := 1) (ι := Nat) (fun i => fr c l off cap w s n wf (i : Int) []) (fun i => i ≤ l.length) (fun i => l.length - i) (fun ex fr => ex = .exit 0 ∧ fr = frX l off w s n []) (fun i hi => ?_) ?_ 0 (Nat.zero_le _)
    · by_cases hlt : i < l.length
      · have hrd : ∀ p ∈ rd c l wf off i, p := pcs_of ⟨decide_eq_true (by omega), by omega, by omega, by omega, ⟨hr, by omega, by omega⟩, by omega, by omega, by rw [addN_eq]; omega, by rw [jv_eq]; exact hlt, trivial⟩
        have nx : ∃ j : Nat, fr c l off cap w s n wf (w64 ((i : Int) + 1)) [] = fr c l off cap w s n wf (j : Int) [] ∧ j ≤ l.length ∧ l.length - j < l.length - i := ⟨i + 1, by rw [w64_succ i (by omega)], hlt, by omega⟩
        by_cases he : wf.getD i 0 = l.getD i 0
        · exact CodeC.of_run (fr := fr c l off cap w s n wf (i : Int) [t, f, Dec.l, Dec.l]) E23ok (rd_eq c l off cap w s n wf i) (pcs_app hrd (pcs_of ⟨by rw [jv_eq, he]; exact bne_self_eq_false _, trivial⟩)) (show 1 ≤ 4 by omega) (z1 _) (.inl ⟨rfl, nx⟩)
        · obtain ⟨hp, hor⟩ := hch i he
          have hne : (wf.getD i 0 != l.getD (jv off i) 0) = true := by rw [jv_eq]; exact bne_iff_ne.2 he
          have hp' : decide (pendB w < 0) = false := decide_eq_false (by omega)
          cases hta : atK c i 1 0
          · have hta' : (!atK c i 1 0) = true := by rw [hta]; rfl
            cases hst : atK c i 4 (pendB w)
            · have hnu : atK c i 6 (pendB w) = true := by
                rcases hor with h | h | h
                · exact atK_true h
                · rw [atK_true h] at hst; cases hst
                · rw [atK_true h] at hta; cases hta
              exact CodeC.of_run (fr := fr c l off cap w s n wf (i : Int) [t, t, t, f, t, f]) E23ok (rd_nu c l off cap w s n wf i) (pcs_app hrd (pcs_of ⟨hne, hta', hp', by rw [hst]; rfl, by rw [hnu]; rfl, trivial⟩)) (show 1 ≤ 4 by omega) (z1 _) (.inl ⟨rfl, nx⟩)
            · exact CodeC.of_run (fr := fr c l off cap w s n wf (i : Int) [t, t, t, f, f, Dec.l]) E23ok (rd_st c l off cap w s n wf i) (pcs_app hrd (pcs_of ⟨hne, hta', hp', by rw [hst]; rfl, trivial⟩)) (show 1 ≤ 4 by omega) (z1 _) (.inl ⟨rfl, nx⟩)
          · exact CodeC.of_run (fr := fr c l off cap w s n wf (i : Int) [t, t, f, Dec.l]) E23ok (rd_ta c l off cap w s n wf i) (pcs_app hrd (pcs_of ⟨hne, by rw [hta]; rfl, trivial⟩)) (show 1 ≤ 4 by omega) (z1 _) (.inl ⟨rfl, nx⟩)
      · exact CodeC.of_run (fr := fr c l off cap w s n wf (i : Int) [f]) E23ok (rd_end c l off cap w s n wf i) (pcs_of ⟨decide_eq_false (by omega), trivial⟩) (show 1 ≤ 4 by omega) (z1 _) (.inr ⟨by simp, rfl, rfl⟩)
    rintro ex fr ⟨rfl, rfl⟩
    by_cases hp : pendB w ≥ 0
    · exact KC.of_exec (fr := frX l off w s n [Dec.l, Dec.l, t]) E23ok (out_t l off w s n) (pcs_of ⟨decide_eq_true hp, trivial⟩) (show 1 ≤ 2 by omega) (z1 _) (KC.done ⟨by simp, [.bool true], [], [0], 1, by kernel_rfl, by simp, by kernel_rfl, rfl, z1 _⟩)
    · obtain rfl : n = 0 := hn.resolve_left hp
      exact KC.of_exec (fr := frX l off w s 0 [Dec.l, Dec.l, f]) E23ok (out_f l off w s) (pcs_of ⟨decide_eq_false hp, trivial⟩) (show 1 ≤ 2 by omega) (z1 _) (KC.done ⟨by simp, [.bool true], [], [0], 1, by kernel_rfl, by simp, by kernel_rfl, rfl, z1 _⟩)
  have ch1 : ∀ j : Nat, (n1 c l w).w.getD j 0 ≠ l.getD j 0 → cellIx c 6 (pendB w) = (j : Int) := fun j h => (swpW_getD h).1
  refine CallC.of_body (E := E23) (ds := []) (fn := fn) 91 (by kernel_rfl) (by kernel_rfl) (by kernel_rfl) (by kernel_rfl) ?_
  by_cases hp : pendB w ≥ 0
  · by_cases hs : stB (sv c l w) = 3
    · have o3 : (k3 c l w).ok := acc_ok o2 (swpW_len _ _ _ _)
      have o4 : (k4 c l w).ok := acc_ok o3 (swpW_len _ _ _ _)
      have hd : dnS (n2 c l w) 4 (pendB w) (sv c l w) = true := by
        show (decide (0 ≤ cellIx c 4 (pendB w)) && (getW (n1 c l w).w (cellIx c 4 (pendB w)) == sv c l w)) = true
        have : 0 ≤ cellIx c 4 (pendB w) := Classical.byContradiction fun h => by
          have e : sv c l w = 0 := getW_out h
          rw [e, stB_zero] at hs
          omega
        rw [decide_eq_true this, Bool.true_and]
        exact beq_self_eq_true _
      refine KC.of_exec (fr := start c l off cap w ([t] ++ (List.replicate 8 Dec.l ++ ([t, Dec.l, Dec.l, Dec.l, t] ++ List.replicate 10 Dec.l)))) E23ok (ho_l c l off cap w) (pcs_app hq (pcs_of ⟨decide_eq_true hp, o0, o1, beq_iff_eq.2 hs, o2, hd, o3, ⟨w0, w1⟩, o4, trivial⟩)) (Nat.le_refl _) (z1 _) (go _ _ _ ((swpW_len _ _ _ _).trans ((swpW_len _ _ _ _).trans (swpW_len _ _ _ _))) (.inl hp) fun j hj => ⟨hp, ?_⟩)
      by_cases h1 : (k4 c l w).w.getD j 0 = (k3 c l w).w.getD j 0
      · by_cases h2 : (k3 c l w).w.getD j 0 = (n1 c l w).w.getD j 0
        · exact .inl (ch1 j (by rw [← h2, ← h1]; exact hj))
        · exact .inr (.inl (swpW_getD h2).1)
      · exact .inr (.inr (swpW_getD h1).1)
    · have o3 : (n3 c l w).ok := acc_ok o2 (swpW_len _ _ _ _)
      refine KC.of_exec (fr := start c l off cap w ([t] ++ (List.replicate 8 Dec.l ++ ([f] ++ List.replicate 10 Dec.l)))) E23ok (ho_s c l off cap w) (pcs_app hq (pcs_of ⟨decide_eq_true hp, o0, o1, beq_eq_false_iff_ne.2 hs, o2, ⟨w0, w1⟩, o3, trivial⟩)) (Nat.le_refl _) (z1 _) (go _ _ _ ((swpW_len _ _ _ _).trans (swpW_len _ _ _ _)) (.inl hp) fun j hj => ⟨hp, ?_⟩)
      by_cases h1 : (n3 c l w).w.getD j 0 = (n1 c l w).w.getD j 0
      · exact .inl (ch1 j (by rw [← h1]; exact hj))
      · exact .inr (.inr (swpW_getD h1).1)
  · exact KC.of_exec (fr := start c l off cap w (f :: List.replicate 10 Dec.l)) E23ok (ho_n c l off cap w) (pcs_app hq (pcs_of ⟨decide_eq_false hp, ⟨w0, w1⟩, o0, trivial⟩)) (Nat.le_refl _) (z1 _) (go 0 0 l rfl (.inr rfl) fun j hj => absurd rfl hj)

theorem walk (c : Cfg) (v : Value) (l : List Int) (x : Int) (w : World) (hl : RowIn .u64 w v l) (hx : (Lit.int .u64 x).wf = true) :
    Calls Try.prog fid #[c.v, v, .int .u64 x] w fun e w1 => e = .returned (.bool true) ∧ Below w.heap.size w w1 := by
  obtain ⟨x0, x1⟩ := bounds_u64 hx
  refine law_cells (E' := E23) (n := 20) E22ok rfl (x := [.int .u64 x]) hl (fun ρ => rfl) (fun hr hlen off cap => ⟨_, main c l off cap x hr hlen x0 x1⟩) (fun hr a m cap => ?_) (fun hr a m cap hlen => ?_)
  · by_cases hp : pendB x ≥ 0
    · exact ⟨_, _, not_right_t c cap x a m, pcs_of ⟨by simp [rightB, hr], decide_eq_true hp, trivial⟩⟩
    · exact ⟨_, _, not_right_f c cap x a m, pcs_of ⟨by simp [rightB, hr], decide_eq_false hp, trivial⟩⟩
  · by_cases hp : pendB x ≥ 0
    · exact ⟨_, _, not_len_t c cap x a m, pcs_of ⟨by simp [rightB, hr], hr, by simpa using hlen, decide_eq_true hp, trivial⟩⟩
    · exact ⟨_, _, not_len_f c cap x a m, pcs_of ⟨by simp [rightB, hr], hr, by simpa using hlen, decide_eq_false hp, trivial⟩⟩
end Go.Proofs.Ytcpkieahnkfpoaa.HelpOnlyDone
