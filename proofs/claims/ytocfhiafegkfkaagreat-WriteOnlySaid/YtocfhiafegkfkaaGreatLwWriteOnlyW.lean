/- What 'WriteOnly' comes to, of any input: . -/
import Derived.Test.YtocfhiafegkfkaaGreatCtWriteV
namespace Go.Proofs.YtocfhiafegkfkaaGreat.WriteOnlyDone
open Go Go.Proofs Go.Proofs.YtocfhiafegkfkaaGreat.Ev Go.Proofs.YtocfhiafegkfkaaGreat.Ct
open Go.RowKit

noncomputable abbrev fn : Func := Tryz.f7
abbrev fid : FuncId := 7
def args (c : Cfg) (a : Option Addr) (n cap : Nat) (h key st : Int) (sv : Value) : List Value := [c.v, .slice a n cap, .agg ⟨rowV [.u64, .i64, .i64] [h, key, st] ++ [sv]⟩]
abbrev A (c : Cfg) (l : List Int) (off cap : Nat) (pk : Pk) (h key st : Int) : List Value := args c (some ⟨0, off, none⟩) l.length cap h key st (pk.sv 1)
abbrev R (c : Cfg) (l : List Int) (h key : Int) : Nat × Wt × Mm := wrRun 300 0 (wrOf c h key) (newM c l)
abbrev lp : List Nat := [1, 1, 1, 1, 1, 1, 0, 1, 0, 0]
noncomputable abbrev K : List Kt := [.blk 0, .code (bd fn [1, 1, 1, 1, 1, 1, 1])]
abbrev live : List Nat := [1, 3, 5, 10, 11, 54, 55, 56]
abbrev obN : List Nat := rng 4 15
def bk (c : Cfg) (l : List Int) (off : Nat) (h key st : Int) (pk : Pk) (o : Wt) : List (Nat × Blk) := (plHp l off pk).blks ++ ([(2, .cells c.cells 24), (3, .cells (rowV [.u64, .i64, .i64] [h, key, st] ++ [pk.sv 1]) 46)] ++ optL wrF obN o.enc obN 0)
def fr (c : Cfg) (l : List Int) (off cap : Nat) (h key st : Int) (pk : Pk) (o : Wt) (N : Nat) (W : List Int) (sl k : Int) (ds : List Dec) : Fr := mkFr 128 [(1, .slice (some ⟨0, off, none⟩) l.length cap), (3, .pointer (some ⟨2, 0, none⟩)), (5, .pointer (some ⟨3, 0, none⟩)), (10, .pointer (some ⟨4, 0, none⟩)), (11, .int .i64 sl), (54, .slice (some ⟨19, 0, none⟩) N N), (55, .int .i64 N), (56, .int .i64 k)] (bk c l off h key st pk o ++ [(19, .ints .u64 W u64T)]) 20 [] ds
def frX (c : Cfg) (l : List Int) (off : Nat) (h key st : Int) (pk : Pk) (o : Wt) (ds : List Dec) : Fr := mkFr 128 [(10, .pointer (some ⟨4, 0, none⟩))] (bk c l off h key st pk o) 19 [] ds
def frE (l : List Int) (off : Nat) (pk : Pk) (b : Bool) : Fr := mkFr 128 [(6, .bool b)] (plHp l off pk).blks 2 [] []
noncomputable abbrev start (c : Cfg) (l : List Int) (off cap : Nat) (pk : Pk) (h key st : Int) (ds : List Dec) : Fr := ⟨A c l off cap pk h key st ++ List.replicate 125 undef, plHp l off pk, ds, []⟩
abbrev wA (W : List Int) (k : Nat) : Int := W.getD (addN 0 (mulN k 1)) 0
abbrev lA (l : List Int) (off k : Nat) : Int := l.getD (addN off (mulN k 1) - off) 0
def atK (c : Cfg) (i : Nat) (k n : Int) : Bool := andL [kindAt c i == k, numAt c i == n]
def lQ (l : List Int) (off k : Nat) : List Prop := [0 ≤ (k : Int), (k : Int) < (l.length : Int), off ≤ addN off (mulN k 1), addN off (mulN k 1) - off < l.length]
def hQ (c : Cfg) (l W : List Int) (off N k : Nat) (b : Bool) : List Prop := [decide ((k : Int) < (N : Int)) = true, 0 ≤ (k : Int), (k : Int) < (N : Int), addN 0 (mulN k 1) < W.length, c.Right ∧ 0 ≤ (k : Int) ∧ (k : Int) < c.len] ++ (lQ l off k ++ [(wA W k == lA l off k) = b])
def bQ (c : Cfg) (l W : List Int) (off k : Nat) (sl key : Int) : List Prop := (atK c k 8 key = true) :: (lQ l off k ++ [Wd (lA l off k), (wA W k != withI (lA l off k) 1 sl) = false])
def cQ (c : Cfg) (l W : List Int) (off k : Nat) (sl key : Int) : List Prop := (atK c k 8 key = false) :: (atK c k 4 sl = true) :: Wd (wA W k) :: (lQ l off k ++ (Wd (lA l off k) :: ((nuI (wA W k) 30 32 != nuI (lA l off k) 30 32) = false) :: ((4096 : Int) ≠ 0) :: (lQ l off k ++ [(4096 : Int) ≠ 0, (Int.tmod (wA W k) 4096 != Int.tmod (lA l off k) 4096) = false])))
def dQ (c : Cfg) (l W : List Int) (off k : Nat) (sl key : Int) : List Prop := (atK c k 8 key = false) :: (atK c k 4 sl = false) :: ((kindAt c k != 4) = false) :: (lQ l off k ++ [Wd (lA l off k), (wA W k != withI (lA l off k) 0 sl) = false])
def q0 (c : Cfg) (l : List Int) (off : Nat) (h key : Int) : List Prop := [c.Right ∧ (l.length : Int) = c.len ∧ l.length = l.length ∧ off = off, isNewW c h key, wrP (rng 9 15) (wrOf c h key), qRunW 300 (wrOf c h key) (newM c l), Wd h, (R c l h key).2.2.ok]
open Dec in
section
variable (c : Cfg) (l W : List Int) (off cap N : Nat) (h key st sl : Int) (pk : Pk) (o : Wt) (k : Nat)
theorem p_in : execR Ev4o 12 .normal [.code (bd fn [])] ([0, 1, 2, 3, 9] ++ rng 24 14 ++ [38]) live 2 [] (start c l off cap pk h key st [Dec.l, Dec.l]) = some (.normal, .code (.loop (bd fn lp)) :: K, fr c l off cap h key st pk (R c l h key).2.1 (R c l h key).2.2.N (R c l h key).2.2.w (brS c h) 0 [], q0 c l off h key) := by cases pk <;> kernel_rfl
theorem p_A : run Ev4o 12 (bd fn lp) (rng 0 20) live 2 [] (fr c l off cap h key st pk o N W sl k [t, t]) = some (.normal, fr c l off cap h key st pk o N W sl (w64 ((k : Int) + 1)) [], hQ c l W off N k true) := by cases pk <;> kernel_rfl
theorem p_B : run Ev4o 12 (bd fn lp) (rng 0 20) live 2 [] (fr c l off cap h key st pk o N W sl k [t, f, t, f]) = some (.normal, fr c l off cap h key st pk o N W sl (w64 ((k : Int) + 1)) [], hQ c l W off N k false ++ bQ c l W off k sl key) := by cases pk <;> kernel_rfl
theorem p_C : run Ev4o 12 (bd fn lp) (rng 0 20) live 2 [] (fr c l off cap h key st pk o N W sl k [t, f, f, t, f, f]) = some (.normal, fr c l off cap h key st pk o N W sl (w64 ((k : Int) + 1)) [], hQ c l W off N k false ++ cQ c l W off k sl key) := by cases pk <;> kernel_rfl
theorem p_D : run Ev4o 12 (bd fn lp) (rng 0 20) live 2 [] (fr c l off cap h key st pk o N W sl k [t, f, f, f, f, f]) = some (.normal, fr c l off cap h key st pk o N W sl (w64 ((k : Int) + 1)) [], hQ c l W off N k false ++ dQ c l W off k sl key) := by cases pk <;> kernel_rfl
theorem p_end : run Ev4o 12 (bd fn lp) (rng 0 19) [10] 2 [] (fr c l off cap h key st pk o N W sl k [f]) = some (.exit 0, frX c l off h key st pk o [], [decide ((k : Int) < (N : Int)) = false]) := by cases pk <;> kernel_rfl
theorem p_out : execR Ev4o 12 (.exit 0) K [0, 1] [6] 2 [] (frX c l off h key st pk o [Dec.l]) = some (.ret, [], frE l off pk o.dn, [wrP obN o, qAskW o]) := by cases pk <;> kernel_rfl
theorem p_nr (a : Option Addr) (n : Nat) : told (doCall Ev4 20 fid (args c a n cap h key st (pk.sv 1)) ⟨[], 2, []⟩ (t :: List.replicate 16 Dec.l)) = some (.bool true, [(!rightB c) = true, isNewW c h key]) := by cases pk <;> kernel_rfl
theorem p_nl (a : Option Addr) (n : Nat) : told (doCall Ev4 20 fid (args c a n cap h key st (pk.sv 1)) ⟨[], 2, []⟩ (f :: t :: List.replicate 16 Dec.l)) = some (.bool true, [(!rightB c) = false, c.Right, ((n : Int) != c.len) = true, isNewW c h key]) := by cases pk <;> kernel_rfl
end
theorem z2 {tl : List Nat} : ∀ k, k < 2 → (0 :: 1 :: tl).getD k 0 = k := fun k hk => by
  match k, hk with
  | 0, _ => rfl
  | 1, _ => rfl
theorem atK_true {c : Cfg} {i : Nat} {k n : Int} (h : cellIx c k n = (i : Int)) : atK c i k n = true := by
  obtain ⟨h1, h2⟩ := at_cellIx h (Int.natCast_nonneg i)
  unfold atK
  rw [h1, h2]
  simp [andL]
theorem atK_kind {c : Cfg} {i : Nat} {k n k' : Int} (h : cellIx c k n = (i : Int)) (hne : k ≠ k') (n' : Int) : atK c i k' n' = false := by
  obtain ⟨h1, _⟩ := at_cellIx h (Int.natCast_nonneg i)
  unfold atK
  rw [h1]
  simp [andL, hne]
theorem atK_num {c : Cfg} {i : Nat} {k n n' : Int} (h : cellIx c k n = (i : Int)) (hne : n ≠ n') : atK c i k n' = false := by
  obtain ⟨h1, h2⟩ := at_cellIx h (Int.natCast_nonneg i)
  unfold atK
  rw [h1, h2]
  simp [andL, hne]
theorem md_eq {a b : Int} (ha : Wd a) (hb : Wd b) (h : a % 4096 = b % 4096) : (Int.tmod a 4096 != Int.tmod b 4096) = false := by
  rw [Int.tmod_eq_emod_of_nonneg ha.1, Int.tmod_eq_emod_of_nonneg hb.1, h]
  exact bne_self_eq_false _
open Dec in
theorem round (c : Cfg) (l W : List Int) (off cap N : Nat) (h key st : Int) (pk : Pk) (o : Wt) (hr : c.Right) (hlen : (l.length : Int) = c.len) (hl : WfW l) (hW : WfW W) (hN : N = l.length) (hw : W.length = l.length)
    (hch : ∀ p : Int, 0 ≤ p → getW W p ≠ getW l p → (cellIx c 8 key = p ∧ getW W p = withI (getW l p) 1 (brS c h)) ∨ (cellIx c 4 (brS c h) = p ∧ nuI (getW W p) 30 32 = nuI (getW l p) 30 32 ∧ getW W p % 4096 = getW l p % 4096) ∨ (∃ x, x ≠ brS c h ∧ cellIx c 4 x = p ∧ getW W p = withI (getW l p) 0 (brS c h))) (k : Nat) (hlt : k < N) :
    ∃ ds, CodeC Ev4o 2 (bd fn lp) (fr c l off cap h key st pk o N W (brS c h) (k : Int) ds) (fun ex G => ex = .normal ∧ G = fr c l off cap h key st pk o N W (brS c h) ((k + 1 : Nat) : Int) []) := by
  have hcl := Cfg.len_in hr
  have eW : wA W k = getW W (k : Int) := by
    rw [getW_in (Int.natCast_nonneg k)]
    show W.getD (addN 0 (mulN k 1)) 0 = W.getD k 0
    rw [addN_eq, mulN_eq]
    congr 1
    omega
  have eL : lA l off k = getW l (k : Int) := by
    rw [getW_in (Int.natCast_nonneg k)]
    show l.getD (addN off (mulN k 1) - off) 0 = l.getD k 0
    rw [addN_eq, mulN_eq]
    congr 1
    omega
  have hwd : Wd (getW W (k : Int)) := hW.getW _
  have hld : Wd (getW l (k : Int)) := hl.getW _
  have hlq : ∀ p ∈ lQ l off k, p := pcs_of ⟨by omega, by omega, by rw [addN_eq]; omega, by rw [addN_eq, mulN_eq]; omega, trivial⟩
  have hhq : ∀ b, (getW W (k : Int) == getW l (k : Int)) = b → ∀ p ∈ hQ c l W off N k b, p := fun b hb => pcs_app (pcs_of ⟨decide_eq_true (by omega), by omega, by omega, by rw [addN_eq, mulN_eq]; omega, ⟨hr, by omega, by omega⟩, trivial⟩) (pcs_app hlq (pcs_of ⟨by rw [eW, eL]; exact hb, trivial⟩))
  have es : w64 ((k : Int) + 1) = ((k + 1 : Nat) : Int) := by rw [w64_in (by omega) (by omega)]; omega
  have z : ∀ j, j < 2 → (rng 0 20).getD j 0 = j := fun j hj => by
    match j, hj with
    | 0, _ => rfl
    | 1, _ => rfl
  have nx : ∀ {ds : List Dec} {G : Fr} {pc : List Prop}, run Ev4o 12 (bd fn lp) (rng 0 20) live 2 [] (fr c l off cap h key st pk o N W (brS c h) (k : Int) ds) = some (.normal, G, pc) → G = fr c l off cap h key st pk o N W (brS c h) (w64 ((k : Int) + 1)) [] → (∀ p ∈ pc, p) → CodeC Ev4o 2 (bd fn lp) (fr c l off cap h key st pk o N W (brS c h) (k : Int) ds) (fun ex G => ex = .normal ∧ G = fr c l off cap h key st pk o N W (brS c h) ((k + 1 : Nat) : Int) []) := fun hrun hG hpc => by
    subst hG
    rw [es] at hrun
    exact CodeC.of_run Ev4ook hrun hpc (show 2 ≤ 20 by omega) z ⟨rfl, rfl⟩
  by_cases he : getW W (k : Int) = getW l (k : Int)
  · exact ⟨_, nx (p_A c l W off cap N h key st (brS c h) pk o k) rfl (hhq true (beq_iff_eq.2 he))⟩
  · have hb := hhq false (beq_false_of_ne he)
    rcases hch k (Int.natCast_nonneg k) he with ⟨h1, h2⟩ | ⟨h1, h2, h3⟩ | ⟨x, h0, h1, h2⟩
    · exact ⟨_, nx (p_B c l W off cap N h key st (brS c h) pk o k) rfl (pcs_app hb (List.forall_mem_cons.2 ⟨atK_true h1, pcs_app hlq (pcs_of ⟨by rw [eL]; exact hld, by rw [eW, eL, h2]; exact bne_self_eq_false _, trivial⟩)⟩))⟩
    · exact ⟨_, nx (p_C c l W off cap N h key st (brS c h) pk o k) rfl (pcs_app hb (List.forall_mem_cons.2 ⟨atK_kind h1 (by decide) _, List.forall_mem_cons.2 ⟨atK_true h1, List.forall_mem_cons.2 ⟨by rw [eW]; exact hwd, pcs_app hlq (List.forall_mem_cons.2 ⟨by rw [eL]; exact hld, List.forall_mem_cons.2 ⟨by rw [eW, eL, h2]; exact bne_self_eq_false _, List.forall_mem_cons.2 ⟨by decide, pcs_app hlq (pcs_of ⟨by decide, by rw [eW, eL]; exact md_eq hwd hld h3, trivial⟩)⟩⟩⟩)⟩⟩⟩))⟩
    · exact ⟨_, nx (p_D c l W off cap N h key st (brS c h) pk o k) rfl (pcs_app hb (List.forall_mem_cons.2 ⟨atK_kind h1 (by decide) _, List.forall_mem_cons.2 ⟨atK_num h1 h0, List.forall_mem_cons.2 ⟨by rw [(at_cellIx h1 (Int.natCast_nonneg k)).1]; rfl, pcs_app hlq (pcs_of ⟨by rw [eL]; exact hld, by rw [eW, eL, h2]; exact bne_self_eq_false _, trivial⟩)⟩⟩⟩))⟩
open Dec in
theorem main (c : Cfg) (l : List Int) (off cap : Nat) (pk : Pk) (h key st : Int) (hr : c.Right) (hlen : (l.length : Int) = c.len) (hwf : WfW l) (hh : Wd h) :
    CallC Tryz.prog fid (A c l off cap pk h key st) (plHp l off pk) (.bool true) (plHp l off pk) := by
  have m0 : (newM c l).ok := newM_ok hlen
  have g0 : wrGood (wrOf c h key) (newM c l) := ⟨m0, hwf, wrOf_good c hh key⟩
  have g1 : wrGood (R c l h key).2.1 (R c l h key).2.2 := wrRun_good 300 0 _ _ g0
  obtain ⟨a1, a2, a3, a4, a5⟩ := wr_run hr (m := newM c l) rfl m0 h key (N := 300) (by omega) 0
  have a1 : (R c l h key).2.1.dn = true := a1
  have a5 : (R c l h key).2.2.w = (wrWant c l h key).1 := a5
  have hcl := Cfg.len_in hr
  have hN : (R c l h key).2.2.N = l.length := by
    have e1 := g1.1.1
    have e2 := g1.1.2
    rw [show (R c l h key).2.2.c = c from a2] at e2
    omega
  have hNw : (R c l h key).2.2.w.length = l.length := by rw [← hN]; exact g1.1.1.symm
  have hq : ∀ p ∈ q0 c l off h key, p := pcs_of ⟨⟨hr, hlen, rfl, rfl⟩, isNewW_ok c hh key, wrP_ok _ _, qRunW_ok 300 (by decide) g0, hh, g1.1, trivial⟩
  have hch := fun (p : Int) (p0 : 0 ≤ p) (hne : getW (wrWant c l h key).1 p ≠ getW l p) => wr_only hr hlen hwf h key p0 hne
  rw [← a5] at hch
  refine CallC.of_body (E := Ev4o) (ds := []) (fn := fn) 125 (by kernel_rfl) (by kernel_rfl) (by kernel_rfl) (by kernel_rfl) ?_
  refine KC.of_exec (fr := start c l off cap pk h key st [Dec.l, Dec.l]) Ev4ook (p_in c l off cap h key st pk) hq (Nat.le_refl _) z2 ?_
  generalize hRo : (R c l h key).2.1 = o at *
  have hWW : WfW (R c l h key).2.2.w := g1.2.1
  generalize (R c l h key).2.2.w = W at *
  generalize (R c l h key).2.2.N = N at *
  show KC Ev4o 2 .normal _ (fr c l off cap h key st pk o N W (brS c h) ((0 : Nat) : Int) []) _
  refine KC.loop (m0 := 2) (ι := Nat) (fun x => fr c l off cap h key st pk o N W (brS c h) (x : Int) []) (fun x => x ≤ N) (fun x => N - x)
    (fun ex fr => ex = .exit 0 ∧ fr = frX c l off h key st pk o []) (fun k hk => ?_) ?_ 0 (Nat.zero_le _)
  · by_cases hlt : k < N
    · obtain ⟨ds, hC⟩ := round c l W off cap N h key st pk o hr hlen hwf hWW hN hNw hch k hlt
      have hC' : CodeC Ev4o 2 (bd fn lp) (fr c l off cap h key st pk o N W (brS c h) (k : Int) []) _ := hC
      exact hC'.mono fun ex G hG => .inl ⟨hG.1, k + 1, hG.2, hlt, by omega⟩
    · have e : k = N := by omega
      subst e
      exact CodeC.of_run (fr := fr c l off cap h key st pk o k W (brS c h) (k : Int) [f]) Ev4ook (p_end c l W off cap k h key st (brS c h) pk o k) (pcs_of ⟨decide_eq_false (by omega), trivial⟩) (show 2 ≤ 20 by omega) z2 (.inr ⟨by simp, rfl, rfl⟩)
  rintro ex fr ⟨rfl, rfl⟩
  refine KC.of_exec (fr := frX c l off h key st pk o [Dec.l]) Ev4ook (p_out c l off h key st pk o) (pcs_of ⟨wrP_ok _ _, qAskW_ok g1.2.2, trivial⟩) (show 2 ≤ 19 by omega) z2 (KC.done ?_)
  rw [a1]
  cases pk <;> exact ⟨by simp, [.bool true], [], [0, 1], 2, by kernel_rfl, by simp, by kernel_rfl, rfl, z2⟩
theorem walk (c : Cfg) (v : Value) (l : List Int) (zs : List Int) (sv : Value) (rows : List (List Int)) (w : World) (hl : RowIn .u64 w v l) (hz : zs.length = 3) (hk : ∀ i, i < 3 → (Lit.int (([.u64, .i64, .i64] : List IntKind).getD i .i64) (zs.getD i 0)).wf = true) (hs : RowR pkK w sv rows) :
    Calls Tryz.prog fid #[c.v, v, .agg ⟨rowV [.u64, .i64, .i64] zs ++ [sv]⟩] w fun e w1 => e = .returned (.bool true) ∧ Below w.heap.size w w1 := by
  obtain ⟨h, key, st, rfl⟩ : ∃ a b d, zs = [a, b, d] := by
    match zs, hz with
    | [a, b, d], _ => exact ⟨a, b, d, rfl⟩
  have hh : Wd h := bounds_u64 (hk 0 (by decide))
  exact law_play2 (E' := Ev4o) Ev4ok rfl hl hs (fun hr hlen off cap pk _ => ⟨_, main c l off cap pk h key st hr hlen (row_wf hl) hh⟩)
    (fun hr a m cap pk => ⟨_, _, p_nr c cap h key st pk a m, pcs_of ⟨by simp [rightB, hr], isNewW_ok c hh key, trivial⟩⟩)
    (fun hr a m cap pk hlen => ⟨_, _, p_nl c cap h key st pk a m, pcs_of ⟨by simp [rightB, hr], hr, by simpa using hlen, isNewW_ok c hh key, trivial⟩⟩)
end Go.Proofs.YtocfhiafegkfkaaGreat.WriteOnlyDone
