/- What 'WriteTwice' comes to, of any input. -/
import Derived.Test.YtocfhiafegkfkaaGreatCtWriteU
import Derived.Test.YtocfhiafegkfkaaGreatCtAl13
namespace Go.Proofs.YtocfhiafegkfkaaGreat.WriteTwiceDone
open Go Go.Proofs Go.Proofs.YtocfhiafegkfkaaGreat.Ev Go.Proofs.YtocfhiafegkfkaaGreat.Ct
open Go.RowKit

noncomputable abbrev fn : Func := Tryz.f5
abbrev fid : FuncId := 5
def args (c : Cfg) (a : Option Addr) (n cap : Nat) (h key st : Int) (sv : Value) : List Value := [c.v, .slice a n cap, .agg ⟨rowV [.u64, .i64, .i64] [h, key, st] ++ [sv]⟩]
abbrev A (c : Cfg) (l : List Int) (off cap : Nat) (pk : Pk) (h key st : Int) : List Value := args c (some ⟨0, off, none⟩) l.length cap h key st (pk.sv 1)
abbrev R1 (c : Cfg) (l : List Int) (h key : Int) : Nat × Wt × Mm := wrRun 300 0 (wrOf c h key) (newM c l)
abbrev R2 (c : Cfg) (l : List Int) (h key : Int) : Nat × Wt × Mm := wrRun 300 0 (wrOf c h key) (R1 c l h key).2.2
def same (c : Cfg) (l : List Int) (h key : Int) : Bool := (R2 c l h key).2.2.w.take (R2 c l h key).2.2.N == (R1 c l h key).2.2.w.take (R1 c l h key).2.2.N
def q0 (c : Cfg) (l : List Int) (off : Nat) (h key : Int) : List Prop := [c.Right ∧ (l.length : Int) = c.len ∧ l.length = l.length ∧ off = off, isNewW c h key, isNewW c h key, wrP (rng 9 15) (wrOf c h key), qRunW 300 (wrOf c h key) (newM c l), (R1 c l h key).2.2.ok, wrP (rng 24 15) (wrOf c h key), qRunW 300 (wrOf c h key) (R1 c l h key).2.2, wrP (24 :: rng 54 14) (R2 c l h key).2.1, qAskW (R2 c l h key).2.1, (R2 c l h key).2.1.dn = true, wrP (9 :: rng 39 14) (R1 c l h key).2.1, qAskW (R1 c l h key).2.1, wrP (24 :: rng 54 14) (R2 c l h key).2.1, qAskW (R2 c l h key).2.1, (((R1 c l h key).2.1.no == 0) == ((R2 c l h key).2.1.no == 0)) = true, (R2 c l h key).2.2.ok, (0 : Nat) = 0, (0 : Nat) = 0, (R2 c l h key).2.2.N ≤ (R2 c l h key).2.2.w.length, (R1 c l h key).2.2.N ≤ (R1 c l h key).2.2.w.length, (R2 c l h key).2.2.N ≤ 9223372036854775806]
open Dec in
section
variable (c : Cfg) (l : List Int) (off cap : Nat) (pk : Pk) (h key st : Int)
theorem p_ok : callR Ev4o 20 fid (A c l off cap pk h key st) (plHp l off pk) [Dec.l, Dec.l, Dec.l, Dec.l, t, t, Dec.l] [0, 1] = some (.bool (same c l h key), plHp l off pk, q0 c l off h key) := by cases pk <;> kernel_rfl
theorem p_nr (a : Option Addr) (n : Nat) : told (doCall Ev4 20 fid (args c a n cap h key st (pk.sv 1)) ⟨[], 2, []⟩ (t :: List.replicate 16 Dec.l)) = some (.bool true, [(!rightB c) = true, isNewW c h key, isNewW c h key]) := by cases pk <;> kernel_rfl
theorem p_nl (a : Option Addr) (n : Nat) : told (doCall Ev4 20 fid (args c a n cap h key st (pk.sv 1)) ⟨[], 2, []⟩ (f :: t :: List.replicate 16 Dec.l)) = some (.bool true, [(!rightB c) = false, c.Right, ((n : Int) != c.len) = true, isNewW c h key, isNewW c h key]) := by cases pk <;> kernel_rfl
end
theorem z2L : ∀ k, k < 2 → ([0, 1] : List Nat).getD k 0 = k := fun k hk => by
  match k, hk with
  | 0, _ => rfl
  | 1, _ => rfl
open Dec in
theorem main (c : Cfg) (l : List Int) (off cap : Nat) (pk : Pk) (h key st : Int) (hr : c.Right) (hlen : (l.length : Int) = c.len) (hwf : WfW l) (hh : Wd h) :
    CallC Tryz.prog fid (A c l off cap pk h key st) (plHp l off pk) (.bool true) (plHp l off pk) := by
  have m0 : (newM c l).ok := newM_ok hlen
  have g0 : wrGood (wrOf c h key) (newM c l) := ⟨m0, hwf, wrOf_good c hh key⟩
  have g1 : wrGood (R1 c l h key).2.1 (R1 c l h key).2.2 := wrRun_good 300 0 _ _ g0
  have g0' : wrGood (wrOf c h key) (R1 c l h key).2.2 := ⟨g1.1, g1.2.1, wrOf_good c hh key⟩
  have g2 : wrGood (R2 c l h key).2.1 (R2 c l h key).2.2 := wrRun_good 300 0 _ _ g0'
  obtain ⟨a1, a2, a3, a4, a5⟩ := wr_run hr (m := newM c l) rfl m0 h key (N := 300) (by omega) 0
  obtain ⟨b1, b2, b3, b4, b5⟩ := wr_run hr (m := (R1 c l h key).2.2) a2 a3 h key (N := 300) (by omega) 0
  have b4' : (R2 c l h key).2.1.no = (wrWant c (wrWant c l h key).1 h key).2 := by rw [← show (R1 c l h key).2.2.w = (wrWant c l h key).1 from a5]; exact b4
  have b5' : (R2 c l h key).2.2.w = (wrWant c (wrWant c l h key).1 h key).1 := by rw [← show (R1 c l h key).2.2.w = (wrWant c l h key).1 from a5]; exact b5
  obtain ⟨w1, w2⟩ := wwant_twice hr hlen hwf h key
  have hsame : same c l h key = true := by
    unfold same
    rw [g2.1.1, g1.1.1, List.take_length, List.take_length, b5', w1, ← show (R1 c l h key).2.2.w = (wrWant c l h key).1 from a5]
    exact beq_self_eq_true _
  have heq : (((R1 c l h key).2.1.no == 0) == ((R2 c l h key).2.1.no == 0)) = true := by
    rw [show (R1 c l h key).2.1.no = (wrWant c l h key).2 from a4, b4']
    by_cases hz : (wrWant c l h key).2 = 0
    · rw [hz, w2.1 hz]; rfl
    · rw [beq_false_of_ne hz, beq_false_of_ne fun x => hz (w2.2 x)]; rfl
  have := CallC.of_call Ev4ook (p_ok c l off cap pk h key st) (pcs_of ⟨⟨hr, hlen, rfl, rfl⟩, isNewW_ok c hh key, isNewW_ok c hh key, wrP_ok _ _, qRunW_ok 300 (by decide) g0, g1.1, wrP_ok _ _, qRunW_ok 300 (by decide) g0', wrP_ok _ _, qAskW_ok g2.2.2, b1, wrP_ok _ _, qAskW_ok g1.2.2, wrP_ok _ _, qAskW_ok g2.2.2, heq, g2.1, rfl, rfl, Nat.le_of_eq g2.1.1, Nat.le_of_eq g1.1.1, by have e1 := Cfg.len_in hr; have e2 := g2.1.1; have e3 := g2.1.2; rw [show (R2 c l h key).2.2.c = c from b2] at e3; omega, trivial⟩) rfl z2L
  rw [hsame] at this
  exact this
theorem walk (c : Cfg) (v : Value) (l : List Int) (zs : List Int) (sv : Value) (rows : List (List Int)) (w : World) (hl : RowIn .u64 w v l) (hz : zs.length = 3) (hk : ∀ i, i < 3 → (Lit.int (([.u64, .i64, .i64] : List IntKind).getD i .i64) (zs.getD i 0)).wf = true) (hs : RowR pkK w sv rows) :
    Calls Tryz.prog fid #[c.v, v, .agg ⟨rowV [.u64, .i64, .i64] zs ++ [sv]⟩] w fun e w1 => e = .returned (.bool true) ∧ Below w.heap.size w w1 := by
  obtain ⟨h, key, st, rfl⟩ : ∃ a b d, zs = [a, b, d] := by
    match zs, hz with
    | [a, b, d], _ => exact ⟨a, b, d, rfl⟩
  have hh : Wd h := bounds_u64 (hk 0 (by decide))
  exact law_play2 (E' := Ev4o) Ev4ok rfl hl hs (fun hr hlen off cap pk _ => ⟨_, main c l off cap pk h key st hr hlen (row_wf hl) hh⟩)
    (fun hr a m cap pk => ⟨_, _, p_nr c cap pk h key st a m, pcs_of ⟨by simp [rightB, hr], isNewW_ok c hh key, isNewW_ok c hh key, trivial⟩⟩)
    (fun hr a m cap pk hlen => ⟨_, _, p_nl c cap pk h key st a m, pcs_of ⟨by simp [rightB, hr], hr, by simpa using hlen, isNewW_ok c hh key, isNewW_ok c hh key, trivial⟩⟩)
end Go.Proofs.YtocfhiafegkfkaaGreat.WriteTwiceDone
