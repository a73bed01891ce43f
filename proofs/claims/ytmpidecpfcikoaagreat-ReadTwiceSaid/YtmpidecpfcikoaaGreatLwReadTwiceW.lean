/- What 'ReadTwice' comes to, of any input. -/
import Derived.Test.YtmpidecpfcikoaaGreatCtReadT
import Derived.Test.YtmpidecpfcikoaaGreatCtAl12
namespace Go.Proofs.YtmpidecpfcikoaaGreat.ReadTwiceDone
open Go Go.Proofs Go.Proofs.YtmpidecpfcikoaaGreat.Ev Go.Proofs.YtmpidecpfcikoaaGreat.Ct
open Go.RowKit

noncomputable abbrev fn : Func := Tryz.f4
abbrev fid : FuncId := 4
def args (c : Cfg) (a : Option Addr) (n cap : Nat) (h key st : Int) (sv : Value) : List Value := [c.v, .slice a n cap, .agg ⟨rowV [.u64, .i64, .i64] [h, key, st] ++ [sv]⟩]
abbrev A (c : Cfg) (l : List Int) (off cap : Nat) (pk : Pk) (h key st : Int) : List Value := args c (some ⟨0, off, none⟩) l.length cap h key st (pk.sv 1)
abbrev R1 (c : Cfg) (l : List Int) (h key : Int) : Nat × Rd × Mm := rdRun 300 0 (rdOf c h key) (newM c l)
abbrev R2 (c : Cfg) (l : List Int) (h key : Int) : Nat × Rd × Mm := rdRun 300 0 (rdOf c h key) (R1 c l h key).2.2
def same (c : Cfg) (l : List Int) (h key : Int) : Bool := (R2 c l h key).2.2.w.take (R2 c l h key).2.2.N == (R1 c l h key).2.2.w.take (R1 c l h key).2.2.N
def q0 (c : Cfg) (l : List Int) (off : Nat) (h key : Int) : List Prop := [c.Right ∧ (l.length : Int) = c.len ∧ l.length = l.length ∧ off = off, isNew c h key, isNew c h key, rdP (rng 9 13) (rdOf c h key), qRun 300 (rdOf c h key) (newM c l), (R1 c l h key).2.2.ok, rdP (rng 22 13) (rdOf c h key), qRun 300 (rdOf c h key) (R1 c l h key).2.2]
def qS (c : Cfg) (l : List Int) (h key : Int) : List Prop := [(R2 c l h key).2.2.ok, (0 : Nat) = 0, (0 : Nat) = 0, (R2 c l h key).2.2.N ≤ (R2 c l h key).2.2.w.length, (R1 c l h key).2.2.N ≤ (R1 c l h key).2.2.w.length, (R2 c l h key).2.2.N ≤ 9223372036854775806]
open Dec in
section
variable (c : Cfg) (l : List Int) (off cap : Nat) (pk : Pk) (h key st : Int)
theorem p_ok : callR Er4o 20 fid (A c l off cap pk h key st) (plHp l off pk) [Dec.l, Dec.l, Dec.l, t, Dec.l, t, Dec.l, Dec.l, Dec.l] [0, 1] = some (.bool (same c l h key), plHp l off pk, q0 c l off h key ++ [rdP (9 :: rng 35 12) (R1 c l h key).2.1, qAsk (R1 c l h key).2.1, ((R1 c l h key).2.1.no == 0) = true, rdP (22 :: rng 48 12) (R2 c l h key).2.1, qAsk (R2 c l h key).2.1, ((R2 c l h key).2.1.no == 0) = true] ++ qS c l h key) := by cases pk <;> kernel_rfl
theorem p_no : callR Er4o 20 fid (A c l off cap pk h key st) (plHp l off pk) [Dec.l, Dec.l, Dec.l, f, Dec.l, t, t, Dec.l, Dec.l] [0, 1] = some (.bool (same c l h key), plHp l off pk, q0 c l off h key ++ [rdP (9 :: rng 35 12) (R1 c l h key).2.1, qAsk (R1 c l h key).2.1, ((R1 c l h key).2.1.no == 0) = false, rdP (22 :: rng 48 12) (R2 c l h key).2.1, qAsk (R2 c l h key).2.1, (R2 c l h key).2.1.dn = true, rdP (22 :: rng 48 12) (R2 c l h key).2.1, qAsk (R2 c l h key).2.1, ((R2 c l h key).2.1.no != 0) = true] ++ qS c l h key) := by cases pk <;> kernel_rfl
theorem p_nr (a : Option Addr) (n : Nat) : told (doCall Er4 20 fid (args c a n cap h key st (pk.sv 1)) ⟨[], 2, []⟩ (t :: List.replicate 16 Dec.l)) = some (.bool true, [(!rightB c) = true, isNew c h key, isNew c h key]) := by cases pk <;> kernel_rfl
theorem p_nl (a : Option Addr) (n : Nat) : told (doCall Er4 20 fid (args c a n cap h key st (pk.sv 1)) ⟨[], 2, []⟩ (f :: t :: List.replicate 16 Dec.l)) = some (.bool true, [(!rightB c) = false, c.Right, ((n : Int) != c.len) = true, isNew c h key, isNew c h key]) := by cases pk <;> kernel_rfl
end
theorem z2L : ∀ k, k < 2 → ([0, 1] : List Nat).getD k 0 = k := fun k hk => by
  match k, hk with
  | 0, _ => rfl
  | 1, _ => rfl
open Dec in
theorem main (c : Cfg) (l : List Int) (off cap : Nat) (pk : Pk) (h key st : Int) (hr : c.Right) (hlen : (l.length : Int) = c.len) (hwf : WfW l) (hh : Wd h) :
    CallC Tryz.prog fid (A c l off cap pk h key st) (plHp l off pk) (.bool true) (plHp l off pk) := by
  have m0 : (newM c l).ok := newM_ok hlen
  have g0 : rdGood (rdOf c h key) (newM c l) := ⟨m0, hwf, rdOf_good c hh key⟩
  have g1 : rdGood (R1 c l h key).2.1 (R1 c l h key).2.2 := rdRun_good 300 0 _ _ g0
  have g0' : rdGood (rdOf c h key) (R1 c l h key).2.2 := ⟨g1.1, g1.2.1, rdOf_good c hh key⟩
  have g2 : rdGood (R2 c l h key).2.1 (R2 c l h key).2.2 := rdRun_good 300 0 _ _ g0'
  obtain ⟨a1, a2, a3, a4, a5⟩ := rd_run hr (m := newM c l) rfl m0 h key (N := 300) (by omega) 0
  obtain ⟨b1, b2, b3, b4, b5⟩ := rd_run hr (m := (R1 c l h key).2.2) a2 a3 h key (N := 300) (by omega) 0
  have b4' : (R2 c l h key).2.1.no = (rdWant c (rdWant c l h key).1 h key).2 := by rw [← show (R1 c l h key).2.2.w = (rdWant c l h key).1 from a5]; exact b4
  have b5' : (R2 c l h key).2.2.w = (rdWant c (rdWant c l h key).1 h key).1 := by rw [← show (R1 c l h key).2.2.w = (rdWant c l h key).1 from a5]; exact b5
  obtain ⟨w1, w2⟩ := want_twice hr hlen hwf h key
  have hsame : same c l h key = true := by
    unfold same
    rw [g2.1.1, g1.1.1, List.take_length, List.take_length, b5', w1, ← show (R1 c l h key).2.2.w = (rdWant c l h key).1 from a5]
    exact beq_self_eq_true _
  have hq0 : ∀ p ∈ q0 c l off h key, p := pcs_of ⟨⟨hr, hlen, rfl, rfl⟩, isNew_ok c hh key, isNew_ok c hh key, rdP_ok _ _, qRun_ok 300 (by decide) g0, g1.1, rdP_ok _ _, qRun_ok 300 (by decide) g0', trivial⟩
  have hqS : ∀ p ∈ qS c l h key, p := pcs_of ⟨g2.1, rfl, rfl, Nat.le_of_eq g2.1.1, Nat.le_of_eq g1.1.1, by have e1 := Cfg.len_in hr; have e2 := g2.1.1; have e3 := g2.1.2; rw [show (R2 c l h key).2.2.c = c from b2] at e3; omega, trivial⟩
  by_cases hz : (R1 c l h key).2.1.no = 0
  · have hz2 : (R2 c l h key).2.1.no = 0 := by rw [b4']; exact w2.1 (a4.symm.trans hz)
    have := CallC.of_call Er4ook (p_ok c l off cap pk h key st) (pcs_app (pcs_app hq0 (pcs_of ⟨rdP_ok _ _, qAsk_ok g1.2.2, by rw [hz]; rfl, rdP_ok _ _, qAsk_ok g2.2.2, by rw [hz2]; rfl, trivial⟩)) hqS) rfl z2L
    rw [hsame] at this
    exact this
  · have hz2 : (R2 c l h key).2.1.no ≠ 0 := fun e => by rw [b4'] at e; exact hz (a4.trans (w2.2 e))
    have := CallC.of_call Er4ook (p_no c l off cap pk h key st) (pcs_app (pcs_app hq0 (pcs_of ⟨rdP_ok _ _, qAsk_ok g1.2.2, beq_false_of_ne hz, rdP_ok _ _, qAsk_ok g2.2.2, b1, rdP_ok _ _, qAsk_ok g2.2.2, bne_iff_ne.2 hz2, trivial⟩)) hqS) rfl z2L
    rw [hsame] at this
    exact this
theorem walk (c : Cfg) (v : Value) (l : List Int) (zs : List Int) (sv : Value) (rows : List (List Int)) (w : World) (hl : RowIn .u64 w v l) (hz : zs.length = 3) (hk : ∀ i, i < 3 → (Lit.int (([.u64, .i64, .i64] : List IntKind).getD i .i64) (zs.getD i 0)).wf = true) (hs : RowR pkK w sv rows) :
    Calls Tryz.prog fid #[c.v, v, .agg ⟨rowV [.u64, .i64, .i64] zs ++ [sv]⟩] w fun e w1 => e = .returned (.bool true) ∧ Below w.heap.size w w1 := by
  obtain ⟨h, key, st, rfl⟩ : ∃ a b d, zs = [a, b, d] := by
    match zs, hz with
    | [a, b, d], _ => exact ⟨a, b, d, rfl⟩
  have hh : Wd h := bounds_u64 (hk 0 (by decide))
  exact law_play2 (E' := Er4o) Er4ok rfl hl hs (fun hr hlen off cap pk _ => ⟨_, main c l off cap pk h key st hr hlen (row_wf hl) hh⟩)
    (fun hr a m cap pk => ⟨_, _, p_nr c cap pk h key st a m, pcs_of ⟨by simp [rightB, hr], isNew_ok c hh key, isNew_ok c hh key, trivial⟩⟩)
    (fun hr a m cap pk hlen => ⟨_, _, p_nl c cap pk h key st a m, pcs_of ⟨by simp [rightB, hr], hr, by simpa using hlen, isNew_ok c hh key, isNew_ok c hh key, trivial⟩⟩)
end Go.Proofs.YtmpidecpfcikoaaGreat.ReadTwiceDone
