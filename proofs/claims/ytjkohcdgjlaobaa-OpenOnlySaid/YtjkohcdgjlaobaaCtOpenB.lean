/- A beginning: the paths of its functions. -/
import Derived.Test.YtjkohcdgjlaobaaCtOpenA
namespace Go.Proofs.Ytjkohcdgjlaobaa.Ct
open Go Go.Proofs Go.Proofs.Ytjkohcdgjlaobaa.Ev
open Go.RowKit

def oldH : Nat → Int → Int → List (Nat × Blk)
  | 0, _, _ => []
  | k + 1, aw, av => [(2, .cells [hpStep (k + 1), .int .u64 aw, .int .u64 av, .int .u64 (seqB aw), .int .i64 (pendB aw)] hpT)]
def talG (slot s e h n aw av : Int) (ap : Nat) (m : Mm) : Hp := ⟨(0, .cells [opStep 3, .func (.func 58) ⟨[]⟩ ⟨[.pointer (some ⟨1, 0, none⟩)]⟩, .int .i64 slot, .int .u64 s, .int .u64 (seqB (vTl m)), .pointer (some ⟨5, 0, none⟩), .int .i64 e, .int .u64 h, .int .u64 n] opT) :: (1, .cells [.int .i64 slot] 3) :: (oldH ap aw av ++ [(3, .cells ((mLd m 1 0).cells 4) memT), (4, .ints .u64 (mLd m 1 0).w u64T), (5, .cells [hpStep 1, .int .u64 (vTl m), .int .u64 0, .int .u64 (seqB (vTl m)), .int .i64 (pendB (vTl m))] hpT)]), 6, []⟩
open Dec in
section
variable (slot s seq aw av e h n : Int) (m : Mm)
theorem o_look_f {ap : Nat} (hap : ap ≤ 5) : callR E46 12 opStepF (hidA 3 []) (hidHp opF 3 (Op.enc ⟨0, ap, slot, s, seq, aw, av, e, h, n⟩) m).xp [Dec.l, f, f] [0, 1, 2, 3, 4] = some (.tuple ⟨[]⟩, (hidHp opF 3 (Op.enc ⟨1, ap, slot, (vSt m slot), seq, aw, av, e, h, n⟩) (mLd m 4 slot)).xp, [m.ok, Wd (vSt m slot), (nuI (vSt m slot) 27 3 != 0) = false, decide (nuI (vSt m slot) 30 32 > m.c.g) = false]) := by
  obtain rfl | rfl | rfl | rfl | rfl | rfl : ap = 0 ∨ ap = 1 ∨ ap = 2 ∨ ap = 3 ∨ ap = 4 ∨ ap = 5 := by omega
  all_goals (clear hap; kernel_rfl)
theorem o_look_af {ap : Nat} (hap : ap ≤ 5) : callR E46 12 opStepF (hidA 3 []) (hidHp opF 3 (Op.enc ⟨0, ap, slot, s, seq, aw, av, e, h, n⟩) m).xp [Dec.l, t, Dec.l, f] [0, 1, 2, 3, 4] = some (.tuple ⟨[]⟩, (hidHp opF 3 (Op.enc ⟨0, ap, (w64 (slot + 1)), (vSt m slot), seq, aw, av, e, h, n⟩) (mLd m 4 slot)).xp, [m.ok, Wd (vSt m slot), (nuI (vSt m slot) 27 3 != 0) = true, decide (w64 (slot + 1) ≥ m.c.s) = false]) := by
  obtain rfl | rfl | rfl | rfl | rfl | rfl : ap = 0 ∨ ap = 1 ∨ ap = 2 ∨ ap = 3 ∨ ap = 4 ∨ ap = 5 := by omega
  all_goals (clear hap; kernel_rfl)
theorem o_look_bf {ap : Nat} (hap : ap ≤ 5) : callR E46 12 opStepF (hidA 3 []) (hidHp opF 3 (Op.enc ⟨0, ap, slot, s, seq, aw, av, e, h, n⟩) m).xp [Dec.l, f, t, f] [0, 1, 2, 3, 4] = some (.tuple ⟨[]⟩, (hidHp opF 3 (Op.enc ⟨0, ap, (w64 (slot + 1)), (vSt m slot), seq, aw, av, e, h, n⟩) (mLd m 4 slot)).xp, [m.ok, Wd (vSt m slot), (nuI (vSt m slot) 27 3 != 0) = false, decide (nuI (vSt m slot) 30 32 > m.c.g) = true, decide (w64 (slot + 1) ≥ m.c.s) = false]) := by
  obtain rfl | rfl | rfl | rfl | rfl | rfl : ap = 0 ∨ ap = 1 ∨ ap = 2 ∨ ap = 3 ∨ ap = 4 ∨ ap = 5 := by omega
  all_goals (clear hap; kernel_rfl)
theorem o_look_at {ap : Nat} (hap : ap ≤ 5) : callR E46 12 opStepF (hidA 3 []) (hidHp opF 3 (Op.enc ⟨0, ap, slot, s, seq, aw, av, e, h, n⟩) m).xp [Dec.l, t, Dec.l, t] [0, 1, 2, 3, 4] = some (.tuple ⟨[]⟩, (hidHp opF 3 (Op.enc ⟨6, ap, (w64 (slot + 1)), (vSt m slot), seq, aw, av, 6, h, n⟩) (mLd m 4 slot)).xp, [m.ok, Wd (vSt m slot), (nuI (vSt m slot) 27 3 != 0) = true, decide (w64 (slot + 1) ≥ m.c.s) = true]) := by
  obtain rfl | rfl | rfl | rfl | rfl | rfl : ap = 0 ∨ ap = 1 ∨ ap = 2 ∨ ap = 3 ∨ ap = 4 ∨ ap = 5 := by omega
  all_goals (clear hap; kernel_rfl)
theorem o_look_bt {ap : Nat} (hap : ap ≤ 5) : callR E46 12 opStepF (hidA 3 []) (hidHp opF 3 (Op.enc ⟨0, ap, slot, s, seq, aw, av, e, h, n⟩) m).xp [Dec.l, f, t, t] [0, 1, 2, 3, 4] = some (.tuple ⟨[]⟩, (hidHp opF 3 (Op.enc ⟨6, ap, (w64 (slot + 1)), (vSt m slot), seq, aw, av, 6, h, n⟩) (mLd m 4 slot)).xp, [m.ok, Wd (vSt m slot), (nuI (vSt m slot) 27 3 != 0) = false, decide (nuI (vSt m slot) 30 32 > m.c.g) = true, decide (w64 (slot + 1) ≥ m.c.s) = true]) := by
  obtain rfl | rfl | rfl | rfl | rfl | rfl : ap = 0 ∨ ap = 1 ∨ ap = 2 ∨ ap = 3 ∨ ap = 4 ∨ ap = 5 := by omega
  all_goals (clear hap; kernel_rfl)
theorem o_take {ap : Nat} (hap : ap ≤ 5) : callR E46 12 opStepF (hidA 3 []) (hidHp opF 3 (Op.enc ⟨1, ap, slot, s, seq, aw, av, e, h, n⟩) m).xp [Dec.l, f] [0, 1, 2, 3, 4] = some (.tuple ⟨[]⟩, (hidHp opF 3 (Op.enc ⟨2, ap, slot, s, seq, aw, av, e, h, n⟩) (mSw m 4 slot s (mvI s 1 false))).xp, [Wd s, m.ok, (!dnS m 4 slot s) = false]) := by
  obtain rfl | rfl | rfl | rfl | rfl | rfl : ap = 0 ∨ ap = 1 ∨ ap = 2 ∨ ap = 3 ∨ ap = 4 ∨ ap = 5 := by omega
  all_goals (clear hap; kernel_rfl)
theorem o_take_f {ap : Nat} (hap : ap ≤ 5) : callR E46 12 opStepF (hidA 3 []) (hidHp opF 3 (Op.enc ⟨1, ap, slot, s, seq, aw, av, e, h, n⟩) m).xp [Dec.l, t, f] [0, 1, 2, 3, 4] = some (.tuple ⟨[]⟩, (hidHp opF 3 (Op.enc ⟨0, ap, (w64 (slot + 1)), s, seq, aw, av, e, h, n⟩) (mSw m 4 slot s (mvI s 1 false))).xp, [Wd s, m.ok, (!dnS m 4 slot s) = true, decide (w64 (slot + 1) ≥ m.c.s) = false]) := by
  obtain rfl | rfl | rfl | rfl | rfl | rfl : ap = 0 ∨ ap = 1 ∨ ap = 2 ∨ ap = 3 ∨ ap = 4 ∨ ap = 5 := by omega
  all_goals (clear hap; kernel_rfl)
theorem o_take_t {ap : Nat} (hap : ap ≤ 5) : callR E46 12 opStepF (hidA 3 []) (hidHp opF 3 (Op.enc ⟨1, ap, slot, s, seq, aw, av, e, h, n⟩) m).xp [Dec.l, t, t] [0, 1, 2, 3, 4] = some (.tuple ⟨[]⟩, (hidHp opF 3 (Op.enc ⟨6, ap, (w64 (slot + 1)), s, seq, aw, av, 6, h, n⟩) (mSw m 4 slot s (mvI s 1 false))).xp, [Wd s, m.ok, (!dnS m 4 slot s) = true, decide (w64 (slot + 1) ≥ m.c.s) = true]) := by
  obtain rfl | rfl | rfl | rfl | rfl | rfl : ap = 0 ∨ ap = 1 ∨ ap = 2 ∨ ap = 3 ∨ ap = 4 ∨ ap = 5 := by omega
  all_goals (clear hap; kernel_rfl)
theorem o_tal_f {ap : Nat} (hap : ap ≤ 5) : callR E46 12 opStepF (hidA 3 []) (hidHp opF 3 (Op.enc ⟨2, ap, slot, s, seq, aw, av, e, h, n⟩) m).xp [Dec.l, f] [0, 1, 2, 3, 4] = some (.tuple ⟨[]⟩, (hidHp opF 3 (Op.enc ⟨4, ap, slot, s, (seqB (vTl m)), aw, av, e, h, n⟩) (mLd m 1 0)).xp, [m.ok, decide (pendB (vTl m) ≥ 0) = false]) := by
  obtain rfl | rfl | rfl | rfl | rfl | rfl : ap = 0 ∨ ap = 1 ∨ ap = 2 ∨ ap = 3 ∨ ap = 4 ∨ ap = 5 := by omega
  all_goals (clear hap; kernel_rfl)
theorem o_h1 : callR E46 12 opStepF (hidA 3 []) (hidHp opF 3 (Op.enc ⟨3, 1, slot, s, seq, aw, av, e, h, n⟩) m).xp [Dec.l, Dec.l, Dec.l] [0, 1, 2, 3, 4] = some (.tuple ⟨[]⟩, (hidHp opF 3 (Op.enc ⟨3, 2, slot, s, seq, aw, av, e, h, n⟩) (mSw m 6 (pendB aw) 0 (seqB aw))).xp, [m.ok]) := by kernel_rfl
theorem o_h2f : callR E46 12 opStepF (hidA 3 []) (hidHp opF 3 (Op.enc ⟨3, 2, slot, s, seq, aw, av, e, h, n⟩) m).xp [Dec.l, Dec.l, f, Dec.l] [0, 1, 2, 3, 4] = some (.tuple ⟨[]⟩, (hidHp opF 3 (Op.enc ⟨3, 4, slot, s, seq, aw, (vSt m (pendB aw)), e, h, n⟩) (mLd m 4 (pendB aw))).xp, [m.ok, Wd (vSt m (pendB aw)), (nuI (vSt m (pendB aw)) 27 3 == 3) = false]) := by kernel_rfl
theorem o_h3f : callR E46 12 opStepF (hidA 3 []) (hidHp opF 3 (Op.enc ⟨3, 3, slot, s, seq, aw, av, e, h, n⟩) m).xp [Dec.l, Dec.l, f, Dec.l] [0, 1, 2, 3, 4] = some (.tuple ⟨[]⟩, (hidHp opF 3 (Op.enc ⟨3, 2, slot, s, seq, aw, av, e, h, n⟩) (mSw m 4 (pendB aw) av (mvI av 4 (bitI av 26)))).xp, [Wd av, Wd av, m.ok, dnS m 4 (pendB aw) av = false]) := by kernel_rfl
theorem o_h2t : callR E46 12 opStepF (hidA 3 []) (hidHp opF 3 (Op.enc ⟨3, 2, slot, s, seq, aw, av, e, h, n⟩) m).xp [Dec.l, Dec.l, t, Dec.l] [0, 1, 2, 3, 4] = some (.tuple ⟨[]⟩, (hidHp opF 3 (Op.enc ⟨3, 3, slot, s, seq, aw, (vSt m (pendB aw)), e, h, n⟩) (mLd m 4 (pendB aw))).xp, [m.ok, Wd (vSt m (pendB aw)), (nuI (vSt m (pendB aw)) 27 3 == 3) = true]) := by kernel_rfl
theorem o_h3t : callR E46 12 opStepF (hidA 3 []) (hidHp opF 3 (Op.enc ⟨3, 3, slot, s, seq, aw, av, e, h, n⟩) m).xp [Dec.l, Dec.l, t, Dec.l] [0, 1, 2, 3, 4] = some (.tuple ⟨[]⟩, (hidHp opF 3 (Op.enc ⟨3, 4, slot, s, seq, aw, av, e, h, n⟩) (mSw m 4 (pendB aw) av (mvI av 4 (bitI av 26)))).xp, [Wd av, Wd av, m.ok, dnS m 4 (pendB aw) av = true]) := by kernel_rfl
theorem o_h4 : callR E46 12 opStepF (hidA 3 []) (hidHp opF 3 (Op.enc ⟨3, 4, slot, s, seq, aw, av, e, h, n⟩) m).xp [Dec.l, Dec.l, Dec.l] [0, 1, 2, 3, 4] = some (.tuple ⟨[]⟩, (hidHp opF 3 (Op.enc ⟨2, 5, slot, s, seq, aw, av, e, h, n⟩) (mSw m 1 0 aw (setB aw))).xp, [m.ok]) := by kernel_rfl
theorem o_note {ap : Nat} (hap : ap ≤ 5) : callR E46 12 opStepF (hidA 3 []) (hidHp opF 3 (Op.enc ⟨4, ap, slot, s, seq, aw, av, e, h, n⟩) m).xp [Dec.l] [0, 1, 2, 3, 4] = some (.tuple ⟨[]⟩, (hidHp opF 3 (Op.enc ⟨5, ap, slot, s, seq, aw, av, e, h, n⟩) (mSt m 5 slot seq)).xp, [m.ok]) := by
  obtain rfl | rfl | rfl | rfl | rfl | rfl : ap = 0 ∨ ap = 1 ∨ ap = 2 ∨ ap = 3 ∨ ap = 4 ∨ ap = 5 := by omega
  all_goals (clear hap; kernel_rfl)
theorem o_start {ap : Nat} (hap : ap ≤ 5) : callR E46 12 opStepF (hidA 3 []) (hidHp opF 3 (Op.enc ⟨5, ap, slot, s, seq, aw, av, e, h, n⟩) m).xp [Dec.l] [0, 1, 2, 3, 4] = some (.tuple ⟨[]⟩, (hidHp opF 3 (Op.enc ⟨7, ap, slot, s, seq, aw, av, 0, (mkT slot (nuI s 30 32)), seq⟩) (mSt m 4 slot (mvI s 2 false))).xp, [Wd s, m.ok, Wd s]) := by
  obtain rfl | rfl | rfl | rfl | rfl | rfl : ap = 0 ∨ ap = 1 ∨ ap = 2 ∨ ap = 3 ∨ ap = 4 ∨ ap = 5 := by omega
  all_goals (clear hap; kernel_rfl)
theorem o_fin6 {ap : Nat} (hap : ap ≤ 5) : callR E46 12 opStepF (hidA 3 []) (hidHp opF 3 (Op.enc ⟨6, ap, slot, s, seq, aw, av, e, h, n⟩) m).xp [Dec.l] [0, 1, 2, 3, 4] = some (.tuple ⟨[]⟩, (hidHp opF 3 (Op.enc ⟨6, ap, slot, s, seq, aw, av, e, h, n⟩) m).xp, []) := by
  obtain rfl | rfl | rfl | rfl | rfl | rfl : ap = 0 ∨ ap = 1 ∨ ap = 2 ∨ ap = 3 ∨ ap = 4 ∨ ap = 5 := by omega
  all_goals (clear hap; kernel_rfl)
theorem o_fin7 {ap : Nat} (hap : ap ≤ 5) : callR E46 12 opStepF (hidA 3 []) (hidHp opF 3 (Op.enc ⟨7, ap, slot, s, seq, aw, av, e, h, n⟩) m).xp [Dec.l] [0, 1, 2, 3, 4] = some (.tuple ⟨[]⟩, (hidHp opF 3 (Op.enc ⟨7, ap, slot, s, seq, aw, av, e, h, n⟩) m).xp, []) := by
  obtain rfl | rfl | rfl | rfl | rfl | rfl : ap = 0 ∨ ap = 1 ∨ ap = 2 ∨ ap = 3 ∨ ap = 4 ∨ ap = 5 := by omega
  all_goals (clear hap; kernel_rfl)
theorem o_dn0 {ap : Nat} (hap : ap ≤ 5) : callR E46 12 18 [pt0] (hidHp0 opF 3 (Op.enc ⟨0, ap, slot, s, seq, aw, av, e, h, n⟩)).xp [] [0, 1, 2] = some (.bool false, (hidHp0 opF 3 (Op.enc ⟨0, ap, slot, s, seq, aw, av, e, h, n⟩)).xp, []) := by
  obtain rfl | rfl | rfl | rfl | rfl | rfl : ap = 0 ∨ ap = 1 ∨ ap = 2 ∨ ap = 3 ∨ ap = 4 ∨ ap = 5 := by omega
  all_goals (clear hap; kernel_rfl)
theorem o_dn1 {ap : Nat} (hap : ap ≤ 5) : callR E46 12 18 [pt0] (hidHp0 opF 3 (Op.enc ⟨1, ap, slot, s, seq, aw, av, e, h, n⟩)).xp [] [0, 1, 2] = some (.bool false, (hidHp0 opF 3 (Op.enc ⟨1, ap, slot, s, seq, aw, av, e, h, n⟩)).xp, []) := by
  obtain rfl | rfl | rfl | rfl | rfl | rfl : ap = 0 ∨ ap = 1 ∨ ap = 2 ∨ ap = 3 ∨ ap = 4 ∨ ap = 5 := by omega
  all_goals (clear hap; kernel_rfl)
theorem o_dn2 {ap : Nat} (hap : ap ≤ 5) : callR E46 12 18 [pt0] (hidHp0 opF 3 (Op.enc ⟨2, ap, slot, s, seq, aw, av, e, h, n⟩)).xp [] [0, 1, 2] = some (.bool false, (hidHp0 opF 3 (Op.enc ⟨2, ap, slot, s, seq, aw, av, e, h, n⟩)).xp, []) := by
  obtain rfl | rfl | rfl | rfl | rfl | rfl : ap = 0 ∨ ap = 1 ∨ ap = 2 ∨ ap = 3 ∨ ap = 4 ∨ ap = 5 := by omega
  all_goals (clear hap; kernel_rfl)
theorem o_dn3 {ap : Nat} (hap : ap ≤ 5) : callR E46 12 18 [pt0] (hidHp0 opF 3 (Op.enc ⟨3, ap, slot, s, seq, aw, av, e, h, n⟩)).xp [] [0, 1, 2] = some (.bool false, (hidHp0 opF 3 (Op.enc ⟨3, ap, slot, s, seq, aw, av, e, h, n⟩)).xp, []) := by
  obtain rfl | rfl | rfl | rfl | rfl | rfl : ap = 0 ∨ ap = 1 ∨ ap = 2 ∨ ap = 3 ∨ ap = 4 ∨ ap = 5 := by omega
  all_goals (clear hap; kernel_rfl)
theorem o_dn4 {ap : Nat} (hap : ap ≤ 5) : callR E46 12 18 [pt0] (hidHp0 opF 3 (Op.enc ⟨4, ap, slot, s, seq, aw, av, e, h, n⟩)).xp [] [0, 1, 2] = some (.bool false, (hidHp0 opF 3 (Op.enc ⟨4, ap, slot, s, seq, aw, av, e, h, n⟩)).xp, []) := by
  obtain rfl | rfl | rfl | rfl | rfl | rfl : ap = 0 ∨ ap = 1 ∨ ap = 2 ∨ ap = 3 ∨ ap = 4 ∨ ap = 5 := by omega
  all_goals (clear hap; kernel_rfl)
theorem o_dn5 {ap : Nat} (hap : ap ≤ 5) : callR E46 12 18 [pt0] (hidHp0 opF 3 (Op.enc ⟨5, ap, slot, s, seq, aw, av, e, h, n⟩)).xp [] [0, 1, 2] = some (.bool false, (hidHp0 opF 3 (Op.enc ⟨5, ap, slot, s, seq, aw, av, e, h, n⟩)).xp, []) := by
  obtain rfl | rfl | rfl | rfl | rfl | rfl : ap = 0 ∨ ap = 1 ∨ ap = 2 ∨ ap = 3 ∨ ap = 4 ∨ ap = 5 := by omega
  all_goals (clear hap; kernel_rfl)
theorem o_dn6 {ap : Nat} (hap : ap ≤ 5) : callR E46 12 18 [pt0] (hidHp0 opF 3 (Op.enc ⟨6, ap, slot, s, seq, aw, av, e, h, n⟩)).xp [] [0, 1, 2] = some (.bool true, (hidHp0 opF 3 (Op.enc ⟨6, ap, slot, s, seq, aw, av, e, h, n⟩)).xp, []) := by
  obtain rfl | rfl | rfl | rfl | rfl | rfl : ap = 0 ∨ ap = 1 ∨ ap = 2 ∨ ap = 3 ∨ ap = 4 ∨ ap = 5 := by omega
  all_goals (clear hap; kernel_rfl)
theorem o_dn7 {ap : Nat} (hap : ap ≤ 5) : callR E46 12 18 [pt0] (hidHp0 opF 3 (Op.enc ⟨7, ap, slot, s, seq, aw, av, e, h, n⟩)).xp [] [0, 1, 2] = some (.bool true, (hidHp0 opF 3 (Op.enc ⟨7, ap, slot, s, seq, aw, av, e, h, n⟩)).xp, []) := by
  obtain rfl | rfl | rfl | rfl | rfl | rfl : ap = 0 ∨ ap = 1 ∨ ap = 2 ∨ ap = 3 ∨ ap = 4 ∨ ap = 5 := by omega
  all_goals (clear hap; kernel_rfl)
theorem o_an0 {ap : Nat} (hap : ap ≤ 5) : callR E46 12 19 [pt0] (hidHp0 opF 3 (Op.enc ⟨0, ap, slot, s, seq, aw, av, e, h, n⟩)).xp [] [0, 1, 2] = some (.agg ⟨[.int .i64 e, .int .u64 h, .int .u64 n]⟩, (hidHp0 opF 3 (Op.enc ⟨0, ap, slot, s, seq, aw, av, e, h, n⟩)).xp, []) := by
  obtain rfl | rfl | rfl | rfl | rfl | rfl : ap = 0 ∨ ap = 1 ∨ ap = 2 ∨ ap = 3 ∨ ap = 4 ∨ ap = 5 := by omega
  all_goals (clear hap; kernel_rfl)
theorem o_an1 {ap : Nat} (hap : ap ≤ 5) : callR E46 12 19 [pt0] (hidHp0 opF 3 (Op.enc ⟨1, ap, slot, s, seq, aw, av, e, h, n⟩)).xp [] [0, 1, 2] = some (.agg ⟨[.int .i64 e, .int .u64 h, .int .u64 n]⟩, (hidHp0 opF 3 (Op.enc ⟨1, ap, slot, s, seq, aw, av, e, h, n⟩)).xp, []) := by
  obtain rfl | rfl | rfl | rfl | rfl | rfl : ap = 0 ∨ ap = 1 ∨ ap = 2 ∨ ap = 3 ∨ ap = 4 ∨ ap = 5 := by omega
  all_goals (clear hap; kernel_rfl)
theorem o_an2 {ap : Nat} (hap : ap ≤ 5) : callR E46 12 19 [pt0] (hidHp0 opF 3 (Op.enc ⟨2, ap, slot, s, seq, aw, av, e, h, n⟩)).xp [] [0, 1, 2] = some (.agg ⟨[.int .i64 e, .int .u64 h, .int .u64 n]⟩, (hidHp0 opF 3 (Op.enc ⟨2, ap, slot, s, seq, aw, av, e, h, n⟩)).xp, []) := by
  obtain rfl | rfl | rfl | rfl | rfl | rfl : ap = 0 ∨ ap = 1 ∨ ap = 2 ∨ ap = 3 ∨ ap = 4 ∨ ap = 5 := by omega
  all_goals (clear hap; kernel_rfl)
theorem o_an3 {ap : Nat} (hap : ap ≤ 5) : callR E46 12 19 [pt0] (hidHp0 opF 3 (Op.enc ⟨3, ap, slot, s, seq, aw, av, e, h, n⟩)).xp [] [0, 1, 2] = some (.agg ⟨[.int .i64 e, .int .u64 h, .int .u64 n]⟩, (hidHp0 opF 3 (Op.enc ⟨3, ap, slot, s, seq, aw, av, e, h, n⟩)).xp, []) := by
  obtain rfl | rfl | rfl | rfl | rfl | rfl : ap = 0 ∨ ap = 1 ∨ ap = 2 ∨ ap = 3 ∨ ap = 4 ∨ ap = 5 := by omega
  all_goals (clear hap; kernel_rfl)
theorem o_an4 {ap : Nat} (hap : ap ≤ 5) : callR E46 12 19 [pt0] (hidHp0 opF 3 (Op.enc ⟨4, ap, slot, s, seq, aw, av, e, h, n⟩)).xp [] [0, 1, 2] = some (.agg ⟨[.int .i64 e, .int .u64 h, .int .u64 n]⟩, (hidHp0 opF 3 (Op.enc ⟨4, ap, slot, s, seq, aw, av, e, h, n⟩)).xp, []) := by
  obtain rfl | rfl | rfl | rfl | rfl | rfl : ap = 0 ∨ ap = 1 ∨ ap = 2 ∨ ap = 3 ∨ ap = 4 ∨ ap = 5 := by omega
  all_goals (clear hap; kernel_rfl)
theorem o_an5 {ap : Nat} (hap : ap ≤ 5) : callR E46 12 19 [pt0] (hidHp0 opF 3 (Op.enc ⟨5, ap, slot, s, seq, aw, av, e, h, n⟩)).xp [] [0, 1, 2] = some (.agg ⟨[.int .i64 e, .int .u64 h, .int .u64 n]⟩, (hidHp0 opF 3 (Op.enc ⟨5, ap, slot, s, seq, aw, av, e, h, n⟩)).xp, []) := by
  obtain rfl | rfl | rfl | rfl | rfl | rfl : ap = 0 ∨ ap = 1 ∨ ap = 2 ∨ ap = 3 ∨ ap = 4 ∨ ap = 5 := by omega
  all_goals (clear hap; kernel_rfl)
theorem o_an6 {ap : Nat} (hap : ap ≤ 5) : callR E46 12 19 [pt0] (hidHp0 opF 3 (Op.enc ⟨6, ap, slot, s, seq, aw, av, e, h, n⟩)).xp [] [0, 1, 2] = some (.agg ⟨[.int .i64 e, .int .u64 h, .int .u64 n]⟩, (hidHp0 opF 3 (Op.enc ⟨6, ap, slot, s, seq, aw, av, e, h, n⟩)).xp, []) := by
  obtain rfl | rfl | rfl | rfl | rfl | rfl : ap = 0 ∨ ap = 1 ∨ ap = 2 ∨ ap = 3 ∨ ap = 4 ∨ ap = 5 := by omega
  all_goals (clear hap; kernel_rfl)
theorem o_an7 {ap : Nat} (hap : ap ≤ 5) : callR E46 12 19 [pt0] (hidHp0 opF 3 (Op.enc ⟨7, ap, slot, s, seq, aw, av, e, h, n⟩)).xp [] [0, 1, 2] = some (.agg ⟨[.int .i64 e, .int .u64 h, .int .u64 n]⟩, (hidHp0 opF 3 (Op.enc ⟨7, ap, slot, s, seq, aw, av, e, h, n⟩)).xp, []) := by
  obtain rfl | rfl | rfl | rfl | rfl | rfl : ap = 0 ∨ ap = 1 ∨ ap = 2 ∨ ap = 3 ∨ ap = 4 ∨ ap = 5 := by omega
  all_goals (clear hap; kernel_rfl)
theorem o_tal_t {ap : Nat} (hap : ap ≤ 5) : callR E46 12 opStepF (hidA 3 []) (hidHp opF 3 (Op.enc ⟨2, ap, slot, s, seq, aw, av, e, h, n⟩) m).xp [Dec.l, t, t] [0, 1, 2, 3, 4, 6] = some (.tuple ⟨[]⟩, talG slot s e h n aw av ap m, [m.ok, decide (pendB (vTl m) ≥ 0) = true, decide (pendB (vTl m) ≥ 0) = true]) := by
  obtain rfl | rfl | rfl | rfl | rfl | rfl : ap = 0 ∨ ap = 1 ∨ ap = 2 ∨ ap = 3 ∨ ap = 4 ∨ ap = 5 := by omega
  all_goals (clear hap; kernel_rfl)
end
def op0 : Op := ⟨0, 0, 0, 0, 0, 0, 0, 0, 0, 0⟩
theorem o_new : callR E46 12 11 [] ⟨[], 0, []⟩ [] [1, 0, 77] = some (pt0, (hidHp0 opF 3 op0.enc).xp, []) := by kernel_rfl
end Go.Proofs.Ytjkohcdgjlaobaa.Ct
