/- The document's words of a status, and of the Tally, are the program's. -/
import Derived.Test.YtjkohcdgjlaobaaCtGraced
namespace Go.Proofs.Ytjkohcdgjlaobaa.Ct
open Go Go.Proofs Go.Proofs.Ytjkohcdgjlaobaa.Ev
open Go.RowKit

/-- What is pending, of a word of the Tally, as the program takes it. -/
def pendB (w : Int) : Int := w64 (w64 (u64 ((BitVec.ofInt 64 w &&& BitVec.ofInt 64 15).toNat : Int)) - 1)
theorem and15 {w : Int} (h0 : 0 ≤ w) (h1 : w ≤ 18446744073709551615) : (((BitVec.ofInt 64 w &&& BitVec.ofInt 64 15).toNat : Nat) : Int) = w % 16 := by
  rw [BitVec.toNat_and, BitVec.toNat_ofInt, BitVec.toNat_ofInt]
  have e1 : (w % ((2 ^ 64 : Nat) : Int)).toNat = w.toNat := by
    rw [Int.emod_eq_of_lt h0 (by omega)]
  have e2 : ((15 : Int) % ((2 ^ 64 : Nat) : Int)).toNat = 2 ^ 4 - 1 := by decide
  rw [e1, e2, Nat.and_two_pow_sub_one_eq_mod]
  omega
theorem pendB_eq {w : Int} (h0 : 0 ≤ w) (h1 : w ≤ 18446744073709551615) : pendB w = w % 16 - 1 := by
  unfold pendB
  rw [and15 h0 h1, w_u64 (by omega) (by omega), w64_in (n := w % 16) (by omega) (by omega), w64_in (by omega) (by omega)]
theorem tdiv_nn {w d : Int} (h0 : 0 ≤ w) : w.tdiv d = w / d := Int.tdiv_eq_ediv_of_nonneg h0
end Go.Proofs.Ytjkohcdgjlaobaa.Ct
namespace Go.Proofs.Ytjkohcdgjlaobaa.Ct
open Go Go.Proofs Go.Proofs.Ytjkohcdgjlaobaa.Ev
open Go.RowKit

/-- A status's word as committed, as the program lays it. -/
def mvB (w : Int) (b : Bool) : Int := u64 ((BitVec.ofInt 64 (u64 ((BitVec.ofInt 64 (u64 ((BitVec.ofInt 64 w &&& ~~~BitVec.ofInt 64 1006632960).toNat : Int)) ||| BitVec.ofInt 64 (if b then 67108864 else 0)).toNat : Int)) ||| BitVec.ofInt 64 536870912).toNat : Int)
open Dec in
theorem mv_C (w : Int) (b : Bool) : CallC Try.prog 74 [.int .u64 w, .int .i64 4, .bool b] ⟨[], 0, []⟩ (.int .u64 (mvB w b)) ⟨[], 0, []⟩ := by
  cases b
  · exact path E19ok 12 (ds := [Dec.l]) (pc := [(0 : Int) ≤ 26, (0 : Int) ≤ 27]) (by kernel_rfl) (by simp) rfl
  · exact path E19ok 12 (ds := [Dec.l]) (pc := [(0 : Int) ≤ 26, (0 : Int) ≤ 27]) (by kernel_rfl) (by simp) rfl
def gMv (args : List Value) (hp : Hp) : Option (Value × Hp × List Prop) :=
  match args with
  | [.int .u64 w, .int .i64 4, .bool b] => some (.int .u64 (mvB w b), hp, [])
  | _ => none
theorem gMv_ok : ∀ args hp v hp' pc, gMv args hp = some (v, hp', pc) → ∀ ds, CallOk Try.prog 74 args hp ⟨v, hp', ds, pc⟩ := by
  intro args hp v hp' pc hg ds
  unfold gMv at hg
  split at hg
  · rename_i w b
    simp only [Option.some.injEq, Prod.mk.injEq] at hg
    obtain ⟨rfl, rfl, rfl⟩ := hg
    exact CallC.pure (enters (fn := Try.f74) (by kernel_rfl) (by kernel_rfl) rfl) (fun _ => mv_C w b) rfl rfl hp ds
  · cases hg
theorem un03_path (w : Int) : callR E19 8 51 [.int .u64 w] ⟨[], 0, []⟩ [] [] = some (.agg ⟨[.int .u64 (u64 (Int.tdiv w 16)), .int .i64 (w64 (w64 (Int.tmod w 16) - 1))]⟩, ⟨[], 0, []⟩, [(16 : Int) ≠ 0, (16 : Int) ≠ 0]) := by kernel_rfl
theorem un03_C {w : Int} (h0 : 0 ≤ w) (h1 : w ≤ 18446744073709551615) : CallC Try.prog 51 [.int .u64 w] ⟨[], 0, []⟩ (.agg ⟨[.int .u64 (w / 16), .int .i64 (pendB w)]⟩) ⟨[], 0, []⟩ := by
  have h := path E19ok 8 (un03_path w) (by simp) rfl
  rw [tdiv_nn h0, w_u64 (n := w / 16) (by omega) (by omega), Int.tmod_eq_emod_of_nonneg h0, w64_in (n := w % 16) (by omega) (by omega), w64_in (n := w % 16 - 1) (by omega) (by omega), ← pendB_eq h0 h1] at h
  exact h
def gUn3 (args : List Value) (hp : Hp) : Option (Value × Hp × List Prop) :=
  match args with
  | [.int .u64 w] => some (.agg ⟨[.int .u64 (w / 16), .int .i64 (pendB w)]⟩, hp, [0 ≤ w ∧ w ≤ 18446744073709551615])
  | _ => none
theorem gUn3_ok : ∀ args hp v hp' pc, gUn3 args hp = some (v, hp', pc) → ∀ ds, CallOk Try.prog 51 args hp ⟨v, hp', ds, pc⟩ := by
  intro args hp v hp' pc hg ds
  unfold gUn3 at hg
  split at hg
  · rename_i w
    simp only [Option.some.injEq, Prod.mk.injEq] at hg
    obtain ⟨rfl, rfl, rfl⟩ := hg
    exact CallC.pure (enters (fn := Try.f51) (by kernel_rfl) (by kernel_rfl) rfl) (fun h => un03_C (hd1 h).1 (hd1 h).2) rfl rfl hp ds
  · cases hg
/-- The state, and whether one is busy, of a status's word, as the program takes them. -/
def stB (w : Int) : Int := w64 (u64 ((BitVec.ofInt 64 (Int.fdiv w 134217728) &&& BitVec.ofInt 64 7).toNat : Int))
def bsB (w : Int) : Bool := w64 (u64 ((BitVec.ofInt 64 (Int.fdiv w 67108864) &&& BitVec.ofInt 64 1).toNat : Int)) == 1
def seqB (w : Int) : Int := Int.fdiv w 16
def setB (w : Int) : Int := u64 (Int.fdiv w 16 * 16)
def bitB (w d m : Int) : Int := w64 (u64 ((BitVec.ofInt 64 (Int.fdiv w d) &&& BitVec.ofInt 64 m).toNat : Int))
def unB (w : Int) : Value := .agg ⟨[.int .i64 (bitB w 1073741824 4294967295), .int .i64 (stB w), .bool (bsB w), .bool (bitB w 33554432 1 == 1), .bool (bitB w 16777216 1 == 1), .int .i64 (bitB w 4096 4095), .int .i64 (bitB w 1 4095)]⟩
def utB (w : Int) : Value := .agg ⟨[.int .u64 (seqB w), .int .i64 (pendB w)]⟩
def gUnS (args : List Value) (hp : Hp) : Option (Value × Hp × List Prop) :=
  match args with
  | [.int .u64 w] => some (unB w, hp, [])
  | _ => none
theorem gUnS_ok : ∀ args hp v hp' pc, gUnS args hp = some (v, hp', pc) → ∀ ds, CallOk Try.prog 60 args hp ⟨v, hp', ds, pc⟩ := by
  intro args hp v hp' pc hg ds
  unfold gUnS at hg
  split at hg
  · rename_i w
    simp only [Option.some.injEq, Prod.mk.injEq] at hg
    obtain ⟨rfl, rfl, rfl⟩ := hg
    exact CallC.pure (enters (fn := Try.f60) (by kernel_rfl) (by kernel_rfl) rfl) (fun _ => path E19ok 12 (ds := List.replicate 12 Dec.l) (pc := [(0 : Int) ≤ 30, (0 : Int) ≤ 32, (0 : Int) ≤ 27, (0 : Int) ≤ 3, (0 : Int) ≤ 26, (0 : Int) ≤ 1, (0 : Int) ≤ 25, (0 : Int) ≤ 1, (0 : Int) ≤ 24, (0 : Int) ≤ 1, (0 : Int) ≤ 12, (0 : Int) ≤ 12, (0 : Int) ≤ 0, (0 : Int) ≤ 12]) (by kernel_rfl) (by simp) rfl) rfl rfl hp ds
  · cases hg
def gUt (args : List Value) (hp : Hp) : Option (Value × Hp × List Prop) :=
  match args with
  | [.int .u64 w] => some (utB w, hp, [])
  | _ => none
theorem gUt_ok : ∀ args hp v hp' pc, gUt args hp = some (v, hp', pc) → ∀ ds, CallOk Try.prog 81 args hp ⟨v, hp', ds, pc⟩ := by
  intro args hp v hp' pc hg ds
  unfold gUt at hg
  split at hg
  · rename_i w
    simp only [Option.some.injEq, Prod.mk.injEq] at hg
    obtain ⟨rfl, rfl, rfl⟩ := hg
    exact CallC.pure (enters (fn := Try.f81) (by kernel_rfl) (by kernel_rfl) rfl) (fun _ => path E19ok 12 (ds := List.replicate 12 Dec.l) (pc := [(0 : Int) ≤ 4]) (by kernel_rfl) (by simp) rfl) rfl rfl hp ds
  · cases hg
def gSt2 (args : List Value) (hp : Hp) : Option (Value × Hp × List Prop) :=
  match args with
  | [.int .u64 w] => some (.int .u64 (setB w), hp, [])
  | _ => none
theorem gSt2_ok : ∀ args hp v hp' pc, gSt2 args hp = some (v, hp', pc) → ∀ ds, CallOk Try.prog 99 args hp ⟨v, hp', ds, pc⟩ := by
  intro args hp v hp' pc hg ds
  unfold gSt2 at hg
  split at hg
  · rename_i w
    simp only [Option.some.injEq, Prod.mk.injEq] at hg
    obtain ⟨rfl, rfl, rfl⟩ := hg
    exact CallC.pure (enters (fn := Try.f99) (by kernel_rfl) (by kernel_rfl) rfl) (fun _ => path E19ok 12 (ds := List.replicate 12 Dec.l) (pc := [(0 : Int) ≤ 4, (0 : Int) ≤ 4]) (by kernel_rfl) (by simp) rfl) rfl rfl hp ds
  · cases hg
noncomputable def E22 : Env := ((((E19.add 74 gMv).add 51 gUn3).add 60 gUnS).add 81 gUt).add 99 gSt2
theorem E22ok : EnvOk E22 := ((((E19ok.add gMv_ok).add gUn3_ok).add gUnS_ok).add gUt_ok).add gSt2_ok
noncomputable def E23 : Env := E22.add 10 gOfW
theorem E23ok : EnvOk E23 := E22ok.add gOfW_ok
noncomputable def E24 : Env := E22.add 22 gNw
theorem E24ok : EnvOk E24 := E22ok.add gNw_ok
end Go.Proofs.Ytjkohcdgjlaobaa.Ct
namespace Go.Proofs.Ytjkohcdgjlaobaa.Ct
open Go Go.Proofs Go.Proofs.Ytjkohcdgjlaobaa.Ev
open Go.RowKit

theorem andM {x : Int} (h0 : 0 ≤ x) (h1 : x ≤ 18446744073709551615) (k : Nat) (hk : k ≤ 64) : (((BitVec.ofInt 64 x &&& BitVec.ofInt 64 (2 ^ k - 1 : Int)).toNat : Nat) : Int) = x % (2 ^ k : Int) := by
  have hp : (2 : Int) ^ k ≤ 2 ^ 64 := by
    have := Nat.pow_le_pow_right (n := 2) (by omega) hk
    exact_mod_cast this
  have hp0 : (0 : Int) < 2 ^ k := by
    have := Nat.pow_pos (n := k) (show 0 < 2 by omega)
    exact_mod_cast this
  rw [BitVec.toNat_and, BitVec.toNat_ofInt, BitVec.toNat_ofInt]
  have e1 : (x % ((2 ^ 64 : Nat) : Int)).toNat = x.toNat := by
    rw [Int.emod_eq_of_lt h0 (by omega)]
  have e2 : (((2 : Int) ^ k - 1) % ((2 ^ 64 : Nat) : Int)).toNat = 2 ^ k - 1 := by
    rw [Int.emod_eq_of_lt (by omega) (by omega)]
    have : ((2 : Int) ^ k - 1) = (((2 ^ k - 1 : Nat)) : Int) := by
      have := Nat.pow_pos (n := k) (show 0 < 2 by omega)
      rw [Int.natCast_sub (by omega)]
      simp
    rw [this]
    rfl
  rw [e1, e2, Nat.and_two_pow_sub_one_eq_mod]
  rw [Int.natCast_emod, Int.toNat_of_nonneg h0]
  simp
/-- The state in a status's word. -/
def stW (w : Int) : Int := w / 134217728 % 8
theorem stB_eq {w : Int} (h0 : 0 ≤ w) (h1 : w ≤ 18446744073709551615) : stB w = stW w := by
  unfold stB stW
  rw [Int.fdiv_eq_ediv_of_nonneg _ (by omega)]
  have := andM (x := w / 134217728) (by omega) (by omega) 3 (by omega)
  rw [show ((2 : Int) ^ 3 - 1) = 7 from rfl, show ((2 : Int) ^ 3) = 8 from rfl] at this
  rw [this, w_u64 (by omega) (by omega), w64_in (by omega) (by omega)]
open Dec in
theorem st01_path (w : Int) : callR E19 12 15 [.int .u64 w] ⟨[], 0, []⟩ (List.replicate 40 Dec.l) [] = some (.int .i64 (w64 (Int.tmod (u64 (Int.tdiv w 134217728)) 8)), ⟨[], 0, []⟩, [(134217728 : Int) ≠ 0, (8 : Int) ≠ 0]) := by kernel_rfl
theorem st01_C {w : Int} (h0 : 0 ≤ w) (h1 : w ≤ 18446744073709551615) : CallC Try.prog 15 [.int .u64 w] ⟨[], 0, []⟩ (.int .i64 (stW w)) ⟨[], 0, []⟩ := by
  have h := path E19ok 12 (st01_path w) (by simp) rfl
  rw [tdiv_nn h0, w_u64 (n := w / 134217728) (by omega) (by omega), Int.tmod_eq_emod_of_nonneg (by omega), w64_in (by omega) (by omega)] at h
  exact h
def gSt1 (args : List Value) (hp : Hp) : Option (Value × Hp × List Prop) :=
  match args with
  | [.int .u64 w] => some (.int .i64 (stW w), hp, [0 ≤ w ∧ w ≤ 18446744073709551615])
  | _ => none
theorem gSt1_ok : ∀ args hp v hp' pc, gSt1 args hp = some (v, hp', pc) → ∀ ds, CallOk Try.prog 15 args hp ⟨v, hp', ds, pc⟩ := by
  intro args hp v hp' pc hg ds
  unfold gSt1 at hg
  split at hg
  · rename_i w
    simp only [Option.some.injEq, Prod.mk.injEq] at hg
    obtain ⟨rfl, rfl, rfl⟩ := hg
    exact CallC.pure (enters (fn := Try.f15) (by kernel_rfl) (by kernel_rfl) rfl) (fun h => st01_C (hd1 h).1 (hd1 h).2) rfl rfl hp ds
  · cases hg
noncomputable def E25 : Env := E22.add 15 gSt1
theorem E25ok : EnvOk E25 := E22ok.add gSt1_ok
noncomputable def E26 : Env := E25.add 10 gOfW
theorem E26ok : EnvOk E26 := E25ok.add gOfW_ok
/-- The words are words. -/
def WfW (l : List Int) : Prop := ∀ n ∈ l, 0 ≤ n ∧ n ≤ 18446744073709551615
theorem row_wf {v : Value} {l : List Int} {w : World} (hl : RowIn .u64 w v l) : WfW l := by
  rcases hl with ⟨_, rfl⟩ | ⟨b, off, cap, _, _, h, _⟩
  · intro n hn; cases hn
  · exact fun n hn => bounds_u64 (h n hn)
theorem WfW.getW {l : List Int} (h : WfW l) (i : Int) : 0 ≤ getW l i ∧ getW l i ≤ 18446744073709551615 := by
  unfold Ct.getW
  split
  · rw [List.getD_eq_getElem?_getD]
    cases hg : l[i.toNat]? with
    | none => exact ⟨Int.le_refl _, by show (0 : Int) ≤ _; omega⟩
    | some n => exact h n (List.mem_of_getElem? hg)
  · omega
theorem WfW.setW {l : List Int} (h : WfW l) (i : Int) {v : Int} (h0 : 0 ≤ v) (h1 : v ≤ 18446744073709551615) : WfW (setW l i v) := by
  unfold Ct.setW
  split
  · intro n hn
    rcases List.mem_or_eq_of_mem_set hn with hn | rfl
    · exact h n hn
    · exact ⟨h0, h1⟩
  · exact h
end Go.Proofs.Ytjkohcdgjlaobaa.Ct
namespace Go.Proofs.Ytjkohcdgjlaobaa.Ct
open Go Go.Proofs Go.Proofs.Ytjkohcdgjlaobaa.Ev
open Go.RowKit

/-- A status's word as committed. -/
def mvW (w : Int) (b : Bool) : Int := w / 1073741824 * 1073741824 + 536870912 + (if b then 67108864 else 0) + w % 67108864
theorem bits_mid (hi mid lo m' j : Nat) (hm : mid < 16) (hm' : m' < 16) (hlo : lo < 2 ^ 26) :
    ((2 ^ 30 * hi + (2 ^ 26 * mid + lo)).testBit j = if j < 26 then lo.testBit j else if j < 30 then mid.testBit (j - 26) else hi.testBit (j - 30)) ∧
    ((2 ^ 30 * hi + (2 ^ 26 * m' + lo)).testBit j = if j < 26 then lo.testBit j else if j < 30 then m'.testBit (j - 26) else hi.testBit (j - 30)) := by
  have key : ∀ x : Nat, x < 16 → (2 ^ 30 * hi + (2 ^ 26 * x + lo)).testBit j = if j < 26 then lo.testBit j else if j < 30 then x.testBit (j - 26) else hi.testBit (j - 30) := fun x hx => by
    rw [Nat.testBit_two_pow_mul_add hi (by omega), Nat.testBit_two_pow_mul_add x hlo]
    by_cases h1 : j < 26
    · rw [if_pos (show j < 30 by omega), if_pos h1, if_pos h1]
    · rw [if_neg h1]
      by_cases h2 : j < 30
      · rw [if_pos h2, if_neg h1]
      · rw [if_neg h2, if_neg h1]
  exact ⟨key mid hm, key m' hm'⟩
theorem const_bits (x j : Nat) (hx : x < 16) : (2 ^ 26 * x).testBit j = if j < 26 then false else if j < 30 then x.testBit (j - 26) else false := by
  have := Nat.testBit_two_pow_mul_add x (b := 0) (i := 26) (by omega) j
  rw [Nat.add_zero] at this
  rw [this]
  by_cases h1 : j < 26
  · rw [if_pos h1, if_pos h1, Nat.zero_testBit]
  · rw [if_neg h1, if_neg h1]
    by_cases h2 : j < 30
    · rw [if_pos h2]
    · rw [if_neg h2]
      exact Nat.testBit_lt_two_pow (Nat.lt_of_lt_of_le hx (Nat.le_trans (show 16 ≤ 2 ^ 4 by omega) (Nat.pow_le_pow_right (by omega) (by omega))))
theorem mask_bits (hi mid lo b : Nat) (hm : mid < 16) (hb : b < 2) (hlo : lo < 2 ^ 26) :
    ((BitVec.ofNat 64 (2 ^ 30 * hi + (2 ^ 26 * mid + lo)) &&& ~~~BitVec.ofNat 64 (2 ^ 26 * 15)) ||| BitVec.ofNat 64 (2 ^ 26 * b)) ||| BitVec.ofNat 64 (2 ^ 26 * 8) = BitVec.ofNat 64 (2 ^ 30 * hi + (2 ^ 26 * (8 + b) + lo)) := by
  apply BitVec.eq_of_getLsbD_eq
  intro j hj
  obtain ⟨e1, e2⟩ := bits_mid hi mid lo (8 + b) j hm (by omega) hlo
  simp only [BitVec.getLsbD_or, BitVec.getLsbD_and, BitVec.getLsbD_not, BitVec.getLsbD_ofNat, e1, e2, const_bits 15 j (by omega), const_bits b j (by omega), const_bits 8 j (by omega), hj, decide_true, Bool.true_and]
  by_cases h1 : j < 26
  · simp [h1]
  · by_cases h2 : j < 30
    · simp only [h1, h2, if_true, if_false]
      have hj' : j - 26 = 0 ∨ j - 26 = 1 ∨ j - 26 = 2 ∨ j - 26 = 3 := by omega
      have hb' : b = 0 ∨ b = 1 := by omega
      rcases hj' with h | h | h | h <;> rcases hb' with rfl | rfl <;> rw [h] <;> simp [Nat.testBit, Nat.shiftRight_eq_div_pow]
    · simp [h1, h2]
theorem u64_bv (x : BitVec 64) : u64 ((x.toNat : Nat) : Int) = (x.toNat : Int) := w_u64 (by omega) (by have := x.isLt; omega)
theorem ofInt_toNat (x : BitVec 64) : BitVec.ofInt 64 ((x.toNat : Nat) : Int) = x := by
  apply BitVec.eq_of_toNat_eq
  rw [BitVec.toNat_ofInt]
  have := x.isLt
  omega
theorem mvB_eq {w : Int} (h0 : 0 ≤ w) (h1 : w ≤ 18446744073709551615) (b : Bool) : mvB w b = mvW w b := by
  unfold mvB
  rw [u64_bv, u64_bv, u64_bv, ofInt_toNat, ofInt_toNat]
  have ew : BitVec.ofInt 64 w = BitVec.ofNat 64 (2 ^ 30 * (w / 1073741824).toNat + (2 ^ 26 * (w / 67108864 % 16).toNat + (w % 67108864).toNat)) := by
    apply BitVec.eq_of_toNat_eq
    rw [BitVec.toNat_ofInt, BitVec.toNat_ofNat]
    omega
  have e15 : BitVec.ofInt 64 1006632960 = BitVec.ofNat 64 (2 ^ 26 * 15) := by decide
  have e8 : BitVec.ofInt 64 536870912 = BitVec.ofNat 64 (2 ^ 26 * 8) := by decide
  have eb : BitVec.ofInt 64 (if b then 67108864 else 0) = BitVec.ofNat 64 (2 ^ 26 * (if b then 1 else 0)) := by cases b <;> decide
  rw [ew, e15, e8, eb, mask_bits _ _ _ _ (by omega) (by cases b <;> decide) (by omega), BitVec.toNat_ofNat]
  unfold mvW
  cases b
  · simp only [Bool.false_eq_true, if_false]
    omega
  · simp only [if_true]
    omega
theorem bsB_eq {w : Int} (h0 : 0 ≤ w) (h1 : w ≤ 18446744073709551615) : bsB w = (w / 67108864 % 2 == 1) := by
  unfold bsB
  rw [Int.fdiv_eq_ediv_of_nonneg _ (by omega)]
  have := andM (x := w / 67108864) (by omega) (by omega) 1 (by omega)
  rw [show ((2 : Int) ^ 1 - 1) = 1 from rfl, show ((2 : Int) ^ 1) = 2 from rfl] at this
  rw [this, w_u64 (by omega) (by omega), w64_in (by omega) (by omega)]
theorem seqB_eq {w : Int} : seqB w = w / 16 := by
  unfold seqB
  rw [Int.fdiv_eq_ediv_of_nonneg _ (by omega)]
theorem setB_eq {w : Int} (h0 : 0 ≤ w) (h1 : w ≤ 18446744073709551615) : setB w = w - w % 16 := by
  unfold setB
  rw [Int.fdiv_eq_ediv_of_nonneg _ (by omega), w_u64 (by omega) (by omega)]
  omega
def dm1 (w : Int) : Int := u64 (u64 (w - u64 (134217728 * u64 (w64 (Int.tmod (u64 (Int.tdiv w 134217728)) 8)))) + 536870912)
def dmB (w : Int) : Bool := Int.tmod (u64 (Int.tdiv (dm1 w) 67108864)) 2 == 1
open Dec in
section
variable (w : Int) (b : Bool)
theorem mv_e : callR E22 12 50 [.int .u64 w, .int .i64 4, .bool b] ⟨[], 0, []⟩ (List.replicate 116 Dec.l ++ ([t] ++ List.replicate 40 Dec.l)) [] = some (.int .u64 (dm1 w), ⟨[], 0, []⟩, [(8 : Int) ≠ 0, (134217728 : Int) ≠ 0, (8 : Int) ≠ 0, (67108864 : Int) ≠ 0, (2 : Int) ≠ 0, (dmB w == b) = true]) := by kernel_rfl
theorem mv_t : callR E22 12 50 [.int .u64 w, .int .i64 4, .bool true] ⟨[], 0, []⟩ (List.replicate 116 Dec.l ++ ([f] ++ List.replicate 40 Dec.l)) [] = some (.int .u64 (u64 (dm1 w + 67108864)), ⟨[], 0, []⟩, [(8 : Int) ≠ 0, (134217728 : Int) ≠ 0, (8 : Int) ≠ 0, (67108864 : Int) ≠ 0, (2 : Int) ≠ 0, (dmB w == true) = false]) := by kernel_rfl
theorem mv_f : callR E22 12 50 [.int .u64 w, .int .i64 4, .bool false] ⟨[], 0, []⟩ (List.replicate 116 Dec.l ++ ([f] ++ List.replicate 40 Dec.l)) [] = some (.int .u64 (u64 (dm1 w - 67108864)), ⟨[], 0, []⟩, [(8 : Int) ≠ 0, (134217728 : Int) ≠ 0, (8 : Int) ≠ 0, (67108864 : Int) ≠ 0, (2 : Int) ≠ 0, (dmB w == false) = false]) := by kernel_rfl
theorem bs_path : callR E22 12 69 [.int .u64 w] ⟨[], 0, []⟩ (List.replicate 40 Dec.l) [] = some (.bool (Int.tmod (u64 (Int.tdiv w 67108864)) 2 == 1), ⟨[], 0, []⟩, [(67108864 : Int) ≠ 0, (2 : Int) ≠ 0]) := by kernel_rfl
theorem se_path : callR E22 12 70 [.int .u64 w] ⟨[], 0, []⟩ [] [] = some (.int .u64 (u64 (w - Int.tmod w 16)), ⟨[], 0, []⟩, [(16 : Int) ≠ 0]) := by kernel_rfl
end
theorem dm1_eq {w : Int} (h0 : 0 ≤ w) (h1 : w ≤ 18446744073709551615) : dm1 w = w - w / 134217728 % 8 * 134217728 + 536870912 := by
  unfold dm1
  rw [tdiv_nn h0, w_u64 (n := w / 134217728) (by omega) (by omega), Int.tmod_eq_emod_of_nonneg (by omega), w64_in (n := w / 134217728 % 8) (by omega) (by omega), w_u64 (n := w / 134217728 % 8) (by omega) (by omega), w_u64 (n := 134217728 * (w / 134217728 % 8)) (by omega) (by omega), w_u64 (n := w - 134217728 * (w / 134217728 % 8)) (by omega) (by omega), w_u64 (by omega) (by omega)]
  omega
theorem mv01_C {w : Int} (h0 : 0 ≤ w) (h1 : w ≤ 18446744073709551615) (b : Bool) : CallC Try.prog 50 [.int .u64 w, .int .i64 4, .bool b] ⟨[], 0, []⟩ (.int .u64 (mvB w b)) ⟨[], 0, []⟩ := by
  have e1 := dm1_eq h0 h1
  have ed : dmB w = (w / 67108864 % 2 == 1) := by
    unfold dmB
    rw [e1, tdiv_nn (by omega), w_u64 (by omega) (by omega), Int.tmod_eq_emod_of_nonneg (by omega)]
    congr 1
    omega
  rw [mvB_eq h0 h1]
  by_cases hb : dmB w = b
  · have h := path E22ok 12 (mv_e w b) (pcs_of ⟨by decide, by decide, by decide, by decide, by decide, by rw [hb]; simp, trivial⟩) rfl
    have e : dm1 w = mvW w b := by
      rw [ed] at hb
      rw [e1]
      unfold mvW
      subst hb
      by_cases hx : w / 67108864 % 2 = 1
      · rw [hx]
        simp only [beq_self_eq_true, if_true]
        omega
      · have : (w / 67108864 % 2 == 1) = false := beq_eq_false_iff_ne.2 hx
        rw [this]
        simp only [Bool.false_eq_true, if_false]
        omega
    rw [e] at h
    exact h
  · cases b
    · have hx : dmB w = true := by simpa using hb
      have h := path E22ok 12 (mv_f w) (pcs_of ⟨by decide, by decide, by decide, by decide, by decide, by rw [hx]; rfl, trivial⟩) rfl
      rw [ed, beq_iff_eq] at hx
      have e : u64 (dm1 w - 67108864) = mvW w false := by
        rw [e1, w_u64 (by omega) (by omega)]
        unfold mvW
        simp only [Bool.false_eq_true, if_false]
        omega
      rw [e] at h
      exact h
    · have hx : dmB w = false := by simpa using hb
      have h := path E22ok 12 (mv_t w) (pcs_of ⟨by decide, by decide, by decide, by decide, by decide, by rw [hx]; rfl, trivial⟩) rfl
      rw [ed, beq_eq_false_iff_ne] at hx
      have e : u64 (dm1 w + 67108864) = mvW w true := by
        rw [e1, w_u64 (by omega) (by omega)]
        unfold mvW
        simp only [if_true]
        omega
      rw [e] at h
      exact h
end Go.Proofs.Ytjkohcdgjlaobaa.Ct
