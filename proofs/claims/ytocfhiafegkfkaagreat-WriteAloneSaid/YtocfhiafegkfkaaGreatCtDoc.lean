/- Contracts of the document's words of a status, and of the Tally. -/
import Derived.Test.YtocfhiafegkfkaaGreatCtGraced
namespace Go.Proofs.YtocfhiafegkfkaaGreat.Ct
open Go Go.Proofs Go.Proofs.YtocfhiafegkfkaaGreat.Ev
open Go.RowKit

def pendB (w : Int) : Int := w64 (w64 (u64 ((BitVec.ofInt 64 w &&& BitVec.ofInt 64 15).toNat : Int)) - 1)
theorem and15 {w : Int} (h0 : 0 ≤ w) (h1 : w ≤ 18446744073709551615) : (((BitVec.ofInt 64 w &&& BitVec.ofInt 64 15).toNat : Nat) : Int) = w % 16 := by
  rw [BitVec.toNat_and, BitVec.toNat_ofInt, BitVec.toNat_ofInt]
  have e1 : (w % ((2 ^ 64 : Nat) : Int)).toNat = w.toNat := by
    rw [Int.emod_eq_of_lt h0 (by omega)]
  have e2 : ((15 : Int) % ((2 ^ 64 : Nat) : Int)).toNat = 2 ^ 4 - 1 := by decide
  rw [e1, e2, Nat.and_two_pow_sub_one_eq_mod]
  omega
theorem pendB_eq {w : Int} (h0 : 0 ≤ w) (h1 : w ≤ 18446744073709551615) : pendB w = w % 16 - 1 := by
  unfold pendB
  rw [and15 h0 h1, w_u64 (by omega) (by omega), w64_in (n := w % 16) (by omega) (by omega), w64_in (by omega) (by omega)]
theorem tdiv_nn {w d : Int} (h0 : 0 ≤ w) : w.tdiv d = w / d := Int.tdiv_eq_ediv_of_nonneg h0
end Go.Proofs.YtocfhiafegkfkaaGreat.Ct
namespace Go.Proofs.YtocfhiafegkfkaaGreat.Ct
open Go Go.Proofs Go.Proofs.YtocfhiafegkfkaaGreat.Ev
open Go.RowKit

def mvB (w : Int) (b : Bool) : Int := u64 ((BitVec.ofInt 64 (u64 ((BitVec.ofInt 64 (u64 ((BitVec.ofInt 64 w &&& ~~~BitVec.ofInt 64 1006632960).toNat : Int)) ||| BitVec.ofInt 64 (if b then 67108864 else 0)).toNat : Int)) ||| BitVec.ofInt 64 536870912).toNat : Int)
open Dec in
theorem mv_C (w : Int) (b : Bool) : CallC Tryz.prog 117 [.int .u64 w, .int .i64 4, .bool b] ⟨[], 0, []⟩ (.int .u64 (mvB w b)) ⟨[], 0, []⟩ := by
  cases b
  · exact path E19ok 12 (ds := [Dec.l]) (pc := [(0 : Int) ≤ 26, (0 : Int) ≤ 27]) (by kernel_rfl) (by simp) rfl
  · exact path E19ok 12 (ds := [Dec.l]) (pc := [(0 : Int) ≤ 26, (0 : Int) ≤ 27]) (by kernel_rfl) (by simp) rfl
def gMv (args : List Value) (hp : Hp) : Option (Value × Hp × List Prop) :=
  match args with
  | [.int .u64 w, .int .i64 4, .bool b] => some (.int .u64 (mvB w b), hp, [])
  | _ => none
theorem gMv_ok : ∀ args hp v hp' pc, gMv args hp = some (v, hp', pc) → ∀ ds, CallOk Tryz.prog 117 args hp ⟨v, hp', ds, pc⟩ := by
  intro args hp v hp' pc hg ds
  unfold gMv at hg
  split at hg
  · rename_i w b
    simp only [Option.some.injEq, Prod.mk.injEq] at hg
    obtain ⟨rfl, rfl, rfl⟩ := hg
    exact CallC.pure (enters (fn := Tryz.f117) (by kernel_rfl) (by kernel_rfl) rfl) (fun _ => mv_C w b) rfl rfl hp ds
  · cases hg
def stB (w : Int) : Int := w64 (u64 ((BitVec.ofInt 64 (Int.fdiv w 134217728) &&& BitVec.ofInt 64 7).toNat : Int))
def bsB (w : Int) : Bool := w64 (u64 ((BitVec.ofInt 64 (Int.fdiv w 67108864) &&& BitVec.ofInt 64 1).toNat : Int)) == 1
def seqB (w : Int) : Int := Int.fdiv w 16
def setB (w : Int) : Int := u64 (Int.fdiv w 16 * 16)
def bitB (w d m : Int) : Int := w64 (u64 ((BitVec.ofInt 64 (Int.fdiv w d) &&& BitVec.ofInt 64 m).toNat : Int))
def unB (w : Int) : Value := .agg ⟨[.int .i64 (bitB w 1073741824 4294967295), .int .i64 (stB w), .bool (bsB w), .bool (bitB w 33554432 1 == 1), .bool (bitB w 16777216 1 == 1), .int .i64 (bitB w 4096 4095), .int .i64 (bitB w 1 4095)]⟩
def gUnS (args : List Value) (hp : Hp) : Option (Value × Hp × List Prop) :=
  match args with
  | [.int .u64 w] => some (unB w, hp, [])
  | _ => none
theorem gUnS_ok : ∀ args hp v hp' pc, gUnS args hp = some (v, hp', pc) → ∀ ds, CallOk Tryz.prog 118 args hp ⟨v, hp', ds, pc⟩ := by
  intro args hp v hp' pc hg ds
  unfold gUnS at hg
  split at hg
  · rename_i w
    simp only [Option.some.injEq, Prod.mk.injEq] at hg
    obtain ⟨rfl, rfl, rfl⟩ := hg
    exact CallC.pure (enters (fn := Tryz.f118) (by kernel_rfl) (by kernel_rfl) rfl) (fun _ => path E19ok 12 (ds := List.replicate 12 Dec.l) (pc := [(0 : Int) ≤ 30, (0 : Int) ≤ 32, (0 : Int) ≤ 27, (0 : Int) ≤ 3, (0 : Int) ≤ 26, (0 : Int) ≤ 1, (0 : Int) ≤ 25, (0 : Int) ≤ 1, (0 : Int) ≤ 24, (0 : Int) ≤ 1, (0 : Int) ≤ 12, (0 : Int) ≤ 12, (0 : Int) ≤ 0, (0 : Int) ≤ 12]) (by kernel_rfl) (by simp) rfl) rfl rfl hp ds
  · cases hg
noncomputable def E22 : Env := (E19.add 117 gMv).add 118 gUnS
theorem E22ok : EnvOk E22 := (E19ok.add gMv_ok).add gUnS_ok
end Go.Proofs.YtocfhiafegkfkaaGreat.Ct
namespace Go.Proofs.YtocfhiafegkfkaaGreat.Ct
open Go Go.Proofs Go.Proofs.YtocfhiafegkfkaaGreat.Ev
open Go.RowKit

theorem andM {x : Int} (h0 : 0 ≤ x) (h1 : x ≤ 18446744073709551615) (k : Nat) (hk : k ≤ 64) : (((BitVec.ofInt 64 x &&& BitVec.ofInt 64 (2 ^ k - 1 : Int)).toNat : Nat) : Int) = x % (2 ^ k : Int) := by
  have hp : (2 : Int) ^ k ≤ 2 ^ 64 := by
    have := Nat.pow_le_pow_right (n := 2) (by omega) hk
    exact_mod_cast this
  have hp0 : (0 : Int) < 2 ^ k := by
    have := Nat.pow_pos (n := k) (show 0 < 2 by omega)
    exact_mod_cast this
  rw [BitVec.toNat_and, BitVec.toNat_ofInt, BitVec.toNat_ofInt]
  have e1 : (x % ((2 ^ 64 : Nat) : Int)).toNat = x.toNat := by
    rw [Int.emod_eq_of_lt h0 (by omega)]
  have e2 : (((2 : Int) ^ k - 1) % ((2 ^ 64 : Nat) : Int)).toNat = 2 ^ k - 1 := by
    rw [Int.emod_eq_of_lt (by omega) (by omega)]
    have : ((2 : Int) ^ k - 1) = (((2 ^ k - 1 : Nat)) : Int) := by
      have := Nat.pow_pos (n := k) (show 0 < 2 by omega)
      rw [Int.natCast_sub (by omega)]
      simp
    rw [this]
    rfl
  rw [e1, e2, Nat.and_two_pow_sub_one_eq_mod]
  rw [Int.natCast_emod, Int.toNat_of_nonneg h0]
  simp
def stW (w : Int) : Int := w / 134217728 % 8
theorem stB_eq {w : Int} (h0 : 0 ≤ w) (h1 : w ≤ 18446744073709551615) : stB w = stW w := by
  unfold stB stW
  rw [Int.fdiv_eq_ediv_of_nonneg _ (by omega)]
  have := andM (x := w / 134217728) (by omega) (by omega) 3 (by omega)
  rw [show ((2 : Int) ^ 3 - 1) = 7 from rfl, show ((2 : Int) ^ 3) = 8 from rfl] at this
  rw [this, w_u64 (by omega) (by omega), w64_in (by omega) (by omega)]
open Dec in
theorem st01_path (w : Int) : callR E19 12 19 [.int .u64 w] ⟨[], 0, []⟩ (List.replicate 40 Dec.l) [] = some (.int .i64 (w64 (Int.tmod (u64 (Int.tdiv w 134217728)) 8)), ⟨[], 0, []⟩, [(134217728 : Int) ≠ 0, (8 : Int) ≠ 0]) := by kernel_rfl
theorem st01_C {w : Int} (h0 : 0 ≤ w) (h1 : w ≤ 18446744073709551615) : CallC Tryz.prog 19 [.int .u64 w] ⟨[], 0, []⟩ (.int .i64 (stW w)) ⟨[], 0, []⟩ := by
  have h := path E19ok 12 (st01_path w) (by simp) rfl
  rw [tdiv_nn h0, w_u64 (n := w / 134217728) (by omega) (by omega), Int.tmod_eq_emod_of_nonneg (by omega), w64_in (by omega) (by omega)] at h
  exact h
def WfW (l : List Int) : Prop := ∀ n ∈ l, 0 ≤ n ∧ n ≤ 18446744073709551615
theorem row_wf {v : Value} {l : List Int} {w : World} (hl : RowIn .u64 w v l) : WfW l := by
  rcases hl with ⟨_, rfl⟩ | ⟨b, off, cap, _, _, h, _⟩
  · intro n hn; cases hn
  · exact fun n hn => bounds_u64 (h n hn)
theorem WfW.getW {l : List Int} (h : WfW l) (i : Int) : 0 ≤ getW l i ∧ getW l i ≤ 18446744073709551615 := by
  unfold Ct.getW
  split
  · rw [List.getD_eq_getElem?_getD]
    cases hg : l[i.toNat]? with
    | none => exact ⟨Int.le_refl _, by show (0 : Int) ≤ _; omega⟩
    | some n => exact h n (List.mem_of_getElem? hg)
  · omega
theorem WfW.setW {l : List Int} (h : WfW l) (i : Int) {v : Int} (h0 : 0 ≤ v) (h1 : v ≤ 18446744073709551615) : WfW (setW l i v) := by
  unfold Ct.setW
  split
  · intro n hn
    rcases List.mem_or_eq_of_mem_set hn with hn | rfl
    · exact h n hn
    · exact ⟨h0, h1⟩
  · exact h
end Go.Proofs.YtocfhiafegkfkaaGreat.Ct
namespace Go.Proofs.YtocfhiafegkfkaaGreat.Ct
open Go Go.Proofs Go.Proofs.YtocfhiafegkfkaaGreat.Ev
open Go.RowKit

def mvW (w : Int) (b : Bool) : Int := w / 1073741824 * 1073741824 + 536870912 + (if b then 67108864 else 0) + w % 67108864
theorem bits_mid (hi mid lo m' j : Nat) (hm : mid < 16) (hm' : m' < 16) (hlo : lo < 2 ^ 26) :
    ((2 ^ 30 * hi + (2 ^ 26 * mid + lo)).testBit j = if j < 26 then lo.testBit j else if j < 30 then mid.testBit (j - 26) else hi.testBit (j - 30)) ∧
    ((2 ^ 30 * hi + (2 ^ 26 * m' + lo)).testBit j = if j < 26 then lo.testBit j else if j < 30 then m'.testBit (j - 26) else hi.testBit (j - 30)) := by
  have key : ∀ x : Nat, x < 16 → (2 ^ 30 * hi + (2 ^ 26 * x + lo)).testBit j = if j < 26 then lo.testBit j else if j < 30 then x.testBit (j - 26) else hi.testBit (j - 30) := fun x hx => by
    rw [Nat.testBit_two_pow_mul_add hi (by omega), Nat.testBit_two_pow_mul_add x hlo]
    by_cases h1 : j < 26
    · rw [if_pos (show j < 30 by omega), if_pos h1, if_pos h1]
    · rw [if_neg h1]
      by_cases h2 : j < 30
      · rw [if_pos h2, if_neg h1]
      · rw [if_neg h2, if_neg h1]
  exact ⟨key mid hm, key m' hm'⟩
theorem const_bits (x j : Nat) (hx : x < 16) : (2 ^ 26 * x).testBit j = if j < 26 then false else if j < 30 then x.testBit (j - 26) else false := by
  have := Nat.testBit_two_pow_mul_add x (b := 0) (i := 26) (by omega) j
  rw [Nat.add_zero] at this
  rw [this]
  by_cases h1 : j < 26
  · rw [if_pos h1, if_pos h1, Nat.zero_testBit]
  · rw [if_neg h1, if_neg h1]
    by_cases h2 : j < 30
    · rw [if_pos h2]
    · rw [if_neg h2]
      exact Nat.testBit_lt_two_pow (Nat.lt_of_lt_of_le hx (Nat.le_trans (show 16 ≤ 2 ^ 4 by omega) (Nat.pow_le_pow_right (by omega) (by omega))))
theorem mask_bits (hi mid lo b : Nat) (hm : mid < 16) (hb : b < 2) (hlo : lo < 2 ^ 26) :
    ((BitVec.ofNat 64 (2 ^ 30 * hi + (2 ^ 26 * mid + lo)) &&& ~~~BitVec.ofNat 64 (2 ^ 26 * 15)) ||| BitVec.ofNat 64 (2 ^ 26 * b)) ||| BitVec.ofNat 64 (2 ^ 26 * 8) = BitVec.ofNat 64 (2 ^ 30 * hi + (2 ^ 26 * (8 + b) + lo)) := by
  apply BitVec.eq_of_getLsbD_eq
  intro j hj
  obtain ⟨e1, e2⟩ := bits_mid hi mid lo (8 + b) j hm (by omega) hlo
  simp only [BitVec.getLsbD_or, BitVec.getLsbD_and, BitVec.getLsbD_not, BitVec.getLsbD_ofNat, e1, e2, const_bits 15 j (by omega), const_bits b j (by omega), const_bits 8 j (by omega), hj, decide_true, Bool.true_and]
  by_cases h1 : j < 26
  · simp [h1]
  · by_cases h2 : j < 30
    · simp only [h1, h2, if_true, if_false]
      have hj' : j - 26 = 0 ∨ j - 26 = 1 ∨ j - 26 = 2 ∨ j - 26 = 3 := by omega
      have hb' : b = 0 ∨ b = 1 := by omega
      rcases hj' with h | h | h | h <;> rcases hb' with rfl | rfl <;> rw [h] <;> simp [Nat.testBit, Nat.shiftRight_eq_div_pow]
    · simp [h1, h2]
theorem u64_bv (x : BitVec 64) : u64 ((x.toNat : Nat) : Int) = (x.toNat : Int) := w_u64 (by omega) (by have := x.isLt; omega)
theorem ofInt_toNat (x : BitVec 64) : BitVec.ofInt 64 ((x.toNat : Nat) : Int) = x := by
  apply BitVec.eq_of_toNat_eq
  rw [BitVec.toNat_ofInt]
  have := x.isLt
  omega
theorem mvB_eq {w : Int} (h0 : 0 ≤ w) (h1 : w ≤ 18446744073709551615) (b : Bool) : mvB w b = mvW w b := by
  unfold mvB
  rw [u64_bv, u64_bv, u64_bv, ofInt_toNat, ofInt_toNat]
  have ew : BitVec.ofInt 64 w = BitVec.ofNat 64 (2 ^ 30 * (w / 1073741824).toNat + (2 ^ 26 * (w / 67108864 % 16).toNat + (w % 67108864).toNat)) := by
    apply BitVec.eq_of_toNat_eq
    rw [BitVec.toNat_ofInt, BitVec.toNat_ofNat]
    omega
  have e15 : BitVec.ofInt 64 1006632960 = BitVec.ofNat 64 (2 ^ 26 * 15) := by decide
  have e8 : BitVec.ofInt 64 536870912 = BitVec.ofNat 64 (2 ^ 26 * 8) := by decide
  have eb : BitVec.ofInt 64 (if b then 67108864 else 0) = BitVec.ofNat 64 (2 ^ 26 * (if b then 1 else 0)) := by cases b <;> decide
  rw [ew, e15, e8, eb, mask_bits _ _ _ _ (by omega) (by cases b <;> decide) (by omega), BitVec.toNat_ofNat]
  unfold mvW
  cases b
  · simp only [Bool.false_eq_true, if_false]
    omega
  · simp only [if_true]
    omega
theorem bsB_eq {w : Int} (h0 : 0 ≤ w) (h1 : w ≤ 18446744073709551615) : bsB w = (w / 67108864 % 2 == 1) := by
  unfold bsB
  rw [Int.fdiv_eq_ediv_of_nonneg _ (by omega)]
  have := andM (x := w / 67108864) (by omega) (by omega) 1 (by omega)
  rw [show ((2 : Int) ^ 1 - 1) = 1 from rfl, show ((2 : Int) ^ 1) = 2 from rfl] at this
  rw [this, w_u64 (by omega) (by omega), w64_in (by omega) (by omega)]
theorem seqB_eq {w : Int} : seqB w = w / 16 := by
  unfold seqB
  rw [Int.fdiv_eq_ediv_of_nonneg _ (by omega)]
theorem setB_eq {w : Int} (h0 : 0 ≤ w) (h1 : w ≤ 18446744073709551615) : setB w = w - w % 16 := by
  unfold setB
  rw [Int.fdiv_eq_ediv_of_nonneg _ (by omega), w_u64 (by omega) (by omega)]
  omega
open Dec in
section
variable (w : Int) (b : Bool)
theorem bs_path : callR E22 12 63 [.int .u64 w] ⟨[], 0, []⟩ (List.replicate 40 Dec.l) [] = some (.bool (Int.tmod (u64 (Int.tdiv w 67108864)) 2 == 1), ⟨[], 0, []⟩, [(67108864 : Int) ≠ 0, (2 : Int) ≠ 0]) := by kernel_rfl
end
end Go.Proofs.YtocfhiafegkfkaaGreat.Ct
namespace Go.Proofs.YtocfhiafegkfkaaGreat.Ct
open Go Go.Proofs Go.Proofs.YtocfhiafegkfkaaGreat.Ev
open Go.RowKit

theorem law_play2 {E E' : Env} (hE : EnvOk E) (hP : E.P = E'.P) {n : Nat} {f : FuncId} {c : Cfg} {v : Value} {l : List Int} {ks : List IntKind} {zs : List Int} {sv : Value} {rows : List (List Int)} {w : World} (hl : RowIn .u64 w v l) (hs : RowR pkK w sv rows)
    (hin : c.Right → (l.length : Int) = c.len → ∀ off cap (pk : Pk), (pk = .nil ∨ ∃ of2 cap2, pk = .row of2 cap2 rows) → ∃ hp1, CallC E'.P f [c.v, .slice (some ⟨0, off, none⟩) l.length cap, .agg ⟨rowV ks zs ++ [pk.sv 1]⟩] (plHp l off pk) (.bool true) hp1)
    (hno : ¬ c.Right → ∀ a m cap (pk : Pk), ∃ ds pc, told (doCall E n f [c.v, .slice a m cap, .agg ⟨rowV ks zs ++ [pk.sv 1]⟩] ⟨[], 2, []⟩ ds) = some (.bool true, pc) ∧ ∀ p ∈ pc, p)
    (hlen : c.Right → ∀ a (m cap : Nat) (pk : Pk), (m : Int) ≠ c.len → ∃ ds pc, told (doCall E n f [c.v, .slice a m cap, .agg ⟨rowV ks zs ++ [pk.sv 1]⟩] ⟨[], 2, []⟩ ds) = some (.bool true, pc) ∧ ∀ p ∈ pc, p) :
    Calls E'.P f #[c.v, v, .agg ⟨rowV ks zs ++ [sv]⟩] w fun e w1 => e = .returned (.bool true) ∧ Below w.heap.size w w1 := by
  by_cases h : c.Right ∧ (l.length : Int) = c.len
  · obtain ⟨hr, hlen⟩ := h
    have hcl := Cfg.len_in hr
    rcases hl with ⟨_, rfl⟩ | ⟨b, off, cap, rfl, hcell, _, hblk⟩
    · simp at hlen
      omega
    · rcases hs with ⟨rfl, rfl⟩ | ⟨b2, of2, cap2, rfl, hcell2, _, hblk2⟩
      · obtain ⟨hp1, hC⟩ := hin hr hlen off cap .nil (.inl rfl)
        have hargs : VRL (fun k => k < 2) (fun _ => b) [c.v, .slice (some ⟨0, off, none⟩) l.length cap, .agg ⟨rowV ks zs ++ [.slice none 0 0]⟩] [c.v, .slice (some ⟨b, off, none⟩) l.length cap, .agg ⟨rowV ks zs ++ [.slice none 0 0]⟩] := fun ρ' ha => by
          have e0 : ρ' 0 = b := ha 0 (by omega)
          simp [Cfg.ren_v, ren, renA, renL_map, e0, rowV_nm]
        exact calls_of_C hC rfl view_isV hargs (HR_row2 (ρ := fun _ => b) Nat.zero_lt_two hcell hblk)
      · obtain ⟨hp1, hC⟩ := hin hr hlen off cap (.row of2 cap2 rows) (.inr ⟨of2, cap2, rfl⟩)
        let ρ : Nat → Nat := fun k => if k = 0 then b else b2
        have hargs : VRL (fun k => k < 2) ρ [c.v, .slice (some ⟨0, off, none⟩) l.length cap, .agg ⟨rowV ks zs ++ [.slice (some ⟨1, of2, none⟩) rows.length cap2]⟩] [c.v, .slice (some ⟨b, off, none⟩) l.length cap, .agg ⟨rowV ks zs ++ [.slice (some ⟨b2, of2, none⟩) rows.length cap2]⟩] := fun ρ' ha => by
          have e0 : ρ' 0 = b := ha 0 (by omega)
          have e1 : ρ' 1 = b2 := ha 1 (by omega)
          simp [Cfg.ren_v, ren, renA, renL_map, e0, e1, rowV_nm]
        exact calls_of_C hC rfl (two_isV rfl rfl) hargs (HR_two rfl rfl (sat_ints hcell hblk) (sat_recs hcell2 hblk2))
  · obtain ⟨a, cap, hv⟩ := row_any hl
    obtain ⟨pk, b2, hv2⟩ : ∃ (pk : Pk) (b2 : Nat), ∀ ρ' : Nat → Nat, ρ' 1 = b2 → ren ρ' (pk.sv 1) = sv := by
      rcases hs with ⟨rfl, rfl⟩ | ⟨b, off, cap, rfl, _, _⟩
      · exact ⟨.nil, 0, fun _ _ => rfl⟩
      · exact ⟨.row off cap rows, b, fun ρ' h => by simp [Pk.sv, ren, h]⟩
    let ρ : Nat → Nat := fun k => if k = 0 then (a.map Addr.block).getD 0 else b2
    have hargs : VRL (fun k => k < 2) ρ [c.v, .slice (anyB 0 a) l.length cap, .agg ⟨rowV ks zs ++ [pk.sv 1]⟩] [c.v, v, .agg ⟨rowV ks zs ++ [sv]⟩] := fun ρ' ha => by
      have e0 : ρ' 0 = (a.map Addr.block).getD 0 := ha 0 (by omega)
      have e1 : ρ' 1 = b2 := ha 1 (by omega)
      rw [hv]
      simp only [List.map_cons, List.map_nil, Cfg.ren_v, anyB_rel 0 a ρ' _ _ e0, ren_agg, List.map_append, rowV_nm, hv2 ρ' e1]
    rw [← hP]
    by_cases hr : c.Right
    · have hlen' : (l.length : Int) ≠ c.len := fun e => h ⟨hr, e⟩
      obtain ⟨ds, pc, h1, h2⟩ := hlen hr (anyB 0 a) l.length cap pk hlen'
      exact true_of_path hE h1 h2 none_isV hargs (HR_none _ 2)
    · obtain ⟨ds, pc, h1, h2⟩ := hno hr (anyB 0 a) l.length cap pk
      exact true_of_path hE h1 h2 none_isV hargs (HR_none _ 2)

theorem fldR_get (rows : List (List Int)) : ∀ (q i : Nat), ((fldR rows q).getD i []).getD 0 0 = (rows.getD i []).getD q 0
  | 0, i => rfl
  | q + 1, i => by
    have ih := fldR_tail rows q i
    exact ih
where
  fldR_tail (rows : List (List Int)) : ∀ (q i : Nat), ((fldR rows (q + 1)).getD i []).getD 0 0 = (rows.getD i []).getD (q + 1) 0 := fun q i => by
    have key : ∀ (q i : Nat), (fldR rows q).getD i [] = (rows.getD i []).drop q := fun q => by
      induction q with
      | zero => intro i; rfl
      | succ q ih =>
        intro i
        show ((fldR rows q).map List.tail).getD i [] = _
        rw [List.getD_eq_getElem?_getD, List.getElem?_map]
        have := ih i
        rw [List.getD_eq_getElem?_getD] at this
        cases hg : (fldR rows q)[i]? with
        | none =>
          rw [hg] at this
          have e : (rows.getD i []).drop q = [] := this.symm
          show [] = (rows.getD i []).drop (q + 1)
          rw [← List.tail_drop, e]
          rfl
        | some r =>
          rw [hg] at this
          have e : r = (rows.getD i []).drop q := this
          show r.tail = _
          rw [e, List.tail_drop]
    rw [key, List.getD_eq_getElem?_getD, List.getElem?_drop, List.getD_eq_getElem?_getD]
    rfl
def Pk.good : Pk → Prop
  | .nil => True
  | .row _ _ rows => ∀ r ∈ rows, 0 ≤ r.getD 3 0 ∧ r.getD 3 0 ≤ 18446744073709551615
theorem good_of {w : World} {sv : Value} {rows : List (List Int)} (hs : RowR pkK w sv rows) {pk : Pk} (h : pk = .nil ∨ ∃ of2 cap2, pk = .row of2 cap2 rows) : pk.good := by
  rcases h with rfl | ⟨of2, cap2, rfl⟩
  · trivial
  · rcases hs with ⟨_, rfl⟩ | ⟨_, _, _, _, _, hr, _⟩
    · intro r hr; cases hr
    · exact fun r h => bounds_u64 ((hr r h).2 3 (by decide))
theorem pv_good {rows : List (List Int)} (h : ∀ r ∈ rows, 0 ≤ r.getD 3 0 ∧ r.getD 3 0 ≤ 18446744073709551615) (of2 i : Nat) : 0 ≤ pv rows of2 i 3 ∧ pv rows of2 i 3 ≤ 18446744073709551615 := by
  unfold pv
  rw [fldR_get, List.getD_eq_getElem?_getD (l := rows)]
  cases hg : rows[pl4 of2 i / 4]? with
  | none => exact ⟨Int.le_refl _, by show (0 : Int) ≤ _; omega⟩
  | some r => exact h r (List.mem_of_getElem? hg)
theorem pokeFrom_wf {rows : List (List Int)} (h : ∀ r ∈ rows, 0 ≤ r.getD 3 0 ∧ r.getD 3 0 ≤ 18446744073709551615) (of2 : Nat) (step : Int) : ∀ (k i : Nat) (m : Mm), WfW m.w → WfW (pokeFrom rows of2 step k i m).w
  | 0, _, _, hm => hm
  | k + 1, i, m, hm => by
    unfold pokeFrom
    split
    · exact pokeFrom_wf h of2 step k (i + 1) _ (hm.setW _ (pv_good h of2 i).1 (pv_good h of2 i).2)
    · exact pokeFrom_wf h of2 step k (i + 1) m hm
theorem Pk.do_wf {pk : Pk} (h : pk.good) (step : Int) {m : Mm} (hm : WfW m.w) : WfW (pk.do step m).w := by
  cases pk with
  | nil => exact hm
  | row of2 cap2 rows => exact pokeFrom_wf h of2 step _ _ m hm
end Go.Proofs.YtocfhiafegkfkaaGreat.Ct
namespace Go.Proofs.YtocfhiafegkfkaaGreat.Ct
open Go Go.Proofs Go.Proofs.YtocfhiafegkfkaaGreat.Ev
open Go.RowKit

abbrev Wd (w : Int) : Prop := 0 ≤ w ∧ w ≤ 18446744073709551615
theorem bs1_C {w : Int} (h : Wd w) : CallC Tryz.prog 63 [.int .u64 w] ⟨[], 0, []⟩ (.bool (bsB w)) ⟨[], 0, []⟩ := by
  obtain ⟨h0, h1⟩ := h
  have := path E22ok 12 (bs_path w) (by simp) rfl
  rw [tdiv_nn h0, w_u64 (n := w / 67108864) (by omega) (by omega), Int.tmod_eq_emod_of_nonneg (by omega), ← bsB_eq h0 h1] at this
  exact this
noncomputable def E29 : Env := E22
theorem E29ok : EnvOk E29 := E22ok
theorem u64_rng (x : Int) : Wd (u64 x) := by
  unfold u64
  rw [IntKind.wrap_u64]
  exact ⟨by omega, by omega⟩
theorem WfW.swpW {l : List Int} (h : WfW l) (i o : Int) {v : Int} (hv : Wd v) : WfW (swpW l i o v) := by
  unfold Ct.swpW
  split
  · exact h.setW _ hv.1 hv.2
  · exact h
theorem mvB_rng (w : Int) (b : Bool) : Wd (mvB w b) := u64_rng _
theorem setB_rng (w : Int) : Wd (setB w) := u64_rng _
theorem seqB_rng {w : Int} (h : Wd w) : Wd (seqB w) := by
  rw [seqB_eq]
  exact ⟨by have := h.1; omega, by have := h.1; have := h.2; omega⟩
end Go.Proofs.YtocfhiafegkfkaaGreat.Ct
