/- The document's bits of a word, told by plain functions. -/
import Derived.Test.YtocfhiafegkfkaaGreatCtDoc
namespace Go.Proofs.YtocfhiafegkfkaaGreat.Ct
open Go Go.Proofs Go.Proofs.YtocfhiafegkfkaaGreat.Ev
open Go.RowKit

/-- 2 to a number, a bit of a word, a word with a bit put, the place of a slot on a side. -/
def pw (n : Int) : Int := 2 ^ n.toNat
def bitI (w n : Int) : Bool := w / pw n % 2 == 1
def putI (w n : Int) (b : Bool) : Int := if bitI w n = b then w else if b then w + pw n else w - pw n
def atI (side slot : Int) : Int := if side < 0 ∨ side > 1 ∨ slot < 0 ∨ slot > 11 then -1 else 12 * side + slot
def withI (w side slot : Int) : Int := if atI side slot < 0 then w else putI w (atI side slot) true
def hasI (w side slot : Int) : Bool := decide (0 ≤ atI side slot) && bitI w (atI side slot)
theorem pw_nat (n : Int) : pw n = ((2 ^ n.toNat : Nat) : Int) := by
  unfold pw
  rw [Int.natCast_pow]
  rfl
theorem pw_pos (n : Int) : 0 < pw n := by
  have := Nat.pow_pos (n := n.toNat) (show 0 < 2 by omega)
  rw [pw_nat]
  omega
theorem pw_le {n : Int} (h : n ≤ 63) : pw n ≤ 9223372036854775808 := by
  have := Nat.pow_le_pow_right (n := 2) (by omega) (show n.toNat ≤ 63 by omega)
  rw [pw_nat]
  omega
theorem pw_succ (i : Nat) : pw ((i + 1 : Nat) : Int) = 2 * pw (i : Int) := by
  unfold pw
  rw [Int.toNat_natCast, Int.toNat_natCast, Int.pow_succ]
  omega
theorem atI_le (side slot : Int) : -1 ≤ atI side slot ∧ atI side slot ≤ 23 := by
  unfold atI
  split <;> omega
noncomputable abbrev pwF : Func := Tryz.f73
abbrev pwL : List Nat := [1, 1, 0, 1, 0, 0]
def pwFr (n o i : Int) (ds : List Dec) : Fr := mkFr 13 [(0, .int .i64 n), (3, .int .u64 o), (4, .int .i64 i)] [] 0 [] ds
open Dec in
section
variable (n o : Int) (i : Nat) (ds' : List Dec)
theorem pw_in : execR E29 5 .normal [.code (bd pwF [])] [] [0, 3, 4] 0 ds' ⟨[.int .i64 n] ++ List.replicate 12 undef, ⟨[], 0, []⟩, [], []⟩ = some (.normal, [.code (.loop (bd pwF pwL)), .blk 0, .code (bd pwF [1, 1, 1])], pwFr n 1 0 ds', []) := by kernel_rfl
theorem pw_step : run E29 5 (bd pwF pwL) [] [0, 3, 4] 0 ds' (pwFr n o i [t]) = some (.normal, pwFr n (u64 (2 * o)) (w64 ((i : Int) + 1)) ds', [decide ((i : Int) < n) = true]) := by kernel_rfl
theorem pw_end : run E29 5 (bd pwF pwL) [] [3] 0 ds' (pwFr n o i [f]) = some (.exit 0, mkFr 13 [(3, .int .u64 o)] [] 0 [] ds', [decide ((i : Int) < n) = false]) := by kernel_rfl
theorem pw_out : execR E29 5 (.exit 0) [.blk 0, .code (bd pwF [1, 1, 1])] [] [2] 0 ds' (mkFr 13 [(3, .int .u64 o)] [] 0 [] []) = some (.ret, [], mkFr 13 [(2, .int .u64 o)] [] 0 [] ds', []) := by kernel_rfl
end
theorem z0 (ns : List Nat) : ∀ k, k < 0 → ns.getD k 0 = k := fun k hk => absurd hk (Nat.not_lt_zero k)
open Dec in
theorem pw_C {n : Int} (h : n ≤ 63) : CallC Tryz.prog 73 [.int .i64 n] ⟨[], 0, []⟩ (.int .u64 (pw n)) ⟨[], 0, []⟩ := by
  refine CallC.of_body (E := E29) (ds := []) (fn := pwF) 12 (by kernel_rfl) (by kernel_rfl) (by kernel_rfl) (by kernel_rfl) ?_
  let dsf : Nat → List Dec := fun i => if (i : Int) < n then [t] else [f]
  refine KC.of_exec E29ok (pw_in n (dsf 0)) (pcs_of trivial) (Nat.zero_le _) (z0 _) ?_
  refine KC.loop (m0 := 0) (fun i : Nat => pwFr n (pw (i : Int)) i (dsf i)) (fun i => i = 0 ∨ (i : Int) ≤ n) (fun i => n.toNat - i)
    (fun ex fr => ex = .exit 0 ∧ fr = mkFr 13 [(3, .int .u64 (pw n))] [] 0 [] []) (fun i hi => ?_) ?_ 0 (.inl rfl)
  · by_cases hlt : (i : Int) < n
    · have hds : dsf i = [t] := by simp only [dsf, if_pos hlt]
      simp only [hds]
      have e1 : u64 (2 * pw (i : Int)) = pw ((i + 1 : Nat) : Int) := by
        rw [pw_succ]
        have h1 := pw_pos (i : Int)
        have h2 := pw_le (n := ((i + 1 : Nat) : Int)) (by omega)
        rw [pw_succ] at h2
        exact w_u64 (by omega) (by omega)
      exact CodeC.of_run E29ok (pw_step n _ i (dsf (i + 1))) (pcs_of ⟨decide_eq_true hlt, trivial⟩) (Nat.zero_le _) (z0 _) (.inl ⟨rfl, i + 1, by rw [e1, w64_succ i (by omega)], .inr (by omega), by omega⟩)
    · have hds : dsf i = [f] := by simp only [dsf, if_neg hlt]
      simp only [hds]
      have e1 : pw (i : Int) = pw n := by
        unfold pw
        congr 1
        omega
      exact CodeC.of_run E29ok (pw_end n _ i []) (pcs_of ⟨decide_eq_false hlt, trivial⟩) (Nat.zero_le _) (z0 _) (.inr ⟨by simp, rfl, by rw [e1]⟩)
  · rintro ex fr ⟨rfl, rfl⟩
    exact KC.of_exec E29ok (pw_out (pw n) []) (pcs_of trivial) (Nat.zero_le _) (z0 _) (KC.done ⟨by simp, [.int .u64 (pw n)], [], [], 0, by kernel_rfl, by simp, by kernel_rfl, rfl, z0 _⟩)
def gPw (args : List Value) (hp : Hp) : Option (Value × Hp × List Prop) :=
  match args with
  | [.int .i64 n] => some (.int .u64 (pw n), hp, [n ≤ 63])
  | _ => none
theorem gPw_ok : ∀ args hp v hp' pc, gPw args hp = some (v, hp', pc) → ∀ ds, CallOk Tryz.prog 73 args hp ⟨v, hp', ds, pc⟩ := by
  intro args hp v hp' pc hg ds
  unfold gPw at hg
  split at hg
  · simp only [Option.some.injEq, Prod.mk.injEq] at hg
    obtain ⟨rfl, rfl, rfl⟩ := hg
    exact CallC.pure (enters (fn := Tryz.f73) (by kernel_rfl) (by kernel_rfl) rfl) (fun h => pw_C (hd1 h)) rfl rfl hp ds
  · cases hg
noncomputable def E35 : Env := E29.add 73 gPw
theorem E35ok : EnvOk E35 := E29ok.add gPw_ok
/-! A bit -/
theorem bt_path (w n : Int) : callR E35 8 105 [.int .u64 w, .int .i64 n] ⟨[], 0, []⟩ [] [] = some (.bool (Int.tmod (u64 (Int.tdiv w (pw n))) 2 == 1), ⟨[], 0, []⟩, [n ≤ 63, pw n ≠ 0, (2 : Int) ≠ 0]) := by kernel_rfl
theorem div_rng {w d : Int} (hw : Wd w) (hd : 0 < d) : Wd (w / d) := by
  have h1 : 0 ≤ w / d := Int.ediv_nonneg hw.1 (by omega)
  have h2 : w / d ≤ w := Int.ediv_le_self _ hw.1
  exact ⟨h1, Int.le_trans h2 hw.2⟩
theorem bt_C {w n : Int} (hw : Wd w) (hn : n ≤ 63) : CallC Tryz.prog 105 [.int .u64 w, .int .i64 n] ⟨[], 0, []⟩ (.bool (bitI w n)) ⟨[], 0, []⟩ := by
  have hp := pw_pos n
  have h := path E35ok 8 (bt_path w n) (pcs_of ⟨hn, by omega, by decide, trivial⟩) rfl
  have hd := div_rng hw hp
  rw [tdiv_nn hw.1, w_u64 hd.1 hd.2, Int.tmod_eq_emod_of_nonneg hd.1] at h
  exact h
def gBt (args : List Value) (hp : Hp) : Option (Value × Hp × List Prop) :=
  match args with
  | [.int .u64 w, .int .i64 n] => some (.bool (bitI w n), hp, [Wd w ∧ n ≤ 63])
  | _ => none
theorem gBt_ok : ∀ args hp v hp' pc, gBt args hp = some (v, hp', pc) → ∀ ds, CallOk Tryz.prog 105 args hp ⟨v, hp', ds, pc⟩ := by
  intro args hp v hp' pc hg ds
  unfold gBt at hg
  split at hg
  · simp only [Option.some.injEq, Prod.mk.injEq] at hg
    obtain ⟨rfl, rfl, rfl⟩ := hg
    exact CallC.pure (enters (fn := Tryz.f105) (by kernel_rfl) (by kernel_rfl) rfl) (fun h => bt_C (hd1 h).1 (hd1 h).2) rfl rfl hp ds
  · cases hg
noncomputable def E36 : Env := E35.add 105 gBt
theorem E36ok : EnvOk E36 := E35ok.add gBt_ok
/-! A bit is put -/
open Dec in
section
variable (w n : Int) (b : Bool)
theorem pt_e : callR E36 8 69 [.int .u64 w, .int .i64 n, .bool b] ⟨[], 0, []⟩ [t] [] = some (.int .u64 w, ⟨[], 0, []⟩, [Wd w ∧ n ≤ 63, (bitI w n == b) = true]) := by kernel_rfl
theorem pt_t : callR E36 8 69 [.int .u64 w, .int .i64 n, .bool true] ⟨[], 0, []⟩ [f, Dec.l] [] = some (.int .u64 (u64 (w + pw n)), ⟨[], 0, []⟩, [Wd w ∧ n ≤ 63, (bitI w n == true) = false, n ≤ 63]) := by kernel_rfl
theorem pt_f : callR E36 8 69 [.int .u64 w, .int .i64 n, .bool false] ⟨[], 0, []⟩ [f, Dec.l] [] = some (.int .u64 (u64 (w - pw n)), ⟨[], 0, []⟩, [Wd w ∧ n ≤ 63, (bitI w n == false) = false, n ≤ 63]) := by kernel_rfl
end
/-- A word, taken apart at a place. -/
theorem bit_parts {w n : Int} (h : 0 ≤ w) : ∃ hi lo : Int, 0 ≤ hi ∧ 0 ≤ lo ∧ lo < pw n ∧ w = hi * (2 * pw n) + (if bitI w n then pw n else 0) + lo := by
  have hp := pw_pos n
  refine ⟨w / pw n / 2, w % pw n, ?_, Int.emod_nonneg _ (by omega), Int.emod_lt_of_pos _ hp, ?_⟩
  · exact Int.ediv_nonneg (Int.ediv_nonneg h (by omega)) (by omega)
  have e1 := Int.mul_ediv_add_emod w (pw n)
  have e2 := Int.mul_ediv_add_emod (w / pw n) 2
  unfold bitI
  generalize hq : w / pw n = q at *
  generalize w % pw n = r at *
  generalize pw n = p at *
  have e3 : q / 2 * (2 * p) = p * (2 * (q / 2)) := by rw [Int.mul_left_comm, Int.mul_left_comm p, Int.mul_comm p]
  rw [e3]
  by_cases hb : q % 2 = 1
  · have : (q % 2 == 1) = true := beq_iff_eq.2 hb
    rw [this, if_pos rfl]
    have e4 : q = 2 * (q / 2) + 1 := by omega
    have e5 : p * q = p * (2 * (q / 2)) + p := by rw [show p * (2 * (q / 2)) + p = p * (2 * (q / 2) + 1) by rw [Int.mul_add, Int.mul_one], ← e4]
    omega
  · have : (q % 2 == 1) = false := beq_eq_false_iff_ne.2 hb
    rw [this, if_neg (by simp)]
    have e4 : q = 2 * (q / 2) := by omega
    have e5 : p * q = p * (2 * (q / 2)) := by rw [← e4]
    omega
theorem pw_dvd {n : Int} (h : n ≤ 63) : ∃ k : Int, 18446744073709551616 = k * (2 * pw n) := by
  refine ⟨2 ^ (63 - n.toNat), ?_⟩
  have e : (2 : Int) ^ (63 - n.toNat) * (2 * 2 ^ n.toNat) = 2 ^ 64 := by
    rw [Int.mul_left_comm, ← Int.pow_add, show 63 - n.toNat + n.toNat = 63 by omega]
    rfl
  unfold pw
  rw [e]
  rfl
theorem putI_rng {w n : Int} (hw : Wd w) (hn : n ≤ 63) (b : Bool) : Wd (putI w n b) := by
  obtain ⟨hi, lo, h1, h2, h3, h4⟩ := bit_parts (n := n) hw.1
  have hp := pw_pos n
  obtain ⟨k, hk⟩ := pw_dvd hn
  unfold putI
  by_cases hb : bitI w n = b
  · rw [if_pos hb]; exact hw
  · rw [if_neg hb]
    have hhi : 0 ≤ hi * (2 * pw n) := Int.mul_nonneg h1 (by omega)
    cases b
    · have : bitI w n = true := by simpa using hb
      rw [this, if_pos rfl] at h4
      rw [if_neg (by simp)]
      obtain ⟨w0, w1⟩ := hw
      exact ⟨by omega, by omega⟩
    · have : bitI w n = false := by simpa using hb
      rw [this, if_neg (by simp)] at h4
      rw [if_pos rfl]
      have h5 : hi * (2 * pw n) < k * (2 * pw n) := by obtain ⟨w0, w1⟩ := hw; omega
      have h6 : hi < k := Int.lt_of_mul_lt_mul_right h5 (by omega)
      have h7 : (hi + 1) * (2 * pw n) ≤ k * (2 * pw n) := Int.mul_le_mul_of_nonneg_right (by omega) (by omega)
      rw [Int.add_mul, Int.one_mul] at h7
      obtain ⟨w0, w1⟩ := hw
      exact ⟨by omega, by omega⟩
theorem pt_C {w n : Int} (hw : Wd w) (hn : n ≤ 63) (b : Bool) : CallC Tryz.prog 69 [.int .u64 w, .int .i64 n, .bool b] ⟨[], 0, []⟩ (.int .u64 (putI w n b)) ⟨[], 0, []⟩ := by
  have hr := putI_rng hw hn b
  unfold putI at hr ⊢
  by_cases hb : bitI w n = b
  · rw [if_pos hb]
    exact path E36ok 8 (pt_e w n b) (pcs_of ⟨⟨hw, hn⟩, beq_iff_eq.2 hb, trivial⟩) rfl
  · rw [if_neg hb] at hr ⊢
    cases b
    · have h := path E36ok 8 (pt_f w n) (pcs_of ⟨⟨hw, hn⟩, beq_eq_false_iff_ne.2 hb, hn, trivial⟩) rfl
      rw [if_neg (by simp)] at hr ⊢
      rw [w_u64 hr.1 hr.2] at h
      exact h
    · have h := path E36ok 8 (pt_t w n) (pcs_of ⟨⟨hw, hn⟩, beq_eq_false_iff_ne.2 hb, hn, trivial⟩) rfl
      rw [if_pos rfl] at hr ⊢
      rw [w_u64 hr.1 hr.2] at h
      exact h
def gPt (args : List Value) (hp : Hp) : Option (Value × Hp × List Prop) :=
  match args with
  | [.int .u64 w, .int .i64 n, .bool b] => some (.int .u64 (putI w n b), hp, [Wd w ∧ n ≤ 63])
  | _ => none
theorem gPt_ok : ∀ args hp v hp' pc, gPt args hp = some (v, hp', pc) → ∀ ds, CallOk Tryz.prog 69 args hp ⟨v, hp', ds, pc⟩ := by
  intro args hp v hp' pc hg ds
  unfold gPt at hg
  split at hg
  · rename_i w n b
    simp only [Option.some.injEq, Prod.mk.injEq] at hg
    obtain ⟨rfl, rfl, rfl⟩ := hg
    exact CallC.pure (enters (fn := Tryz.f69) (by kernel_rfl) (by kernel_rfl) rfl) (fun h => pt_C (hd1 h).1 (hd1 h).2 b) rfl rfl hp ds
  · cases hg
noncomputable def E37 : Env := E36.add 69 gPt
theorem E37ok : EnvOk E37 := E36ok.add gPt_ok
/-! The place of a slot on a side -/
open Dec in
section
variable (side slot : Int)
theorem at_1 : callR E37 8 93 [.int .i64 side, .int .i64 slot] ⟨[], 0, []⟩ [t, Dec.l, Dec.l, Dec.l] [] = some (.int .i64 (-1), ⟨[], 0, []⟩, [decide (side < 0) = true]) := by kernel_rfl
theorem at_2 : callR E37 8 93 [.int .i64 side, .int .i64 slot] ⟨[], 0, []⟩ [f, t, Dec.l, Dec.l] [] = some (.int .i64 (-1), ⟨[], 0, []⟩, [decide (side < 0) = false, decide (side > 1) = true]) := by kernel_rfl
theorem at_3 : callR E37 8 93 [.int .i64 side, .int .i64 slot] ⟨[], 0, []⟩ [f, f, t, Dec.l] [] = some (.int .i64 (-1), ⟨[], 0, []⟩, [decide (side < 0) = false, decide (side > 1) = false, decide (slot < 0) = true]) := by kernel_rfl
theorem at_4 : callR E37 8 93 [.int .i64 side, .int .i64 slot] ⟨[], 0, []⟩ [f, f, f, t] [] = some (.int .i64 (-1), ⟨[], 0, []⟩, [decide (side < 0) = false, decide (side > 1) = false, decide (slot < 0) = false, decide (slot > 11) = true]) := by kernel_rfl
theorem at_5 : callR E37 8 93 [.int .i64 side, .int .i64 slot] ⟨[], 0, []⟩ [f, f, f, f] [] = some (.int .i64 (w64 (w64 (12 * side) + slot)), ⟨[], 0, []⟩, [decide (side < 0) = false, decide (side > 1) = false, decide (slot < 0) = false, decide (slot > 11) = false]) := by kernel_rfl
end
theorem at_C (side slot : Int) : CallC Tryz.prog 93 [.int .i64 side, .int .i64 slot] ⟨[], 0, []⟩ (.int .i64 (atI side slot)) ⟨[], 0, []⟩ := by
  unfold atI
  by_cases h1 : side < 0
  · rw [if_pos (.inl h1)]
    exact path E37ok 8 (at_1 side slot) (pcs_of ⟨decide_eq_true h1, trivial⟩) rfl
  by_cases h2 : side > 1
  · rw [if_pos (.inr (.inl h2))]
    exact path E37ok 8 (at_2 side slot) (pcs_of ⟨decide_eq_false h1, decide_eq_true h2, trivial⟩) rfl
  by_cases h3 : slot < 0
  · rw [if_pos (.inr (.inr (.inl h3)))]
    exact path E37ok 8 (at_3 side slot) (pcs_of ⟨decide_eq_false h1, decide_eq_false h2, decide_eq_true h3, trivial⟩) rfl
  by_cases h4 : slot > 11
  · rw [if_pos (.inr (.inr (.inr h4)))]
    exact path E37ok 8 (at_4 side slot) (pcs_of ⟨decide_eq_false h1, decide_eq_false h2, decide_eq_false h3, decide_eq_true h4, trivial⟩) rfl
  · rw [if_neg (by omega)]
    have h := path E37ok 8 (at_5 side slot) (pcs_of ⟨decide_eq_false h1, decide_eq_false h2, decide_eq_false h3, decide_eq_false h4, trivial⟩) rfl
    rw [w64_in (n := 12 * side) (by omega) (by omega), w64_in (by omega) (by omega)] at h
    exact h
def gAt1 (args : List Value) (hp : Hp) : Option (Value × Hp × List Prop) :=
  match args with
  | [.int .i64 a, .int .i64 b] => some (.int .i64 (atI a b), hp, [])
  | _ => none
theorem gAt1_ok : ∀ args hp v hp' pc, gAt1 args hp = some (v, hp', pc) → ∀ ds, CallOk Tryz.prog 93 args hp ⟨v, hp', ds, pc⟩ := by
  intro args hp v hp' pc hg ds
  unfold gAt1 at hg
  split at hg
  · simp only [Option.some.injEq, Prod.mk.injEq] at hg
    obtain ⟨rfl, rfl, rfl⟩ := hg
    exact CallC.pure (enters (fn := Tryz.f93) (by kernel_rfl) (by kernel_rfl) rfl) (fun _ => at_C _ _) rfl rfl hp ds
  · cases hg
noncomputable def E38 : Env := E37.add 93 gAt1
theorem E38ok : EnvOk E38 := E37ok.add gAt1_ok
/-! With -/
open Dec in
section
variable (w side slot : Int)
theorem wi_t : callR E38 8 41 [.int .u64 w, .int .i64 side, .int .i64 slot] ⟨[], 0, []⟩ [t] [] = some (.int .u64 w, ⟨[], 0, []⟩, [decide (atI side slot < 0) = true]) := by kernel_rfl
theorem wi_f : callR E38 8 41 [.int .u64 w, .int .i64 side, .int .i64 slot] ⟨[], 0, []⟩ [f] [] = some (.int .u64 (putI w (atI side slot) true), ⟨[], 0, []⟩, [decide (atI side slot < 0) = false, Wd w ∧ atI side slot ≤ 63]) := by kernel_rfl
end
theorem wi_C {w : Int} (hw : Wd w) (side slot : Int) : CallC Tryz.prog 41 [.int .u64 w, .int .i64 side, .int .i64 slot] ⟨[], 0, []⟩ (.int .u64 (withI w side slot)) ⟨[], 0, []⟩ := by
  unfold withI
  by_cases h : atI side slot < 0
  · rw [if_pos h]
    exact path E38ok 8 (wi_t w side slot) (pcs_of ⟨decide_eq_true h, trivial⟩) rfl
  · rw [if_neg h]
    exact path E38ok 8 (wi_f w side slot) (pcs_of ⟨decide_eq_false h, ⟨hw, by have := (atI_le side slot).2; omega⟩, trivial⟩) rfl
theorem withI_rng {w : Int} (hw : Wd w) (side slot : Int) : Wd (withI w side slot) := by
  unfold withI
  split
  · exact hw
  · exact putI_rng hw (by have := (atI_le side slot).2; omega) true
def gWi (args : List Value) (hp : Hp) : Option (Value × Hp × List Prop) :=
  match args with
  | [.int .u64 w, .int .i64 a, .int .i64 b] => some (.int .u64 (withI w a b), hp, [Wd w])
  | _ => none
theorem gWi_ok : ∀ args hp v hp' pc, gWi args hp = some (v, hp', pc) → ∀ ds, CallOk Tryz.prog 41 args hp ⟨v, hp', ds, pc⟩ := by
  intro args hp v hp' pc hg ds
  unfold gWi at hg
  split at hg
  · simp only [Option.some.injEq, Prod.mk.injEq] at hg
    obtain ⟨rfl, rfl, rfl⟩ := hg
    exact CallC.pure (enters (fn := Tryz.f41) (by kernel_rfl) (by kernel_rfl) rfl) (fun h => wi_C (hd1 h) _ _) rfl rfl hp ds
  · cases hg
noncomputable def E39 : Env := E38.add 41 gWi
theorem E39ok : EnvOk E39 := E38ok.add gWi_ok
/-! The word of a state, and a generation -/
def nwI (st g : Int) : Int := 134217728 * st + 1073741824 * g
def nwA (st g : Int) : Int := u64 (u64 (0 + u64 (134217728 * u64 st)) + u64 (1073741824 * u64 g))
open Dec in
theorem nw1_path (st g : Int) : callR E39 12 48 [.int .i64 st, .int .i64 g] ⟨[], 0, []⟩ [Dec.l, Dec.l, Dec.l, Dec.l, f, f, f, f] [] = some (.int .u64 (putI (putI (putI (nwA st g) 24 false) 25 false) 26 false), ⟨[], 0, []⟩,
    [decide (st < 0) = false, decide (st > 7) = false, decide (g < 0) = false, decide (g > 1073741824) = false, (27 : Int) ≤ 63, (30 : Int) ≤ 63, Wd (nwA st g) ∧ (24 : Int) ≤ 63, Wd (putI (nwA st g) 24 false) ∧ (25 : Int) ≤ 63, Wd (putI (putI (nwA st g) 24 false) 25 false) ∧ (26 : Int) ≤ 63]) := by kernel_rfl
abbrev NwP (st g : Int) : Prop := 0 ≤ st ∧ st ≤ 7 ∧ 0 ≤ g ∧ g ≤ 1073741824
theorem nwA_eq {st g : Int} (h : NwP st g) : nwA st g = nwI st g := by
  obtain ⟨h1, h2, h3, h4⟩ := h
  unfold nwA nwI
  rw [w_u64 (n := st) (by omega) (by omega), w_u64 (n := g) (by omega) (by omega), w_u64 (n := 134217728 * st) (by omega) (by omega), w_u64 (n := 1073741824 * g) (by omega) (by omega), w_u64 (n := 0 + 134217728 * st) (by omega) (by omega), w_u64 (by omega) (by omega)]
  omega
theorem nwI_rng {st g : Int} (h : NwP st g) : Wd (nwI st g) := by
  obtain ⟨h1, h2, h3, h4⟩ := h
  unfold nwI
  exact ⟨by omega, by omega⟩
theorem nwI_off {st g : Int} (h : NwP st g) {n : Int} (hn : n = 24 ∨ n = 25 ∨ n = 26) : putI (nwI st g) n false = nwI st g := by
  obtain ⟨h1, h2, h3, h4⟩ := h
  unfold putI
  rw [if_pos]
  unfold bitI
  rw [beq_eq_false_iff_ne]
  rcases hn with rfl | rfl | rfl
  · show nwI st g / 16777216 % 2 ≠ 1
    unfold nwI
    omega
  · show nwI st g / 33554432 % 2 ≠ 1
    unfold nwI
    omega
  · show nwI st g / 67108864 % 2 ≠ 1
    unfold nwI
    omega
theorem nw1_C {st g : Int} (h : NwP st g) : CallC Tryz.prog 48 [.int .i64 st, .int .i64 g] ⟨[], 0, []⟩ (.int .u64 (nwI st g)) ⟨[], 0, []⟩ := by
  have e1 := nwA_eq h
  have e2 := nwI_off h (n := 24) (.inl rfl)
  have e3 := nwI_off h (n := 25) (.inr (.inl rfl))
  have e4 := nwI_off h (n := 26) (.inr (.inr rfl))
  have hr := nwI_rng h
  have hp := path E39ok 12 (nw1_path st g) (by
    rw [e1, e2, e3]
    exact pcs_of ⟨decide_eq_false (by omega), decide_eq_false (by omega), decide_eq_false (by omega), decide_eq_false (by omega), by decide, by decide, ⟨hr, by decide⟩, ⟨hr, by decide⟩, ⟨hr, by decide⟩, trivial⟩) rfl
  rw [e1, e2, e3, e4] at hp
  exact hp
def gNw1 (args : List Value) (hp : Hp) : Option (Value × Hp × List Prop) :=
  match args with
  | [.int .i64 a, .int .i64 b] => some (.int .u64 (nwI a b), hp, [NwP a b])
  | _ => none
theorem gNw1_ok : ∀ args hp v hp' pc, gNw1 args hp = some (v, hp', pc) → ∀ ds, CallOk Tryz.prog 48 args hp ⟨v, hp', ds, pc⟩ := by
  intro args hp v hp' pc hg ds
  unfold gNw1 at hg
  split at hg
  · simp only [Option.some.injEq, Prod.mk.injEq] at hg
    obtain ⟨rfl, rfl, rfl⟩ := hg
    exact CallC.pure (enters (fn := Tryz.f48) (by kernel_rfl) (by kernel_rfl) rfl) (fun h => nw1_C (hd1 h)) rfl rfl hp ds
  · cases hg
noncomputable def E39b : Env := E39.add 48 gNw1
theorem E39bok : EnvOk E39b := E39ok.add gNw1_ok
noncomputable def E40 : Env := E39b.add 51 gNw
theorem E40ok : EnvOk E40 := E39bok.add gNw_ok
/-! The bits above those of the sides stay -/
theorem pw24 {n : Int} (h : n ≤ 23) : ∃ k : Int, 16777216 = k * (2 * pw n) := by
  refine ⟨2 ^ (23 - n.toNat), ?_⟩
  have e : (2 : Int) ^ (23 - n.toNat) * (2 * 2 ^ n.toNat) = 2 ^ 24 := by
    rw [Int.mul_left_comm, ← Int.pow_add, show 23 - n.toNat + n.toNat = 23 by omega]
    rfl
  unfold pw
  rw [e]
  rfl
theorem putI_hi {w n : Int} (h0 : 0 ≤ w) (hn : n ≤ 23) (b : Bool) : putI w n b / 16777216 = w / 16777216 := by
  obtain ⟨hi, lo, h1, h2, h3, h4⟩ := bit_parts (n := n) h0
  have hp := pw_pos n
  obtain ⟨k, hk⟩ := pw24 hn
  unfold putI
  by_cases hb : bitI w n = b
  · rw [if_pos hb]
  · rw [if_neg hb]
    have hk0 : 0 < k := by
      by_cases h : 0 < k
      · exact h
      · have := Int.mul_nonpos_of_nonpos_of_nonneg (show k ≤ 0 by omega) (show 0 ≤ 2 * pw n by omega)
        omega
    have key : ∀ x, 0 ≤ x → x < 2 * pw n → (hi * (2 * pw n) + x) / 16777216 = hi / k := fun x x0 x1 => by
      rw [hk, Int.mul_comm k, ← Int.ediv_ediv_of_nonneg (by omega), Int.add_comm, Int.add_mul_ediv_right _ _ (by omega), Int.ediv_eq_zero_of_lt x0 x1, Int.zero_add]
    cases b
    · have : bitI w n = true := by simpa using hb
      rw [this, if_pos rfl] at h4
      rw [if_neg (by simp)]
      have e1 : w - pw n = hi * (2 * pw n) + lo := by omega
      have e2 : w = hi * (2 * pw n) + (pw n + lo) := by omega
      rw [e1, key _ h2 (by omega)]
      rw [e2, key _ (by omega) (by omega)]
    · have : bitI w n = false := by simpa using hb
      rw [this, if_neg (by simp)] at h4
      rw [if_pos rfl]
      have e1 : w + pw n = hi * (2 * pw n) + (pw n + lo) := by omega
      have e2 : w = hi * (2 * pw n) + lo := by omega
      rw [e1, key _ (by omega) (by omega)]
      rw [e2, key _ h2 (by omega)]
theorem withI_hi {w : Int} (h0 : 0 ≤ w) (side slot : Int) : withI w side slot / 16777216 = w / 16777216 := by
  unfold withI
  split
  · rfl
  · exact putI_hi h0 (atI_le side slot).2 true
theorem bitI_add {w n d : Int} (hn : n ≤ 23) : bitI (w + d * 16777216) n = bitI w n := by
  obtain ⟨k, hk⟩ := pw24 hn
  have hp := pw_pos n
  unfold bitI
  have e : w + d * 16777216 = w + (2 * (d * k)) * pw n := by
    rw [hk, Int.mul_assoc 2, ← Int.mul_assoc d, Int.mul_left_comm (d * k)]
  rw [e, Int.add_mul_ediv_right _ _ (by omega), Int.add_mul_emod_self_left]
theorem putI_add {w n d : Int} (hn : n ≤ 23) (b : Bool) : putI (w + d * 16777216) n b = putI w n b + d * 16777216 := by
  unfold putI
  rw [bitI_add hn]
  by_cases h : bitI w n = b
  · rw [if_pos h, if_pos h]
  · rw [if_neg h, if_neg h]
    cases b
    · simp only [Bool.false_eq_true, if_false]; omega
    · simp only [if_true]; omega
theorem withI_add (w d side slot : Int) : withI (w + d * 16777216) side slot = withI w side slot + d * 16777216 := by
  unfold withI
  split
  · rfl
  · exact putI_add (atI_le side slot).2 true
end Go.Proofs.YtocfhiafegkfkaaGreat.Ct
