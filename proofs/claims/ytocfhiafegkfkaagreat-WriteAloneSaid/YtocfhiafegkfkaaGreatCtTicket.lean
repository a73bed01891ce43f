/- Tickets, the program's and the document's; a status's generation, and its word out of its parts. -/
import Derived.Test.YtocfhiafegkfkaaGreatCtJoin2
namespace Go.Proofs.YtocfhiafegkfkaaGreat.Ct
open Go Go.Proofs Go.Proofs.YtocfhiafegkfkaaGreat.Ev
open Go.RowKit

def tkOk (h : Int) : Bool := decide (1 ≤ h % 16) && decide (h % 16 ≤ 12)
def tkS (h : Int) : Int := if tkOk h = true then h % 16 - 1 else 0
def tkG (h : Int) : Int := if h / 16 > 1073741823 then 1073741824 else h / 16
def ofOk (h s : Int) : Bool := tkOk h && decide (tkS h < s) && decide (tkG h ≤ 1073741823)
def slV (h : Int) : Value := .tuple ⟨[.int .i64 (tkS h), .bool (tkOk h)]⟩
def tkOf (h s : Int) : Value := .tuple ⟨[.int .i64 (if ofOk h s = true then tkS h else 0), .int .i64 (if ofOk h s = true then tkG h else 0), .bool (ofOk h s)]⟩
def gI1 (pre : Int → Prop) (r : Int → Value) (args : List Value) (hp : Hp) : Option (Value × Hp × List Prop) :=
  match args with
  | [.int .u64 w] => some (r w, hp, [pre w])
  | _ => none
theorem gI1_ok {pre : Int → Prop} {r : Int → Value} {f : FuncId} (hent : Enters Tryz.prog f) (hn : ∀ w, nm (r w) = []) (hC : ∀ w, pre w → CallC Tryz.prog f [.int .u64 w] ⟨[], 0, []⟩ (r w) ⟨[], 0, []⟩) :
    ∀ args hp v hp' pc, gI1 pre r args hp = some (v, hp', pc) → ∀ ds, CallOk Tryz.prog f args hp ⟨v, hp', ds, pc⟩ := by
  intro args hp v hp' pc hg ds
  unfold gI1 at hg
  split at hg
  · simp only [Option.some.injEq, Prod.mk.injEq] at hg
    obtain ⟨rfl, rfl, rfl⟩ := hg
    exact CallC.pure hent (fun h => hC _ (hd1 h)) rfl (hn _) hp ds
  · cases hg
def gIs (r : Int → Int → Value) (args : List Value) (hp : Hp) : Option (Value × Hp × List Prop) :=
  match args with
  | [.int .u64 w, .int .i64 s] => some (r w s, hp, [Wd w])
  | _ => none
theorem gIs_ok {r : Int → Int → Value} {f : FuncId} (hent : Enters Tryz.prog f) (hn : ∀ w s, nm (r w s) = []) (hC : ∀ w s, Wd w → CallC Tryz.prog f [.int .u64 w, .int .i64 s] ⟨[], 0, []⟩ (r w s) ⟨[], 0, []⟩) :
    ∀ args hp v hp' pc, gIs r args hp = some (v, hp', pc) → ∀ ds, CallOk Tryz.prog f args hp ⟨v, hp', ds, pc⟩ := by
  intro args hp v hp' pc hg ds
  unfold gIs at hg
  split at hg
  · simp only [Option.some.injEq, Prod.mk.injEq] at hg
    obtain ⟨rfl, rfl, rfl⟩ := hg
    exact CallC.pure hent (fun h => hC _ _ (hd1 h)) rfl (hn _ _) hp ds
  · cases hg
def b15 (h : Int) : Int := w64 (w64 (u64 ((BitVec.ofInt 64 h &&& BitVec.ofInt 64 15).toNat : Int)) - 1)
theorem b15_eq {h : Int} (hw : Wd h) : b15 h = h % 16 - 1 := by
  have h1 := andM (x := h) hw.1 hw.2 4 (by omega)
  rw [show ((2 : Int) ^ 4 - 1) = 15 from rfl, show ((2 : Int) ^ 4) = 16 from rfl] at h1
  unfold b15
  rw [h1, w_u64 (by omega) (by omega), w64_in (n := h % 16) (by omega) (by omega), w64_in (by omega) (by omega)]
open Dec in
section
variable (h : Int)
theorem ts_1 : callR E45 20 97 [.int .u64 h] ⟨[], 0, []⟩ [t, Dec.l] [] = some (.tuple ⟨[.int .i64 0, .bool false]⟩, ⟨[], 0, []⟩, [(0 : Int) ≤ 0, (0 : Int) < 2, (0 : Int) ≤ 1, (1 : Int) < 2, (0 : Int) ≤ 4, (0 : Int) ≤ 0, (0 : Int) < 2, decide (b15 h < 0) = true]) := by kernel_rfl
theorem ts_2 : callR E45 20 97 [.int .u64 h] ⟨[], 0, []⟩ [f, t] [] = some (.tuple ⟨[.int .i64 0, .bool false]⟩, ⟨[], 0, []⟩, [(0 : Int) ≤ 0, (0 : Int) < 2, (0 : Int) ≤ 1, (1 : Int) < 2, (0 : Int) ≤ 4, (0 : Int) ≤ 0, (0 : Int) < 2, decide (b15 h < 0) = false, decide (b15 h ≥ 12) = true]) := by kernel_rfl
theorem ts_3 : callR E45 20 97 [.int .u64 h] ⟨[], 0, []⟩ [f, f] [] = some (.tuple ⟨[.int .i64 (b15 h), .bool true]⟩, ⟨[], 0, []⟩, [(0 : Int) ≤ 0, (0 : Int) < 2, (0 : Int) ≤ 1, (1 : Int) < 2, (0 : Int) ≤ 4, (0 : Int) ≤ 0, (0 : Int) < 2, decide (b15 h < 0) = false, decide (b15 h ≥ 12) = false]) := by kernel_rfl
theorem tg_1 : callR E45 20 98 [.int .u64 h] ⟨[], 0, []⟩ [] [] = some (.int .i64 (w64 (if 1073741824 < h.fdiv 16 then 1073741824 else h.fdiv 16)), ⟨[], 0, []⟩, [(0 : Int) ≤ 0, (0 : Int) < 2, (0 : Int) ≤ 1, (1 : Int) < 2, (0 : Int) ≤ 4, (0 : Int) ≤ 1, (1 : Int) < 2]) := by kernel_rfl
theorem ds_1 : callR E45 20 64 [.int .u64 h] ⟨[], 0, []⟩ [t, Dec.l] [] = some (.tuple ⟨[.int .i64 0, .bool false]⟩, ⟨[], 0, []⟩, [(16 : Int) ≠ 0, decide (h.tmod 16 < 1) = true]) := by kernel_rfl
theorem ds_2 : callR E45 20 64 [.int .u64 h] ⟨[], 0, []⟩ [f, t] [] = some (.tuple ⟨[.int .i64 0, .bool false]⟩, ⟨[], 0, []⟩, [(16 : Int) ≠ 0, decide (h.tmod 16 < 1) = false, (16 : Int) ≠ 0, decide (h.tmod 16 > 12) = true]) := by kernel_rfl
theorem ds_3 : callR E45 20 64 [.int .u64 h] ⟨[], 0, []⟩ [f, f] [] = some (.tuple ⟨[.int .i64 (w64 (w64 (h.tmod 16) - 1)), .bool true]⟩, ⟨[], 0, []⟩, [(16 : Int) ≠ 0, decide (h.tmod 16 < 1) = false, (16 : Int) ≠ 0, decide (h.tmod 16 > 12) = false, (16 : Int) ≠ 0]) := by kernel_rfl
theorem dg_1 : callR E45 20 65 [.int .u64 h] ⟨[], 0, []⟩ [t] [] = some (.int .i64 1073741824, ⟨[], 0, []⟩, [(16 : Int) ≠ 0, decide (u64 (h.tdiv 16) > 1073741823) = true]) := by kernel_rfl
theorem dg_2 : callR E45 20 65 [.int .u64 h] ⟨[], 0, []⟩ [f] [] = some (.int .i64 (w64 (u64 (h.tdiv 16))), ⟨[], 0, []⟩, [(16 : Int) ≠ 0, decide (u64 (h.tdiv 16) > 1073741823) = false, (16 : Int) ≠ 0]) := by kernel_rfl
end
theorem tkOk_iff {h : Int} : tkOk h = true ↔ 1 ≤ h % 16 ∧ h % 16 ≤ 12 := by unfold tkOk; rw [Bool.and_eq_true, decide_eq_true_eq, decide_eq_true_eq]
theorem slV_no {h : Int} (hn : ¬ (1 ≤ h % 16 ∧ h % 16 ≤ 12)) : slV h = .tuple ⟨[.int .i64 0, .bool false]⟩ := by
  have e : tkOk h = false := eq_false_of_ne_true fun e => hn (tkOk_iff.1 e)
  unfold slV tkS
  rw [e, if_neg (by simp)]
theorem slV_yes {h : Int} (hn : 1 ≤ h % 16 ∧ h % 16 ≤ 12) : slV h = .tuple ⟨[.int .i64 (h % 16 - 1), .bool true]⟩ := by
  have e : tkOk h = true := tkOk_iff.2 hn
  unfold slV tkS
  rw [e, if_pos rfl]
theorem ts_C {h : Int} (hw : Wd h) : CallC Tryz.prog 97 [.int .u64 h] ⟨[], 0, []⟩ (slV h) ⟨[], 0, []⟩ := by
  have e := b15_eq hw
  by_cases h1 : h % 16 < 1
  · rw [slV_no (by omega)]
    exact path E45ok 20 (ts_1 h) (pcs_of ⟨by decide, by decide, by decide, by decide, by decide, by decide, by decide, decide_eq_true (by omega), trivial⟩) rfl
  by_cases h2 : h % 16 > 12
  · rw [slV_no (by omega)]
    exact path E45ok 20 (ts_2 h) (pcs_of ⟨by decide, by decide, by decide, by decide, by decide, by decide, by decide, decide_eq_false (by omega), decide_eq_true (by omega), trivial⟩) rfl
  rw [slV_yes (by omega), ← e]
  exact path E45ok 20 (ts_3 h) (pcs_of ⟨by decide, by decide, by decide, by decide, by decide, by decide, by decide, decide_eq_false (by omega), decide_eq_false (by omega), trivial⟩) rfl
theorem ds_C {h : Int} (hw : Wd h) : CallC Tryz.prog 64 [.int .u64 h] ⟨[], 0, []⟩ (slV h) ⟨[], 0, []⟩ := by
  have e : h.tmod 16 = h % 16 := Int.tmod_eq_emod_of_nonneg hw.1
  by_cases h1 : h % 16 < 1
  · rw [slV_no (by omega)]
    exact path E45ok 20 (ds_1 h) (pcs_of ⟨by decide, by rw [e]; exact decide_eq_true h1, trivial⟩) rfl
  by_cases h2 : h % 16 > 12
  · rw [slV_no (by omega)]
    exact path E45ok 20 (ds_2 h) (pcs_of ⟨by decide, by rw [e]; exact decide_eq_false h1, by decide, by rw [e]; exact decide_eq_true h2, trivial⟩) rfl
  have hp := path E45ok 20 (ds_3 h) (pcs_of ⟨by decide, by rw [e]; exact decide_eq_false h1, by decide, by rw [e]; exact decide_eq_false h2, by decide, trivial⟩) rfl
  rw [e, w64_in (n := h % 16) (by omega) (by omega), w64_in (by omega) (by omega)] at hp
  rw [slV_yes (by omega)]
  exact hp
theorem tg_C {h : Int} (hw : Wd h) : CallC Tryz.prog 98 [.int .u64 h] ⟨[], 0, []⟩ (.int .i64 (tkG h)) ⟨[], 0, []⟩ := by
  have hp := path E45ok 20 (tg_1 h) (by simp) rfl
  have e : w64 (if 1073741824 < h.fdiv 16 then 1073741824 else h.fdiv 16) = tkG h := by
    have := hw.1
    rw [Int.fdiv_eq_ediv_of_nonneg _ (by omega)]
    unfold tkG
    by_cases h1 : h / 16 > 1073741823
    · rw [if_pos h1]
      by_cases h2 : 1073741824 < h / 16
      · rw [if_pos h2]; decide
      · rw [if_neg h2, show h / 16 = 1073741824 by omega]; decide
    · rw [if_neg h1, if_neg (by omega), w64_in (by omega) (by omega)]
  rw [e] at hp
  exact hp
theorem dg_C4 {h : Int} (hw : Wd h) : CallC Tryz.prog 65 [.int .u64 h] ⟨[], 0, []⟩ (.int .i64 (tkG h)) ⟨[], 0, []⟩ := by
  have h0 := hw.1
  have h9 := hw.2
  have e : u64 (h.tdiv 16) = h / 16 := by rw [tdiv_nn h0, w_u64 (by omega) (by omega)]
  unfold tkG
  by_cases h1 : h / 16 > 1073741823
  · rw [if_pos h1]
    exact path E45ok 20 (dg_1 h) (pcs_of ⟨by decide, by rw [e]; exact decide_eq_true h1, trivial⟩) rfl
  · rw [if_neg h1]
    have hp := path E45ok 20 (dg_2 h) (pcs_of ⟨by decide, by rw [e]; exact decide_eq_false h1, by decide, trivial⟩) rfl
    rw [e, w64_in (by omega) (by omega)] at hp
    exact hp
abbrev tkGV (h : Int) : Value := .int .i64 (tkG h)
abbrev rGen (w : Int) : Value := .int .i64 (nuI w 30 32)
noncomputable def Eg1 : Env := ((((E49.add 97 (gI1 Wd slV)).add 64 (gI1 Wd slV)).add 98 (gI1 Wd tkGV)).add 65 (gI1 Wd tkGV)).add 40 (gW1 rGen)
theorem Eg1ok : EnvOk Eg1 :=
  ((((E49ok.add (gI1_ok (enters (fn := Tryz.f97) (by kernel_rfl) (by kernel_rfl) rfl) (fun _ => rfl) (fun _ h => ts_C h))).add (gI1_ok (enters (fn := Tryz.f64) (by kernel_rfl) (by kernel_rfl) rfl) (fun _ => rfl) (fun _ h => ds_C h))).add (gI1_ok (enters (fn := Tryz.f98) (by kernel_rfl) (by kernel_rfl) rfl) (fun _ => rfl) (fun _ h => tg_C h))).add
    (gI1_ok (enters (fn := Tryz.f65) (by kernel_rfl) (by kernel_rfl) rfl) (fun _ => rfl) (fun _ h => dg_C4 h))).add (gW1_ok (r := rGen) (enters (fn := Tryz.f40) (by kernel_rfl) (by kernel_rfl) rfl) (fun _ => rfl) (fun w h => path E45ok 20 (ds := []) (pc := [Wd w ∧ (30 : Int) ≤ 63 ∧ (32 : Int) ≤ 62]) (by kernel_rfl) (pcs_of ⟨⟨h, by decide, by decide⟩, trivial⟩) rfl))
/-! Both at once -/
def ofD (x y z : Dec) : List Dec := [x, y, z, .l, .l, .l, .l]
open Dec in
section
variable (h s : Int)
theorem to_1 : callR Eg1 20 53 [.int .u64 h, .int .i64 s] ⟨[], 0, []⟩ (ofD t l l) [] = some (.tuple ⟨[.int .i64 0, .int .i64 0, .bool false]⟩, ⟨[], 0, []⟩, [Wd h, Wd h, (!tkOk h) = true]) := by kernel_rfl
theorem to_2 : callR Eg1 20 53 [.int .u64 h, .int .i64 s] ⟨[], 0, []⟩ (ofD f t l) [] = some (.tuple ⟨[.int .i64 0, .int .i64 0, .bool false]⟩, ⟨[], 0, []⟩, [Wd h, Wd h, (!tkOk h) = false, decide (tkS h ≥ s) = true]) := by kernel_rfl
theorem to_3 : callR Eg1 20 53 [.int .u64 h, .int .i64 s] ⟨[], 0, []⟩ (ofD f f t) [] = some (.tuple ⟨[.int .i64 0, .int .i64 0, .bool false]⟩, ⟨[], 0, []⟩, [Wd h, Wd h, (!tkOk h) = false, decide (tkS h ≥ s) = false, decide (tkG h > 1073741823) = true]) := by kernel_rfl
theorem to_4 : callR Eg1 20 53 [.int .u64 h, .int .i64 s] ⟨[], 0, []⟩ (ofD f f f) [] = some (.tuple ⟨[.int .i64 (tkS h), .int .i64 (tkG h), .bool true]⟩, ⟨[], 0, []⟩, [Wd h, Wd h, (!tkOk h) = false, decide (tkS h ≥ s) = false, decide (tkG h > 1073741823) = false]) := by kernel_rfl
theorem do_1 : callR Eg1 20 25 [.int .u64 h, .int .i64 s] ⟨[], 0, []⟩ (ofD t l l) [] = some (.tuple ⟨[.int .i64 0, .int .i64 0, .bool false]⟩, ⟨[], 0, []⟩, [Wd h, (!tkOk h) = true]) := by kernel_rfl
theorem do_2 : callR Eg1 20 25 [.int .u64 h, .int .i64 s] ⟨[], 0, []⟩ (ofD f t l) [] = some (.tuple ⟨[.int .i64 0, .int .i64 0, .bool false]⟩, ⟨[], 0, []⟩, [Wd h, (!tkOk h) = false, decide (tkS h ≥ s) = true]) := by kernel_rfl
theorem do_3 : callR Eg1 20 25 [.int .u64 h, .int .i64 s] ⟨[], 0, []⟩ (ofD f f t) [] = some (.tuple ⟨[.int .i64 0, .int .i64 0, .bool false]⟩, ⟨[], 0, []⟩, [Wd h, (!tkOk h) = false, decide (tkS h ≥ s) = false, Wd h, decide (tkG h > 1073741823) = true]) := by kernel_rfl
theorem do_4 : callR Eg1 20 25 [.int .u64 h, .int .i64 s] ⟨[], 0, []⟩ (ofD f f f) [] = some (.tuple ⟨[.int .i64 (tkS h), .int .i64 (tkG h), .bool true]⟩, ⟨[], 0, []⟩, [Wd h, (!tkOk h) = false, decide (tkS h ≥ s) = false, Wd h, decide (tkG h > 1073741823) = false, Wd h]) := by kernel_rfl
end
theorem of_no {h s : Int} (hn : ofOk h s = false) : tkOf h s = .tuple ⟨[.int .i64 0, .int .i64 0, .bool false]⟩ := by
  unfold tkOf
  rw [hn, if_neg (by simp), if_neg (by simp)]
theorem of_yes {h s : Int} (hn : ofOk h s = true) : tkOf h s = .tuple ⟨[.int .i64 (tkS h), .int .i64 (tkG h), .bool true]⟩ := by
  unfold tkOf
  rw [hn, if_pos rfl, if_pos rfl]
theorem to_C {h : Int} (hw : Wd h) (s : Int) : CallC Tryz.prog 53 [.int .u64 h, .int .i64 s] ⟨[], 0, []⟩ (tkOf h s) ⟨[], 0, []⟩ := by
  cases h1 : tkOk h
  · rw [of_no (by unfold ofOk; rw [h1]; rfl)]
    exact path Eg1ok 20 (to_1 h s) (pcs_of ⟨hw, hw, by rw [h1]; rfl, trivial⟩) rfl
  by_cases h2 : tkS h ≥ s
  · rw [of_no (by unfold ofOk; rw [h1, decide_eq_false (by omega)]; rfl)]
    exact path Eg1ok 20 (to_2 h s) (pcs_of ⟨hw, hw, by rw [h1]; rfl, decide_eq_true h2, trivial⟩) rfl
  by_cases h3 : tkG h > 1073741823
  · rw [of_no (by unfold ofOk; rw [decide_eq_false (show ¬ tkG h ≤ 1073741823 by omega), Bool.and_false])]
    exact path Eg1ok 20 (to_3 h s) (pcs_of ⟨hw, hw, by rw [h1]; rfl, decide_eq_false h2, decide_eq_true h3, trivial⟩) rfl
  · rw [of_yes (by unfold ofOk; rw [h1, decide_eq_true (show tkS h < s by omega), decide_eq_true (show tkG h ≤ 1073741823 by omega)]; rfl)]
    exact path Eg1ok 20 (to_4 h s) (pcs_of ⟨hw, hw, by rw [h1]; rfl, decide_eq_false h2, decide_eq_false h3, trivial⟩) rfl
theorem do_C {h : Int} (hw : Wd h) (s : Int) : CallC Tryz.prog 25 [.int .u64 h, .int .i64 s] ⟨[], 0, []⟩ (tkOf h s) ⟨[], 0, []⟩ := by
  cases h1 : tkOk h
  · rw [of_no (by unfold ofOk; rw [h1]; rfl)]
    exact path Eg1ok 20 (do_1 h s) (pcs_of ⟨hw, by rw [h1]; rfl, trivial⟩) rfl
  by_cases h2 : tkS h ≥ s
  · rw [of_no (by unfold ofOk; rw [h1, decide_eq_false (by omega)]; rfl)]
    exact path Eg1ok 20 (do_2 h s) (pcs_of ⟨hw, by rw [h1]; rfl, decide_eq_true h2, trivial⟩) rfl
  by_cases h3 : tkG h > 1073741823
  · rw [of_no (by unfold ofOk; rw [decide_eq_false (show ¬ tkG h ≤ 1073741823 by omega), Bool.and_false])]
    exact path Eg1ok 20 (do_3 h s) (pcs_of ⟨hw, by rw [h1]; rfl, decide_eq_false h2, hw, decide_eq_true h3, trivial⟩) rfl
  · rw [of_yes (by unfold ofOk; rw [h1, decide_eq_true (show tkS h < s by omega), decide_eq_true (show tkG h ≤ 1073741823 by omega)]; rfl)]
    exact path Eg1ok 20 (do_4 h s) (pcs_of ⟨hw, by rw [h1]; rfl, decide_eq_false h2, hw, decide_eq_false h3, hw, trivial⟩) rfl
noncomputable def Eg2 : Env := (Eg1.add 53 (gIs tkOf)).add 25 (gIs tkOf)
theorem Eg2ok : EnvOk Eg2 :=
  (Eg1ok.add (gIs_ok (enters (fn := Tryz.f53) (by kernel_rfl) (by kernel_rfl) rfl) (fun _ _ => rfl) (fun _ s h => to_C h s))).add (gIs_ok (enters (fn := Tryz.f25) (by kernel_rfl) (by kernel_rfl) rfl) (fun _ _ => rfl) (fun _ s h => do_C h s))
/-! A row of numbers, whether a number is in it -/
def inB (l : List Int) (x : Int) : Bool := l.contains x
end Go.Proofs.YtocfhiafegkfkaaGreat.Ct
