/- A memory's accesses, the program's and the document's, are what plain functions of the words tell. -/
import Derived.Test.YtocfhiafegkfkaaGreatCtMem
namespace Go.Proofs.YtocfhiafegkfkaaGreat.Ct
open Go Go.Proofs Go.Proofs.YtocfhiafegkfkaaGreat.Ev
open Go.RowKit

abbrev ix (m : Mm) (kd n : Int) : Int := cellIx m.c kd n
abbrev cu (m : Mm) (kd n : Int) : Int := m.w.getD (ix m kd n).toNat 0
def Mm.put (m : Mm) (op kd n old new : Int) (dn : Bool) (w : List Int) : Mm := ⟨m.c, m.N, m.M, ⟨op, kd, n, old, new, dn⟩, w64 (m.n + 1), w⟩
/-- What an access leaves: the words behind it, and whether it is done. -/
def Mm.acc (m : Mm) (op kd n : Int) (w : List Int) (dn : Bool) : Mm := m.put op kd n (getW m.w (cellIx m.c kd n)) (getW w (cellIx m.c kd n)) dn w
def Mm.ok (m : Mm) : Prop := m.N = m.w.length ∧ (m.w.length : Int) = m.c.len

theorem set_same (w : List Int) (j : Nat) : w.set j (w.getD j 0) = w := by
  apply List.ext_getElem?
  intro i
  rw [List.getElem?_set]
  split
  · rename_i h
    subst h
    split
    · rename_i h
      rw [List.getD_eq_getElem?_getD, List.getElem?_eq_getElem h]
      rfl
    · rename_i h
      rw [List.getElem?_eq_none (by omega)]
  · rfl
theorem get_set_self {w : List Int} {j : Nat} (h : j < w.length) (v : Int) : (w.set j v).getD j 0 = v := by
  rw [List.getD_eq_getElem?_getD, List.getElem?_set_self h]
  rfl
theorem setW_len (w : List Int) (i v : Int) : (setW w i v).length = w.length := by
  unfold setW
  split <;> simp
theorem swpW_len (w : List Int) (i o v : Int) : (swpW w i o v).length = w.length := by
  unfold swpW
  split
  · exact setW_len _ _ _
  · rfl
theorem addW_len (w : List Int) (i v : Int) : (addW w i v).length = w.length := setW_len _ _ _
theorem Mm.ok.bnd {m : Mm} (h : m.ok) {kd n : Int} (h0 : 0 ≤ ix m kd n) : ix m kd n < (m.N : Int) ∧ (ix m kd n).toNat < m.w.length := by
  obtain ⟨h1, h2⟩ := h
  rcases cellIx_lt (c := m.c) kd n with h3 | h3
  · have : ix m kd n < m.c.len := h3
    omega
  · have : ix m kd n = -1 := h3
    omega
theorem getW_in {w : List Int} {i : Int} (h : 0 ≤ i) : getW w i = w.getD i.toNat 0 := if_pos h
theorem setW_in {w : List Int} {i v : Int} (h : 0 ≤ i) : setW w i v = w.set i.toNat v := if_pos h
theorem getW_out {w : List Int} {i : Int} (h : ¬ 0 ≤ i) : getW w i = 0 := if_neg h
theorem setW_out {w : List Int} {i v : Int} (h : ¬ 0 ≤ i) : setW w i v = w := if_neg h
theorem acc_in {m : Mm} (hok : m.ok) {kd n : Int} (h0 : 0 ≤ ix m kd n) (op new : Int) (dn : Bool) : m.put op kd n (cu m kd n) new dn (m.w.set (ix m kd n).toNat new) = m.acc op kd n (setW m.w (ix m kd n) new) dn := by
  unfold Mm.acc
  rw [setW_in h0, getW_in (i := cellIx m.c kd n) h0, getW_in (i := cellIx m.c kd n) h0, get_set_self (hok.bnd h0).2]
theorem acc_out {m : Mm} {kd n : Int} (h0 : ¬ 0 ≤ ix m kd n) (op : Int) (dn : Bool) : m.put op kd n 0 0 dn m.w = m.acc op kd n m.w dn := by
  unfold Mm.acc
  rw [getW_out (i := cellIx m.c kd n) h0]
theorem acc_same {m : Mm} {kd n : Int} (h0 : 0 ≤ ix m kd n) (op : Int) (dn : Bool) : m.put op kd n (cu m kd n) (cu m kd n) dn m.w = m.acc op kd n m.w dn := by
  unfold Mm.acc
  rw [getW_in (i := cellIx m.c kd n) h0]

def inP (m : Mm) (kd n : Int) : List Prop := [decide (ix m kd n ≥ 0) = true, 0 ≤ ix m kd n, ix m kd n < (m.N : Int), (ix m kd n).toNat < m.w.length]
def inQ (m : Mm) (kd n : Int) : List Prop := [0 ≤ ix m kd n, ix m kd n < (m.N : Int), (ix m kd n).toNat < m.w.length]
theorem inP_ok {m : Mm} (hok : m.ok) {kd n : Int} (h0 : 0 ≤ ix m kd n) : ∀ p ∈ inP m kd n, p := pcs_of ⟨decide_eq_true h0, h0, (hok.bnd h0).1, (hok.bnd h0).2, trivial⟩
theorem inQ_ok {m : Mm} (hok : m.ok) {kd n : Int} (h0 : 0 ≤ ix m kd n) : ∀ p ∈ inQ m kd n, p := pcs_of ⟨h0, (hok.bnd h0).1, (hok.bnd h0).2, trivial⟩
def outP (m : Mm) (kd n : Int) : List Prop := [decide (ix m kd n ≥ 0) = false]
theorem outP_ok {m : Mm} {kd n : Int} (h0 : ¬ 0 ≤ ix m kd n) : ∀ p ∈ outP m kd n, p := pcs_of ⟨decide_eq_false h0, trivial⟩

abbrev pt0 : Value := .pointer (some ⟨0, 0, none⟩)
abbrev spV (kd n : Int) : Value := .agg ⟨[.int .i64 kd, .int .i64 n]⟩
theorem z2L {tl : List Nat} : ∀ k, k < 2 → (0 :: 1 :: tl : List Nat).getD k 0 = k := fun k hk => by
  match k, hk with
  | 0, _ => rfl
  | 1, _ => rfl
open Dec in
section
variable (m : Mm) (kd n v o : Int)
theorem ld_t : callR E8 8 20 [pt0, spV kd n] (mHp m) [t] [0, 1] = some (.int .u64 (cu m kd n), mHp (m.put 1 kd n (cu m kd n) (cu m kd n) true (m.w.set (ix m kd n).toNat (cu m kd n))), inP m kd n ++ inQ m kd n) := by kernel_rfl
theorem ld_f : callR E8 8 20 [pt0, spV kd n] (mHp m) [f] [0, 1] = some (.int .u64 0, mHp (m.put 1 kd n 0 0 false m.w), outP m kd n) := by kernel_rfl
theorem st_t : callR E8 8 52 [pt0, spV kd n, .int .u64 v] (mHp m) [t] [0, 1] = some (.tuple ⟨[]⟩, mHp (m.put 2 kd n (cu m kd n) v true (m.w.set (ix m kd n).toNat v)), inP m kd n ++ inQ m kd n) := by kernel_rfl
theorem st_f : callR E8 8 52 [pt0, spV kd n, .int .u64 v] (mHp m) [f] [0, 1] = some (.tuple ⟨[]⟩, mHp (m.put 2 kd n 0 0 false m.w), outP m kd n) := by kernel_rfl
theorem sw_tt : callR E8 8 133 [pt0, spV kd n, .int .u64 o, .int .u64 v] (mHp m) [t, t] [0, 1] = some (.bool false, mHp (m.put 3 kd n (cu m kd n) (cu m kd n) false (m.w.set (ix m kd n).toNat (cu m kd n))), inP m kd n ++ ((cu m kd n != o) = true) :: inQ m kd n) := by kernel_rfl
theorem sw_tf : callR E8 8 133 [pt0, spV kd n, .int .u64 o, .int .u64 v] (mHp m) [t, f] [0, 1] = some (.bool true, mHp (m.put 3 kd n (cu m kd n) v true (m.w.set (ix m kd n).toNat v)), inP m kd n ++ ((cu m kd n != o) = false) :: inQ m kd n) := by kernel_rfl
theorem sw_f : callR E8 8 133 [pt0, spV kd n, .int .u64 o, .int .u64 v] (mHp m) [f] [0, 1] = some (.bool false, mHp (m.put 3 kd n 0 0 false m.w), outP m kd n) := by kernel_rfl
end

/-- Whether an access of a kind is done. -/
abbrev dnA (m : Mm) (kd n : Int) : Bool := decide (0 ≤ cellIx m.c kd n)
abbrev dnS (m : Mm) (kd n o : Int) : Bool := decide (0 ≤ cellIx m.c kd n) && (getW m.w (cellIx m.c kd n) == o)
abbrev mLd (m : Mm) (kd n : Int) : Mm := m.acc 1 kd n m.w (dnA m kd n)
abbrev mSt (m : Mm) (kd n v : Int) : Mm := m.acc 2 kd n (setW m.w (cellIx m.c kd n) v) (dnA m kd n)
abbrev mSw (m : Mm) (kd n o v : Int) : Mm := m.acc 3 kd n (swpW m.w (cellIx m.c kd n) o v) (dnS m kd n o)
abbrev mAd (m : Mm) (kd n v : Int) : Mm := m.acc 4 kd n (addW m.w (cellIx m.c kd n) v) (dnA m kd n)

theorem ld_C {m : Mm} (hok : m.ok) (kd n : Int) : CallC Tryz.prog 20 [pt0, spV kd n] (mHp m) (.int .u64 (getW m.w (cellIx m.c kd n))) (mHp (mLd m kd n)) := by
  by_cases h0 : 0 ≤ ix m kd n
  · have h := CallC.of_call E8ok (ld_t m kd n) (pcs_app (inP_ok hok h0) (inQ_ok hok h0)) rfl z2L
    rw [set_same, acc_same h0] at h
    rw [getW_in (i := cellIx m.c kd n) h0, mLd, dnA, decide_eq_true (p := 0 ≤ cellIx m.c kd n) h0]
    exact h
  · have h := CallC.of_call E8ok (ld_f m kd n) (outP_ok h0) rfl z2L
    rw [acc_out h0] at h
    rw [getW_out (i := cellIx m.c kd n) h0, mLd, dnA, decide_eq_false (p := 0 ≤ cellIx m.c kd n) h0]
    exact h
theorem st_C {m : Mm} (hok : m.ok) (kd n v : Int) : CallC Tryz.prog 52 [pt0, spV kd n, .int .u64 v] (mHp m) (.tuple ⟨[]⟩) (mHp (mSt m kd n v)) := by
  by_cases h0 : 0 ≤ ix m kd n
  · have h := CallC.of_call E8ok (st_t m kd n v) (pcs_app (inP_ok hok h0) (inQ_ok hok h0)) rfl z2L
    rw [acc_in hok h0] at h
    rw [mSt, dnA, decide_eq_true (p := 0 ≤ cellIx m.c kd n) h0]
    exact h
  · have h := CallC.of_call E8ok (st_f m kd n v) (outP_ok h0) rfl z2L
    rw [acc_out h0] at h
    rw [mSt, dnA, decide_eq_false (p := 0 ≤ cellIx m.c kd n) h0, setW_out (i := cellIx m.c kd n) h0]
    exact h
theorem sw_C {m : Mm} (hok : m.ok) (kd n o v : Int) : CallC Tryz.prog 133 [pt0, spV kd n, .int .u64 o, .int .u64 v] (mHp m) (.bool (dnS m kd n o)) (mHp (mSw m kd n o v)) := by
  by_cases h0 : 0 ≤ ix m kd n
  · have eg : getW m.w (cellIx m.c kd n) = cu m kd n := getW_in (i := cellIx m.c kd n) h0
    by_cases he : cu m kd n = o
    · have h := CallC.of_call E8ok (sw_tf m kd n v o) (pcs_app (inP_ok hok h0) (List.forall_mem_cons.2 ⟨by rw [he]; exact bne_self_eq_false _, inQ_ok hok h0⟩)) rfl z2L
      rw [acc_in hok h0] at h
      have e2 : dnS m kd n o = true := by rw [dnS, eg, he, decide_eq_true (p := 0 ≤ cellIx m.c kd n) h0]; simp
      rw [mSw, e2, swpW, eg, if_pos he]
      exact h
    · have h := CallC.of_call E8ok (sw_tt m kd n v o) (pcs_app (inP_ok hok h0) (List.forall_mem_cons.2 ⟨bne_iff_ne.2 he, inQ_ok hok h0⟩)) rfl z2L
      rw [set_same, acc_same h0] at h
      have e2 : dnS m kd n o = false := by
        rw [dnS, eg, decide_eq_true (p := 0 ≤ cellIx m.c kd n) h0, Bool.true_and]
        exact beq_eq_false_iff_ne.2 he
      rw [mSw, e2, swpW, eg, if_neg he]
      exact h
  · have h := CallC.of_call E8ok (sw_f m kd n v o) (outP_ok h0) rfl z2L
    rw [acc_out h0] at h
    have e2 : dnS m kd n o = false := by rw [dnS, decide_eq_false (p := 0 ≤ cellIx m.c kd n) h0]; rfl
    have e3 : swpW m.w (cellIx m.c kd n) o v = m.w := by
      unfold swpW
      rw [setW_out (i := cellIx m.c kd n) h0]
      split <;> rfl
    rw [mSw, e2, e3]
    exact h
def gLd (args : List Value) (hp : Hp) : Option (Value × Hp × List Prop) :=
  match args with
  | [.pointer (some ⟨k, 0, none⟩), .agg ⟨[.int .i64 kd, .int .i64 n]⟩] => match memOf hp k with
    | some (wn, m) => some (.int .u64 (getW m.w (cellIx m.c kd n)), memPut hp k wn (mLd m kd n), [m.ok])
    | none => none
  | _ => none
def gSt (args : List Value) (hp : Hp) : Option (Value × Hp × List Prop) :=
  match args with
  | [.pointer (some ⟨k, 0, none⟩), .agg ⟨[.int .i64 kd, .int .i64 n]⟩, .int .u64 v] => match memOf hp k with
    | some (wn, m) => some (.tuple ⟨[]⟩, memPut hp k wn (mSt m kd n v), [m.ok])
    | none => none
  | _ => none
def gSw (args : List Value) (hp : Hp) : Option (Value × Hp × List Prop) :=
  match args with
  | [.pointer (some ⟨k, 0, none⟩), .agg ⟨[.int .i64 kd, .int .i64 n]⟩, .int .u64 o, .int .u64 v] => match memOf hp k with
    | some (wn, m) => some (.bool (dnS m kd n o), memPut hp k wn (mSw m kd n o v), [m.ok])
    | none => none
  | _ => none
theorem hd1 {p : Prop} (h : ∀ q ∈ [p], q) : p := h _ (List.mem_singleton.2 rfl)
theorem gLd_ok : ∀ args hp v hp' pc, gLd args hp = some (v, hp', pc) → ∀ ds, CallOk Tryz.prog 20 args hp ⟨v, hp', ds, pc⟩ := by
  intro args hp v hp' pc hg ds
  unfold gLd at hg
  split at hg
  · split at hg
    · rename_i h
      simp only [Option.some.injEq, Prod.mk.injEq] at hg
      obtain ⟨rfl, rfl, rfl⟩ := hg
      exact mem_lift (enters (fn := Tryz.f20) (by kernel_rfl) (by kernel_rfl) rfl) (fun hp => ld_C (hd1 hp) _ _) rfl rfl h ds
    · cases hg
  · cases hg
theorem gSt_ok : ∀ args hp v hp' pc, gSt args hp = some (v, hp', pc) → ∀ ds, CallOk Tryz.prog 52 args hp ⟨v, hp', ds, pc⟩ := by
  intro args hp v hp' pc hg ds
  unfold gSt at hg
  split at hg
  · split at hg
    · rename_i h
      simp only [Option.some.injEq, Prod.mk.injEq] at hg
      obtain ⟨rfl, rfl, rfl⟩ := hg
      exact mem_lift (enters (fn := Tryz.f52) (by kernel_rfl) (by kernel_rfl) rfl) (fun hp => st_C (hd1 hp) _ _ _) rfl rfl h ds
    · cases hg
  · cases hg
theorem gSw_ok : ∀ args hp v hp' pc, gSw args hp = some (v, hp', pc) → ∀ ds, CallOk Tryz.prog 133 args hp ⟨v, hp', ds, pc⟩ := by
  intro args hp v hp' pc hg ds
  unfold gSw at hg
  split at hg
  · split at hg
    · rename_i h
      simp only [Option.some.injEq, Prod.mk.injEq] at hg
      obtain ⟨rfl, rfl, rfl⟩ := hg
      exact mem_lift (enters (fn := Tryz.f133) (by kernel_rfl) (by kernel_rfl) rfl) (fun hp => sw_C (hd1 hp) _ _ _ _) rfl rfl h ds
    · cases hg
  · cases hg
noncomputable def E9 : Env := ((E8.add 20 gLd).add 52 gSt).add 133 gSw
theorem E9ok : EnvOk E9 := ((E8ok.add gLd_ok).add gSt_ok).add gSw_ok
end Go.Proofs.YtocfhiafegkfkaaGreat.Ct
