/- Contracts of the document's words of a status, and of the Tally. -/
import Derived.Test.YtjkohcdgjlaobaaCtGraced
import Derived.Test.YtjkohcdgjlaobaaCtMove
namespace Go.Proofs.Ytjkohcdgjlaobaa.Ct
open Go Go.Proofs Go.Proofs.Ytjkohcdgjlaobaa.Ev
open Go.RowKit

theorem law_play2 {E E' : Env} (hE : EnvOk E) (hP : E.P = E'.P) {n : Nat} {f : FuncId} {c : Cfg} {v : Value} {l : List Int} {ks : List IntKind} {zs : List Int} {sv : Value} {rows : List (List Int)} {w : World} (hl : RowIn .u64 w v l) (hs : RowR pkK w sv rows)
    (hin : c.Right → (l.length : Int) = c.len → ∀ off cap (pk : Pk), (pk = .nil ∨ ∃ of2 cap2, pk = .row of2 cap2 rows) → ∃ hp1, CallC E'.P f [c.v, .slice (some ⟨0, off, none⟩) l.length cap, .agg ⟨rowV ks zs ++ [pk.sv 1]⟩] (plHp l off pk) (.bool true) hp1)
    (hno : ¬ c.Right → ∀ a m cap (pk : Pk), ∃ ds pc, told (doCall E n f [c.v, .slice a m cap, .agg ⟨rowV ks zs ++ [pk.sv 1]⟩] ⟨[], 2, []⟩ ds) = some (.bool true, pc) ∧ ∀ p ∈ pc, p)
    (hlen : c.Right → ∀ a (m cap : Nat) (pk : Pk), (m : Int) ≠ c.len → ∃ ds pc, told (doCall E n f [c.v, .slice a m cap, .agg ⟨rowV ks zs ++ [pk.sv 1]⟩] ⟨[], 2, []⟩ ds) = some (.bool true, pc) ∧ ∀ p ∈ pc, p) :
    Calls E'.P f #[c.v, v, .agg ⟨rowV ks zs ++ [sv]⟩] w fun e w1 => e = .returned (.bool true) ∧ Below w.heap.size w w1 := by
  by_cases h : c.Right ∧ (l.length : Int) = c.len
  · obtain ⟨hr, hlen⟩ := h
    have hcl := Cfg.len_in hr
    rcases hl with ⟨_, rfl⟩ | ⟨b, off, cap, rfl, hcell, _, hblk⟩
    · simp at hlen
      omega
    · rcases hs with ⟨rfl, rfl⟩ | ⟨b2, of2, cap2, rfl, hcell2, _, hblk2⟩
      · obtain ⟨hp1, hC⟩ := hin hr hlen off cap .nil (.inl rfl)
        have hargs : VRL (fun k => k < 2) (fun _ => b) [c.v, .slice (some ⟨0, off, none⟩) l.length cap, .agg ⟨rowV ks zs ++ [.slice none 0 0]⟩] [c.v, .slice (some ⟨b, off, none⟩) l.length cap, .agg ⟨rowV ks zs ++ [.slice none 0 0]⟩] := fun ρ' ha => by
          have e0 : ρ' 0 = b := ha 0 (by omega)
          simp [Cfg.ren_v, ren, renA, renL_map, e0, rowV_nm]
        exact calls_of_C hC rfl view_isV hargs (HR_row2 (ρ := fun _ => b) Nat.zero_lt_two hcell hblk)
      · obtain ⟨hp1, hC⟩ := hin hr hlen off cap (.row of2 cap2 rows) (.inr ⟨of2, cap2, rfl⟩)
        let ρ : Nat → Nat := fun k => if k = 0 then b else b2
        have hargs : VRL (fun k => k < 2) ρ [c.v, .slice (some ⟨0, off, none⟩) l.length cap, .agg ⟨rowV ks zs ++ [.slice (some ⟨1, of2, none⟩) rows.length cap2]⟩] [c.v, .slice (some ⟨b, off, none⟩) l.length cap, .agg ⟨rowV ks zs ++ [.slice (some ⟨b2, of2, none⟩) rows.length cap2]⟩] := fun ρ' ha => by
          have e0 : ρ' 0 = b := ha 0 (by omega)
          have e1 : ρ' 1 = b2 := ha 1 (by omega)
          simp [Cfg.ren_v, ren, renA, renL_map, e0, e1, rowV_nm]
        exact calls_of_C hC rfl (two_isV rfl rfl) hargs (HR_two rfl rfl (sat_ints hcell hblk) (sat_recs hcell2 hblk2))
  · obtain ⟨a, cap, hv⟩ := row_any hl
    obtain ⟨pk, b2, hv2⟩ : ∃ (pk : Pk) (b2 : Nat), ∀ ρ' : Nat → Nat, ρ' 1 = b2 → ren ρ' (pk.sv 1) = sv := by
      rcases hs with ⟨rfl, rfl⟩ | ⟨b, off, cap, rfl, _, _⟩
      · exact ⟨.nil, 0, fun _ _ => rfl⟩
      · exact ⟨.row off cap rows, b, fun ρ' h => by simp [Pk.sv, ren, h]⟩
    let ρ : Nat → Nat := fun k => if k = 0 then (a.map Addr.block).getD 0 else b2
    have hargs : VRL (fun k => k < 2) ρ [c.v, .slice (anyB 0 a) l.length cap, .agg ⟨rowV ks zs ++ [pk.sv 1]⟩] [c.v, v, .agg ⟨rowV ks zs ++ [sv]⟩] := fun ρ' ha => by
      have e0 : ρ' 0 = (a.map Addr.block).getD 0 := ha 0 (by omega)
      have e1 : ρ' 1 = b2 := ha 1 (by omega)
      rw [hv]
      simp only [List.map_cons, List.map_nil, Cfg.ren_v, anyB_rel 0 a ρ' _ _ e0, ren_agg, List.map_append, rowV_nm, hv2 ρ' e1]
    rw [← hP]
    by_cases hr : c.Right
    · have hlen' : (l.length : Int) ≠ c.len := fun e => h ⟨hr, e⟩
      obtain ⟨ds, pc, h1, h2⟩ := hlen hr (anyB 0 a) l.length cap pk hlen'
      exact true_of_path hE h1 h2 none_isV hargs (HR_none _ 2)
    · obtain ⟨ds, pc, h1, h2⟩ := hno hr (anyB 0 a) l.length cap pk
      exact true_of_path hE h1 h2 none_isV hargs (HR_none _ 2)

theorem fldR_get (rows : List (List Int)) : ∀ (q i : Nat), ((fldR rows q).getD i []).getD 0 0 = (rows.getD i []).getD q 0
  | 0, i => rfl
  | q + 1, i => by
    have ih := fldR_tail rows q i
    exact ih
where
  fldR_tail (rows : List (List Int)) : ∀ (q i : Nat), ((fldR rows (q + 1)).getD i []).getD 0 0 = (rows.getD i []).getD (q + 1) 0 := fun q i => by
    have key : ∀ (q i : Nat), (fldR rows q).getD i [] = (rows.getD i []).drop q := fun q => by
      induction q with
      | zero => intro i; rfl
      | succ q ih =>
        intro i
        show ((fldR rows q).map List.tail).getD i [] = _
        rw [List.getD_eq_getElem?_getD, List.getElem?_map]
        have := ih i
        rw [List.getD_eq_getElem?_getD] at this
        cases hg : (fldR rows q)[i]? with
        | none =>
          rw [hg] at this
          have e : (rows.getD i []).drop q = [] := this.symm
          show [] = (rows.getD i []).drop (q + 1)
          rw [← List.tail_drop, e]
          rfl
        | some r =>
          rw [hg] at this
          have e : r = (rows.getD i []).drop q := this
          show r.tail = _
          rw [e, List.tail_drop]
    rw [key, List.getD_eq_getElem?_getD, List.getElem?_drop, List.getD_eq_getElem?_getD]
    rfl
/-- The pokes' words are words. -/
def Pk.good : Pk → Prop
  | .nil => True
  | .row _ _ rows => ∀ r ∈ rows, 0 ≤ r.getD 3 0 ∧ r.getD 3 0 ≤ 18446744073709551615
theorem good_of {w : World} {sv : Value} {rows : List (List Int)} (hs : RowR pkK w sv rows) {pk : Pk} (h : pk = .nil ∨ ∃ of2 cap2, pk = .row of2 cap2 rows) : pk.good := by
  rcases h with rfl | ⟨of2, cap2, rfl⟩
  · trivial
  · rcases hs with ⟨_, rfl⟩ | ⟨_, _, _, _, _, hr, _⟩
    · intro r hr; cases hr
    · exact fun r h => bounds_u64 ((hr r h).2 3 (by decide))
theorem pv_good {rows : List (List Int)} (h : ∀ r ∈ rows, 0 ≤ r.getD 3 0 ∧ r.getD 3 0 ≤ 18446744073709551615) (of2 i : Nat) : 0 ≤ pv rows of2 i 3 ∧ pv rows of2 i 3 ≤ 18446744073709551615 := by
  unfold pv
  rw [fldR_get, List.getD_eq_getElem?_getD (l := rows)]
  cases hg : rows[pl4 of2 i / 4]? with
  | none => exact ⟨Int.le_refl _, by show (0 : Int) ≤ _; omega⟩
  | some r => exact h r (List.mem_of_getElem? hg)
theorem pokeFrom_wf {rows : List (List Int)} (h : ∀ r ∈ rows, 0 ≤ r.getD 3 0 ∧ r.getD 3 0 ≤ 18446744073709551615) (of2 : Nat) (step : Int) : ∀ (k i : Nat) (m : Mm), WfW m.w → WfW (pokeFrom rows of2 step k i m).w
  | 0, _, _, hm => hm
  | k + 1, i, m, hm => by
    unfold pokeFrom
    split
    · exact pokeFrom_wf h of2 step k (i + 1) _ (hm.setW _ (pv_good h of2 i).1 (pv_good h of2 i).2)
    · exact pokeFrom_wf h of2 step k (i + 1) m hm
theorem Pk.do_wf {pk : Pk} (h : pk.good) (step : Int) {m : Mm} (hm : WfW m.w) : WfW (pk.do step m).w := by
  cases pk with
  | nil => exact hm
  | row of2 cap2 rows => exact pokeFrom_wf h of2 step _ _ m hm
end Go.Proofs.Ytjkohcdgjlaobaa.Ct
namespace Go.Proofs.Ytjkohcdgjlaobaa.Ct
open Go Go.Proofs Go.Proofs.Ytjkohcdgjlaobaa.Ev
open Go.RowKit

abbrev Wd (w : Int) : Prop := 0 ≤ w ∧ w ≤ 18446744073709551615
theorem un3_C {w : Int} (h : Wd w) : CallC Try.prog 51 [.int .u64 w] ⟨[], 0, []⟩ (utB w) ⟨[], 0, []⟩ := by
  have := un03_C h.1 h.2
  rw [← seqB_eq] at this
  exact this
theorem se3_C {w : Int} (h : Wd w) : CallC Try.prog 70 [.int .u64 w] ⟨[], 0, []⟩ (.int .u64 (setB w)) ⟨[], 0, []⟩ := by
  obtain ⟨h0, h1⟩ := h
  have := path E22ok 12 (se_path w) (by simp) rfl
  rw [Int.tmod_eq_emod_of_nonneg h0, w_u64 (by omega) (by omega), ← setB_eq h0 h1] at this
  exact this
theorem st1_C {w : Int} (h : Wd w) : CallC Try.prog 15 [.int .u64 w] ⟨[], 0, []⟩ (.int .i64 (stB w)) ⟨[], 0, []⟩ := by
  rw [stB_eq h.1 h.2]
  exact st01_C h.1 h.2
theorem bs1_C {w : Int} (h : Wd w) : CallC Try.prog 69 [.int .u64 w] ⟨[], 0, []⟩ (.bool (bsB w)) ⟨[], 0, []⟩ := by
  obtain ⟨h0, h1⟩ := h
  have := path E22ok 12 (bs_path w) (by simp) rfl
  rw [tdiv_nn h0, w_u64 (n := w / 67108864) (by omega) (by omega), Int.tmod_eq_emod_of_nonneg (by omega), ← bsB_eq h0 h1] at this
  exact this
def gX1 (args : List Value) (hp : Hp) : Option (Value × Hp × List Prop) :=
  match args with
  | [.int .u64 w] => some (utB w, hp, [Wd w])
  | _ => none
theorem gX1_ok : ∀ args hp v hp' pc, gX1 args hp = some (v, hp', pc) → ∀ ds, CallOk Try.prog 51 args hp ⟨v, hp', ds, pc⟩ := by
  intro args hp v hp' pc hg ds
  unfold gX1 at hg
  split at hg
  · rename_i w
    simp only [Option.some.injEq, Prod.mk.injEq] at hg
    obtain ⟨rfl, rfl, rfl⟩ := hg
    exact CallC.pure (enters (fn := Try.f51) (by kernel_rfl) (by kernel_rfl) rfl) (fun h => un3_C (hd1 h)) rfl rfl hp ds
  · cases hg
def gX2 (args : List Value) (hp : Hp) : Option (Value × Hp × List Prop) :=
  match args with
  | [.int .u64 w] => some (.int .u64 (setB w), hp, [Wd w])
  | _ => none
theorem gX2_ok : ∀ args hp v hp' pc, gX2 args hp = some (v, hp', pc) → ∀ ds, CallOk Try.prog 70 args hp ⟨v, hp', ds, pc⟩ := by
  intro args hp v hp' pc hg ds
  unfold gX2 at hg
  split at hg
  · rename_i w
    simp only [Option.some.injEq, Prod.mk.injEq] at hg
    obtain ⟨rfl, rfl, rfl⟩ := hg
    exact CallC.pure (enters (fn := Try.f70) (by kernel_rfl) (by kernel_rfl) rfl) (fun h => se3_C (hd1 h)) rfl rfl hp ds
  · cases hg
def gX3 (args : List Value) (hp : Hp) : Option (Value × Hp × List Prop) :=
  match args with
  | [.int .u64 w] => some (.int .i64 (stB w), hp, [Wd w])
  | _ => none
theorem gX3_ok : ∀ args hp v hp' pc, gX3 args hp = some (v, hp', pc) → ∀ ds, CallOk Try.prog 15 args hp ⟨v, hp', ds, pc⟩ := by
  intro args hp v hp' pc hg ds
  unfold gX3 at hg
  split at hg
  · rename_i w
    simp only [Option.some.injEq, Prod.mk.injEq] at hg
    obtain ⟨rfl, rfl, rfl⟩ := hg
    exact CallC.pure (enters (fn := Try.f15) (by kernel_rfl) (by kernel_rfl) rfl) (fun h => st1_C (hd1 h)) rfl rfl hp ds
  · cases hg
def gX4 (args : List Value) (hp : Hp) : Option (Value × Hp × List Prop) :=
  match args with
  | [.int .u64 w] => some (.bool (bsB w), hp, [Wd w])
  | _ => none
theorem gX4_ok : ∀ args hp v hp' pc, gX4 args hp = some (v, hp', pc) → ∀ ds, CallOk Try.prog 69 args hp ⟨v, hp', ds, pc⟩ := by
  intro args hp v hp' pc hg ds
  unfold gX4 at hg
  split at hg
  · rename_i w
    simp only [Option.some.injEq, Prod.mk.injEq] at hg
    obtain ⟨rfl, rfl, rfl⟩ := hg
    exact CallC.pure (enters (fn := Try.f69) (by kernel_rfl) (by kernel_rfl) rfl) (fun h => bs1_C (hd1 h)) rfl rfl hp ds
  · cases hg
def gX5 (args : List Value) (hp : Hp) : Option (Value × Hp × List Prop) :=
  match args with
  | [.int .u64 w, .int .i64 4, .bool b] => some (.int .u64 (mvB w b), hp, [Wd w])
  | _ => none
theorem gX5_ok : ∀ args hp v hp' pc, gX5 args hp = some (v, hp', pc) → ∀ ds, CallOk Try.prog 50 args hp ⟨v, hp', ds, pc⟩ := by
  intro args hp v hp' pc hg ds
  unfold gX5 at hg
  split at hg
  · rename_i w b
    simp only [Option.some.injEq, Prod.mk.injEq] at hg
    obtain ⟨rfl, rfl, rfl⟩ := hg
    exact CallC.pure (enters (fn := Try.f50) (by kernel_rfl) (by kernel_rfl) rfl) (fun h => mv01_C (hd1 h).1 (hd1 h).2 b) rfl rfl hp ds
  · cases hg
noncomputable def E29 : Env := ((((E22.add 51 gX1).add 70 gX2).add 15 gX3).add 69 gX4).add 50 gX5
theorem E29ok : EnvOk E29 := ((((E22ok.add gX1_ok).add gX2_ok).add gX3_ok).add gX4_ok).add gX5_ok
noncomputable def E30 : Env := E29.add 10 gOfW
theorem E30ok : EnvOk E30 := E29ok.add gOfW_ok
noncomputable def E31 : Env := E29.add 22 gNw
theorem E31ok : EnvOk E31 := E29ok.add gNw_ok
theorem u64_rng (x : Int) : Wd (u64 x) := by
  unfold u64
  rw [IntKind.wrap_u64]
  exact ⟨by omega, by omega⟩
theorem WfW.swpW {l : List Int} (h : WfW l) (i o : Int) {v : Int} (hv : Wd v) : WfW (swpW l i o v) := by
  unfold Ct.swpW
  split
  · exact h.setW _ hv.1 hv.2
  · exact h
theorem mvB_rng (w : Int) (b : Bool) : Wd (mvB w b) := u64_rng _
theorem setB_rng (w : Int) : Wd (setB w) := u64_rng _
theorem seqB_rng {w : Int} (h : Wd w) : Wd (seqB w) := by
  rw [seqB_eq]
  exact ⟨by have := h.1; omega, by have := h.1; have := h.2; omega⟩
end Go.Proofs.Ytjkohcdgjlaobaa.Ct
