/- A new world's words. -/
import Derived.Test.YtocfhiafegkfkaaGreatCtPlay
namespace Go.Proofs.YtocfhiafegkfkaaGreat.Ct
open Go Go.Proofs Go.Proofs.YtocfhiafegkfkaaGreat.Ev
open Go.RowKit

def zN (c : Cfg) : Nat := Int.toNat c.len
def zW (c : Cfg) : List Int := List.replicate (zN c) 0
/-- A new world's memory. -/
def nwM (c : Cfg) : Mm := ⟨c, zN c, zN c, ⟨0, 0, 0, 0, 0, false⟩, 0, zW c⟩
theorem nwM_ok {c : Cfg} (hr : c.Right) : (nwM c).ok := by
  have := Cfg.len_in hr
  refine ⟨by simp [nwM, zW], ?_⟩
  simp [nwM, zW, zN]
  omega
def nwP (c : Cfg) : List Prop := [0 ≤ c.len, 8 * c.len ≤ 281474976710656, c.len ≤ 9223372036854775807, (c.len == 0) = false, ((zN c : Int) != c.len) = false] ++ cpNP (zN c) (zW c).length
theorem nwP_ok {c : Cfg} (hr : c.Right) : ∀ p ∈ nwP c, p := by
  have h := Cfg.len_in hr
  have hz : (zN c : Int) = c.len := by unfold zN; omega
  refine pcs_app (pcs_of ⟨by omega, by omega, by omega, ?_, ?_, trivial⟩) (cpNP_ok (by simp [zW]) (by simp [zW]; omega))
  · rw [beq_eq_false_iff_ne]; omega
  · rw [hz]; exact bne_self_eq_false _
def nwV (a : Nat) : Value := .tuple ⟨[.pointer (some ⟨a, 0, none⟩), .int .i64 0]⟩
open Dec in
theorem nw_path (c : Cfg) : callR E13 8 51 [c.v] ⟨[], 0, []⟩ [f, f] [4, 3] = some (nwV 0, ⟨[(0, .cells ((nwM c).cells 1) memT), (1, .ints .u64 (cpN (zW c) (zN c)) u64T)], 2, []⟩, nwP c) := by kernel_rfl
theorem nw_C {c : Cfg} (hr : c.Right) : CallC Tryz.prog 51 [c.v] ⟨[], 0, []⟩ (nwV 0) (mHp (nwM c)) := by
  have h := CallC.of_call E13ok (nw_path c) (nwP_ok hr) rfl (fun k hk => absurd hk (Nat.not_lt_zero k))
  rw [cpN_eq (by simp [zW])] at h
  exact h
def gNw (args : List Value) (hp : Hp) : Option (Value × Hp × List Prop) :=
  match args with
  | [v] => match cfgOf v with
    | some c => some (nwV hp.next, ⟨(hp.next, .cells ((nwM c).cells (hp.next + 1)) memT) :: (hp.next + 1, .ints .u64 (zW c) u64T) :: delB [hp.next, hp.next + 1] hp.blks, hp.next + 2, hp.log⟩, [c.Right])
    | none => none
  | _ => none
theorem gNw_ok : ∀ args hp v hp' pc, gNw args hp = some (v, hp', pc) → ∀ ds, CallOk Tryz.prog 51 args hp ⟨v, hp', ds, pc⟩ := by
  intro args hp v hp' pc hg ds
  unfold gNw at hg
  split at hg
  · split at hg
    · rename_i c hc
      simp only [Option.some.injEq, Prod.mk.injEq] at hg
      obtain ⟨rfl, rfl, rfl⟩ := hg
      rw [cfgOf_some hc]
      exact CallC.lift (enters (fn := Tryz.f51) (by kernel_rfl) (by kernel_rfl) rfl) (fun hp => nw_C (hd1 hp)) [] [0, 1] (Nat.zero_le _) rfl rfl rfl rfl rfl trivial (hp := hp) (args := [c.v]) rfl trivial ds
    · cases hg
  · cases hg
noncomputable def E17 : Env := E15.add 51 gNw
theorem E17ok : EnvOk E17 := E15ok.add gNw_ok
/-- A law of what holds no name. -/
theorem true_nums {E : Env} (hE : EnvOk E) {n : Nat} {f : FuncId} {args : List Value} {ds : List Dec} {pc : List Prop} (h : told (doCall E n f args ⟨[], 0, []⟩ ds) = some (.bool true, pc)) (hpc : ∀ p ∈ pc, p) (hx : ∀ ρ, args.map (ren ρ) = args) {w : World} :
    Calls E.P f ⟨args⟩ w fun e w1 => e = .returned (.bool true) ∧ Below w.heap.size w w1 :=
  true_of_path hE h hpc none_isV (ρ := id) (fun ρ' _ => (hx ρ').symm) (HR_none _ 0)
theorem getW_set_same {w : List Int} {i v : Int} (h0 : 0 ≤ i) (h1 : i < (w.length : Int)) : getW (setW w i v) i = v := by
  rw [getW_in h0, setW_in h0, get_set_self (by omega)]
theorem getW_set_ne {w : List Int} {i j v : Int} (h : i ≠ j) : getW (setW w i v) j = getW w j := by
  unfold getW
  split
  · rename_i hj
    unfold setW
    split
    · rw [List.getD_eq_getElem?_getD, List.getElem?_set_ne (by omega), List.getD_eq_getElem?_getD]
    · rfl
  · rfl
theorem ix_epoch {c : Cfg} (hr : c.Right) : cellIx c 2 0 = 1 := by
  unfold cellIx
  rw [if_pos ⟨hr, by omega⟩, if_pos (by omega), if_pos (by omega)]
  rfl
theorem ix_tally {c : Cfg} (hr : c.Right) : cellIx c 1 0 = 0 := by
  unfold cellIx
  rw [if_pos ⟨hr, by omega⟩, if_pos (by omega), if_pos (by omega)]
  rfl
theorem ix_pin {c : Cfg} (hr : c.Right) {th : Int} (h0 : 0 ≤ th) (h1 : th < c.t) : cellIx c 3 th = 2 + th := by
  unfold cellIx
  rw [if_pos ⟨hr, h0⟩, if_neg (by omega), if_pos rfl, if_pos h1]
theorem getW_zero (c : Cfg) (i : Int) : getW (zW c) i = 0 := by
  unfold getW zW
  split
  · rw [List.getD_eq_getElem?_getD, List.getElem?_replicate]
    split <;> rfl
  · rfl
theorem zW_len {c : Cfg} (hr : c.Right) : ((zW c).length : Int) = c.len := (nwM_ok hr).2
end Go.Proofs.YtocfhiafegkfkaaGreat.Ct
