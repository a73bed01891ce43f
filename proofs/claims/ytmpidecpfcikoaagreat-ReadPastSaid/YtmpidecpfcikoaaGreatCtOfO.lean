/- A world of a row that is one's own. -/
import Derived.Test.YtmpidecpfcikoaaGreatCtReadO
namespace Go.Proofs.YtmpidecpfcikoaaGreat.Ct
open Go Go.Proofs Go.Proofs.YtmpidecpfcikoaaGreat.Ev
open Go.RowKit

def ooOut (c : Cfg) (l : List Int) : Hp := ⟨[(0, .own (.ints .u64 l u64T) 1), (2, .cells ((newM c l).cells 3) memT), (3, .ints .u64 l u64T), (4, .own (.ints .u64 l u64T) 5)], 6, []⟩
open Dec in
theorem oo_path (c : Cfg) (l : List Int) : callR E10 8 9 [c.v, .slice (some ⟨0, 0, some 1⟩) l.length 0] ⟨[(0, .own (.ints .u64 l u64T) 1)], 2, []⟩ [f, f, f, f, Dec.l] [0, 1, 6, 5, 10, 11] =
    some (ofV c l 2 4 5, ⟨[(0, .own (.ints .u64 l u64T) 1), (2, .cells ((newM c l).cells 3) memT), (3, .ints .u64 (l0 l) u64T), (4, .own (.ints .u64 (l.take l.length) u64T) 5)], 6, []⟩, ofPc c l 0) := by kernel_rfl
theorem oo_C {c : Cfg} {l : List Int} (hr : c.Right) (hlen : (l.length : Int) = c.len) : CallC Tryz.prog 9 [c.v, .slice (some ⟨0, 0, some 1⟩) l.length 0] ⟨[(0, .own (.ints .u64 l u64T) 1)], 2, []⟩ (ofV c l 2 4 5) (ooOut c l) := by
  have h := CallC.of_call E10ok (oo_path c l) (ofPc_ok 0 hr hlen) rfl (fun k hk => by
    have hk' : k < 2 := hk
    match k, hk' with
    | 0, _ => rfl
    | 1, _ => rfl)
  rw [l0_eq, List.take_length] at h
  exact h
def gOfO (args : List Value) (hp : Hp) : Option (Value × Hp × List Prop) :=
  match args with
  | [v, .slice (some ⟨b, 0, some b1⟩) n 0] => match cfgOf v, ownW hp b b1 with
    | some c, some l => bif nodupB [b, b1] then some (ofV c l hp.next (hp.next + 2) (hp.next + 3), ⟨(hp.next, .cells ((newM c l).cells (hp.next + 1)) memT) :: (hp.next + 1, .ints .u64 l u64T) :: (hp.next + 2, .own (.ints .u64 l u64T) (hp.next + 3)) :: delB [hp.next, hp.next + 1, hp.next + 2] hp.blks, hp.next + 4, hp.log⟩, [c.Right ∧ (l.length : Int) = c.len ∧ n = l.length])
      else none
    | _, _ => none
  | _ => none
theorem gOfO_ok : ∀ args hp v hp' pc, gOfO args hp = some (v, hp', pc) → ∀ ds, CallOk Tryz.prog 9 args hp ⟨v, hp', ds, pc⟩ := by
  intro args hp v hp' pc hg ds
  unfold gOfO at hg
  split at hg
  · rename_i v0 b b1 n
    split at hg
    · rename_i c l hc hw
      cases hnd : nodupB [b, b1]
      · simp [hnd] at hg
      simp only [hnd, cond_true, Option.some.injEq, Prod.mk.injEq] at hg
      obtain ⟨rfl, rfl, rfl⟩ := hg
      obtain rfl := cfgOf_some hc
      exact CallC.lift (enters (fn := Tryz.f9) (by kernel_rfl) (by kernel_rfl) rfl) (args0 := [c.v, .slice (some ⟨0, 0, some 1⟩) n 0]) (hp0 := ⟨[(0, .own (.ints .u64 l u64T) 1)], 2, []⟩) (out0 := ooOut c l) (v0 := ofV c l 2 4 5) (pc := [c.Right ∧ (l.length : Int) = c.len ∧ n = l.length]) (fun hp => by
          obtain ⟨q1, q2, q3⟩ := hp _ (List.mem_singleton.2 rfl)
          rw [q3]
          exact oo_C q1 q2) [b, b1] [2, 3, 4] (show 2 ≤ 6 by omega) rfl rfl rfl hnd rfl
        ⟨.inr rfl, trivial⟩ (hp := hp) (args := [c.v, .slice (some ⟨b, 0, some b1⟩) n 0]) rfl ⟨ownW_some hw, trivial⟩ ds
    · cases hg
  · cases hg
/-- Worlds of a row of one's own. -/
noncomputable def Eap : Env := (Er4.add brF gBr).add 9 gOfO
theorem Eapok : EnvOk Eap := (Er4ok.add gBr_ok).add gOfO_ok
end Go.Proofs.YtmpidecpfcikoaaGreat.Ct
