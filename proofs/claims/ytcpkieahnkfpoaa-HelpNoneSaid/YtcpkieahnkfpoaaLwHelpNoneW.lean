/- What 'HelpNone' comes to, of any input: it returns true and changes nothing that was there. -/
import Derived.Test.YtcpkieahnkfpoaaCtBits
namespace Go.Proofs.Ytcpkieahnkfpoaa.HelpNoneDone
open Go Go.Proofs Go.Proofs.Ytcpkieahnkfpoaa.Ev Go.Proofs.Ytcpkieahnkfpoaa.Ct
open Go.RowKit

abbrev fid : FuncId := 17
def args (c : Cfg) (a : Option Addr) (n cap : Nat) (w : Int) : List Value := [c.v, .slice a n cap, .int .u64 w]
def X (w : Int) : Int := u64 (u64 (Int.tdiv w 16) * 16)
def hp0 (l : List Int) (off : Nat) : Hp := ⟨[(0, .view off (.ints .u64 l u64T))], 1, []⟩
open Dec in
section
variable (c : Cfg) (l : List Int) (off cap : Nat) (w : Int)
theorem hn_main : callR E20 8 fid (args c (some ⟨0, off, none⟩) l.length cap w) (hp0 l off) (f :: List.replicate 12 Dec.l) [0] = some (.bool true, hp0 l off, [c.Right ∧ (l.length : Int) = c.len ∧ l.length = l.length ∧ off = off, (16 : Int) ≠ 0, (0 : Int) ≤ 4, decide (pendB (X w) ≥ 0) = false]) := by kernel_rfl
theorem not_right (a : Option Addr) (n : Nat) : told (doCall E19 8 fid (args c a n cap w) ⟨[], 1, []⟩ (t :: Dec.l :: f :: List.replicate 12 Dec.l)) = some (.bool true, [(!rightB c) = true, (16 : Int) ≠ 0, (0 : Int) ≤ 4, decide (pendB (X w) ≥ 0) = false]) := by kernel_rfl
theorem not_len (a : Option Addr) (n : Nat) : told (doCall E19 8 fid (args c a n cap w) ⟨[], 1, []⟩ (f :: t :: f :: List.replicate 12 Dec.l)) = some (.bool true, [(!rightB c) = false, c.Right, ((n : Int) != c.len) = true, (16 : Int) ≠ 0, (0 : Int) ≤ 4, decide (pendB (X w) ≥ 0) = false]) := by kernel_rfl
end
theorem walk (c : Cfg) (v : Value) (l : List Int) (x : Int) (w : World) (hl : RowIn .u64 w v l) (hx : (Lit.int .u64 x).wf = true) :
    Calls Try.prog fid #[c.v, v, .int .u64 x] w fun e w1 => e = .returned (.bool true) ∧ Below w.heap.size w w1 := by
  obtain ⟨x0, x1⟩ := bounds_u64 hx
  have e1 : X x = x / 16 * 16 := by
    unfold X
    rw [tdiv_nn x0, w_u64 (n := x / 16) (by omega) (by omega), w_u64 (by omega) (by omega)]
  have hp : decide (pendB (X x) ≥ 0) = false := by
    rw [e1, pendB_eq (by omega) (by omega)]
    exact decide_eq_false (by omega)
  exact law_cells (E' := E20) E19ok rfl (x := [.int .u64 x]) hl (fun ρ => rfl) (fun hr hlen off cap => ⟨_, CallC.of_call E20ok (hn_main c l off cap x) (pcs_of ⟨⟨hr, hlen, rfl, rfl⟩, by decide, by decide, hp, trivial⟩) rfl (z1 _)⟩)
    (fun hr a m cap => ⟨_, _, not_right c cap x a m, pcs_of ⟨by simp [rightB, hr], by decide, by decide, hp, trivial⟩⟩)
    (fun hr a m cap hlen => ⟨_, _, not_len c cap x a m, pcs_of ⟨by simp [rightB, hr], hr, by simpa using hlen, by decide, by decide, hp, trivial⟩⟩)
end Go.Proofs.Ytcpkieahnkfpoaa.HelpNoneDone
