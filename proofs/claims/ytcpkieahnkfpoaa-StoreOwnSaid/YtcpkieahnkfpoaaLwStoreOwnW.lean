/- What 'StoreOwn' comes to, of any input: it returns true and changes nothing that was there. -/
import Derived.Test.YtcpkieahnkfpoaaCtSame
namespace Go.Proofs.Ytcpkieahnkfpoaa.StoreOwnDone
open Go Go.Proofs Go.Proofs.Ytcpkieahnkfpoaa.Ev Go.Proofs.Ytcpkieahnkfpoaa.Ct
open Go.RowKit

abbrev memT : TypeId := 138
noncomputable abbrev fn : Func := Try.f4
noncomputable abbrev B (p : List Nat) : Code := bd Try.f4 p
/-- The row that was copied once, its length as it was told; the words; the words that were told. -/
def n1 (l : List Int) : Nat := addN 0 l.length
def n2 (l : List Int) : Nat := Int.toNat (n1 l : Int)
def n3 (l : List Int) : Nat := Int.toNat (n2 l : Int)
def g0 (l : List Int) : List Int := [] ++ l.take l.length
def cpy (a : List Int) (n m : Nat) : List Int := a.take (Nat.min n m) ++ (List.replicate m 0).drop (Nat.min n m)
theorem n1_eq (l : List Int) : n1 l = l.length := by unfold n1; rw [addN_eq]; omega
theorem n2_eq (l : List Int) : n2 l = l.length := by unfold n2; rw [n1_eq]; omega
theorem n3_eq (l : List Int) : n3 l = l.length := by unfold n3; rw [n2_eq]; omega
theorem g0_eq (l : List Int) : g0 l = l := by unfold g0; simp
theorem cpy_eq (a : List Int) (n : Nat) (h : a.length = n) : cpy a n n = a := by subst h; unfold cpy; simp
def blk (c : Cfg) (l g w tl : List Int) (off n : Nat) : List (Nat × Blk) :=
  [(0, .view off (.ints .u64 l u64T)), (1, .own (.ints .u64 g u64T) 2), (3, .ints .u64 w u64T), (4, .cells (c.cells ++ [.slice (some ⟨3, 0, none⟩) n n, .int .i64 0, .int .i64 0, .int .i64 0, .int .u64 0, .int .u64 0, .bool false, .int .i64 0]) memT), (5, .ints .u64 tl u64T)]
def fr1 (c : Cfg) (l g w tl : List Int) (off cap a n m : Nat) (i : Int) (ds : List Dec) : Fr :=
  mkFr 70 [(1, .slice (some ⟨0, off, none⟩) l.length cap), (5, .slice (some ⟨1, 0, some 2⟩) a 0), (6, .pointer (some ⟨4, 0, none⟩)), (8, .slice (some ⟨5, 0, none⟩) m m), (40, .int .i64 a), (41, .int .i64 i)] (blk c l g w tl off n) 6 [] ds
def fr2 (c : Cfg) (l g w tl : List Int) (off cap n m : Nat) (i : Int) (ds : List Dec) : Fr :=
  mkFr 70 [(1, .slice (some ⟨0, off, none⟩) l.length cap), (6, .pointer (some ⟨4, 0, none⟩)), (8, .slice (some ⟨5, 0, none⟩) m m), (52, .int .i64 m), (53, .int .i64 i)] (blk c l g w tl off n) 6 [] ds
def frM (c : Cfg) (l g w tl : List Int) (off cap n m : Nat) (ds : List Dec) : Fr :=
  mkFr 70 [(1, .slice (some ⟨0, off, none⟩) l.length cap), (6, .pointer (some ⟨4, 0, none⟩)), (8, .slice (some ⟨5, 0, none⟩) m m)] (blk c l g w tl off n) 6 [] ds
def frE (c : Cfg) (l g w tl : List Int) (off cap n : Nat) (ds : List Dec) : Fr :=
  mkFr 70 [(1, .slice (some ⟨0, off, none⟩) l.length cap), (6, .pointer (some ⟨4, 0, none⟩))] (blk c l g w tl off n) 6 [] ds
def hp0 (l : List Int) (off : Nat) : Hp := ⟨[(0, .view off (.ints .u64 l u64T))], 1, []⟩
def args (c : Cfg) (l : List Int) (off cap : Nat) : List Value := [c.v, .slice (some ⟨0, off, none⟩) l.length cap]
def inPc (c : Cfg) (l : List Int) (off : Nat) : List Prop :=
  [l.length ≤ l.length, off = off, (0 + l.length) * 8 ≤ 140737488355328, 0 + l.length ≤ 9223372036854775807, (!rightB c) = false, c.Right, ((l.length : Int) != c.len) = false, (c.len == 0) = false, ((n1 l : Int) != c.len) = false,
    0 ≤ (n1 l : Int), 8 * (n1 l : Int) ≤ 281474976710656, (n1 l : Int) ≤ 9223372036854775807, Nat.min (n1 l) (n2 l) ≤ (g0 l).length, Nat.min (n1 l) (n2 l) ≤ (List.replicate (n2 l) (0 : Int)).length, (0 : Nat) = 0,
    0 ≤ (n2 l : Int), 8 * (n2 l : Int) ≤ 281474976710656, (n2 l : Int) ≤ 9223372036854775807, Nat.min (n2 l) (n3 l) ≤ (cpy (g0 l) (n1 l) (n2 l)).length, Nat.min (n2 l) (n3 l) ≤ (List.replicate (n3 l) (0 : Int)).length, (0 : Nat) = 0]
open Dec in
section
variable (c : Cfg) (l g w tl : List Int) (off cap a n m i : Nat) (ds' : List Dec)
theorem ow_in : execR E8 20 .normal [.code (B [])] [0, 3, 4, 6, 7, 8] [1, 5, 6, 8, 40, 41] 1 ds' ⟨args c l off cap ++ List.replicate 68 undef, hp0 l off, [f, f, f, f, Dec.l, Dec.l], []⟩ =
    some (.normal, [.code (.loop (B [1,1,1,1,1,1,0,1,0,0])), .blk 0, .code (B [1,1,1,1,1,1,1])], fr1 c l (g0 l) (cpy (g0 l) (n1 l) (n2 l)) (cpy (cpy (g0 l) (n1 l) (n2 l)) (n2 l) (n3 l)) off cap (n1 l) (n2 l) (n3 l) 0 ds', inPc c l off) := by kernel_rfl
theorem ow_1 : run E8 20 (B [1,1,1,1,1,1,0,1,0,0]) [0, 1, 2, 3, 4, 5] [1, 5, 6, 8, 40, 41] 1 ds' (fr1 c l g w tl off cap a n m (i : Int) [t]) = some (.normal, fr1 c l (g.set (jI i) (u64 (g.getD (jI i) 0 + 1))) w tl off cap a n m (w64 ((i : Int) + 1)) ds',
    [decide ((i : Int) < (a : Int)) = true, 0 ≤ (i : Int), (i : Int) < (a : Int), jI i < g.length, 0 ≤ (i : Int), (i : Int) < (a : Int), jI i < g.length]) := by kernel_rfl
theorem ow_1e : run E8 20 (B [1,1,1,1,1,1,0,1,0,0]) [0, 1, 2, 3, 4, 5] [1, 6, 8] 1 ds' (fr1 c l g w tl off cap a n m (i : Int) [f]) = some (.exit 0, frM c l g w tl off cap n m ds', [decide ((i : Int) < (a : Int)) = false]) := by kernel_rfl
theorem ow_12 : execR E8 20 (.exit 0) [.blk 0, .code (B [1,1,1,1,1,1,1])] [0, 1, 2, 3, 4, 5] [1, 6, 8, 52, 53] 1 ds' (frM c l g w tl off cap n m []) =
    some (.normal, [.code (.loop (B [1,1,1,1,1,1,1,0,1,0,0])), .blk 2, .code (B [1,1,1,1,1,1,1,1])], fr2 c l g w tl off cap n m 0 ds', []) := by kernel_rfl
theorem ow_2 : run E8 20 (B [1,1,1,1,1,1,1,0,1,0,0]) [0, 1, 2, 3, 4, 5] [1, 6, 8, 52, 53] 1 ds' (fr2 c l g w tl off cap n m (i : Int) [t]) = some (.normal, fr2 c l g w (tl.set (jI i) (u64 (tl.getD (jI i) 0 - 1))) off cap n m (w64 ((i : Int) + 1)) ds',
    [decide ((i : Int) < (m : Int)) = true, 0 ≤ (i : Int), (i : Int) < (m : Int), jI i < tl.length, 0 ≤ (i : Int), (i : Int) < (m : Int), jI i < tl.length]) := by kernel_rfl
theorem ow_2e : run E8 20 (B [1,1,1,1,1,1,1,0,1,0,0]) [0, 1, 2, 3, 4, 5] [1, 6] 1 ds' (fr2 c l g w tl off cap n m (i : Int) [f]) = some (.exit 2, frE c l g w tl off cap n ds', [decide ((i : Int) < (m : Int)) = false]) := by kernel_rfl
theorem ow_out : execR E8 20 (.exit 2) [.blk 2, .code (B [1,1,1,1,1,1,1,1])] [0] [4] 1 ds' (frE c l g w tl off cap n [Dec.l]) =
    some (.ret, [], mkFr 70 [(4, .bool ((cpy w n (Int.toNat (n : Int))).take (Int.toNat (n : Int)) == l.take l.length))] [(0, .view off (.ints .u64 l u64T))] 1 [] ds',
      [0 ≤ (n : Int), 8 * (n : Int) ≤ 281474976710656, (n : Int) ≤ 9223372036854775807, Nat.min n (Int.toNat (n : Int)) ≤ w.length, Nat.min n (Int.toNat (n : Int)) ≤ (List.replicate (Int.toNat (n : Int)) (0 : Int)).length, (0 : Nat) = 0, (0 : Nat) = 0, off = off,
        Int.toNat (n : Int) ≤ (cpy w n (Int.toNat (n : Int))).length, l.length ≤ l.length, Int.toNat (n : Int) ≤ 9223372036854775806]) := by kernel_rfl
end

open Dec in
theorem main (c : Cfg) (l : List Int) (off cap : Nat) (hr : c.Right) (hlen : (l.length : Int) = c.len) : CallC Try.prog 4 (args c l off cap) (hp0 l off) (.bool true) (hp0 l off) := by
  have z1 : ∀ (ns : List Nat) k, k < 1 → (0 :: ns).getD k 0 = k := fun ns k hk => by
    have : k = 0 := by omega
    subst this
    rfl
  have hcl := Cfg.len_in hr
  have e1 := n1_eq l
  have e2 := n2_eq l
  have e3 := n3_eq l
  have eg := g0_eq l
  have ew : cpy (g0 l) (n1 l) (n2 l) = l := by rw [e1, e2, eg]; exact cpy_eq l _ rfl
  have et : cpy (cpy (g0 l) (n1 l) (n2 l)) (n2 l) (n3 l) = l := by rw [ew, e2, e3]; exact cpy_eq l _ rfl
  have hw : ∀ i : Nat, i < 100 → w64 ((i : Int) + 1) = ((i + 1 : Nat) : Int) := fun i hi => by rw [w64_in (by omega) (by omega)]; omega
  have hj : ∀ i : Nat, jI (i : Int) = i := fun i => by rw [jI_eq]; omega
  refine CallC.of_body (E := E8) (ds := [f, f, f, f, Dec.l, Dec.l]) (fn := fn) 68 (by kernel_rfl) (by kernel_rfl) (by kernel_rfl) (by kernel_rfl) ?_
  refine KC.of_exec E8ok (ow_in c l off cap [t]) ?_ (Nat.le_refl _) (z1 _) ?_
  · have q2 : (c.len == 0) = false := by
      rw [beq_eq_false_iff_ne]
      omega
    refine pcs_of ⟨Nat.le_refl _, rfl, by omega, by omega, by simp [rightB, hr], hr, by simp [hlen], q2, by rw [e1]; simp [hlen], by omega, by omega, by omega, by rw [e1, e2, eg]; exact Nat.min_le_left _ _, by rw [e1, e2]; simp, rfl, by omega, by omega, by omega, by rw [ew, e2, e3]; exact Nat.min_le_left _ _, by rw [e2, e3]; simp, rfl, trivial⟩
  rw [et, ew, e1, e2, e3, eg]
  have s0 : fr1 c l l l l off cap l.length l.length l.length 0 [t] = fr1 c l l l l off cap l.length l.length l.length ((0 : Nat) : Int) (if 0 < l.length then [t] else [f]) := by rw [if_pos (by omega)]; rfl
  rw [s0]
  refine KC.loop (m0 := 1) (ι := Nat × List Int) (fun x => fr1 c l x.2 l l off cap l.length l.length l.length (x.1 : Int) (if x.1 < l.length then [t] else [f])) (fun x => x.1 ≤ l.length ∧ x.2.length = l.length) (fun x => l.length - x.1)
    (fun ex fr => ex = .exit 0 ∧ ∃ g, fr = frM c l g l l off cap l.length l.length []) (fun x hx => ?_) ?_ (0, l) ⟨Nat.zero_le _, rfl⟩
  · obtain ⟨i, g⟩ := x
    obtain ⟨hi, hg⟩ := hx
    simp only at hi hg ⊢
    by_cases hlt : i < l.length
    · rw [if_pos hlt]
      refine CodeC.of_run E8ok (ow_1 c l g l l off cap l.length l.length l.length i (if i + 1 < l.length then [t] else [f])) (pcs_of ⟨decide_eq_true (by omega), by omega, by omega, by rw [hj]; omega, by omega, by omega, by rw [hj]; omega, trivial⟩) (show 1 ≤ 6 by omega) (z1 _) (.inl ⟨rfl, (i + 1, g.set (jI i) (u64 (g.getD (jI i) 0 + 1))), by rw [hw i (by omega)], ⟨hlt, by simp [hg]⟩, by simp only; omega⟩)
    · rw [if_neg hlt]
      exact CodeC.of_run E8ok (ow_1e c l g l l off cap l.length l.length l.length i []) (pcs_of ⟨decide_eq_false (by omega), trivial⟩) (show 1 ≤ 6 by omega) (z1 _) (.inr ⟨by simp, rfl, g, rfl⟩)
  rintro ex fr ⟨rfl, g, rfl⟩
  refine KC.of_exec E8ok (ow_12 c l g l l off cap l.length l.length [t]) (pcs_of trivial) (show 1 ≤ 6 by omega) (z1 _) ?_
  have s1 : fr2 c l g l l off cap l.length l.length 0 [t] = fr2 c l g l l off cap l.length l.length ((0 : Nat) : Int) (if 0 < l.length then [t] else [f]) := by rw [if_pos (by omega)]; rfl
  rw [s1]
  refine KC.loop (m0 := 1) (ι := Nat × List Int) (fun x => fr2 c l g l x.2 off cap l.length l.length (x.1 : Int) (if x.1 < l.length then [t] else [f])) (fun x => x.1 ≤ l.length ∧ x.2.length = l.length) (fun x => l.length - x.1)
    (fun ex fr => ex = .exit 2 ∧ ∃ tl, fr = frE c l g l tl off cap l.length [Dec.l]) (fun x hx => ?_) ?_ (0, l) ⟨Nat.zero_le _, rfl⟩
  · obtain ⟨i, tl⟩ := x
    obtain ⟨hi, hg⟩ := hx
    simp only at hi hg ⊢
    by_cases hlt : i < l.length
    · rw [if_pos hlt]
      refine CodeC.of_run E8ok (ow_2 c l g l tl off cap l.length l.length i (if i + 1 < l.length then [t] else [f])) (pcs_of ⟨decide_eq_true (by omega), by omega, by omega, by rw [hj]; omega, by omega, by omega, by rw [hj]; omega, trivial⟩) (show 1 ≤ 6 by omega) (z1 _) (.inl ⟨rfl, (i + 1, tl.set (jI i) (u64 (tl.getD (jI i) 0 - 1))), by rw [hw i (by omega)], ⟨hlt, by simp [hg]⟩, by simp only; omega⟩)
    · rw [if_neg hlt]
      exact CodeC.of_run E8ok (ow_2e c l g l tl off cap l.length l.length i [Dec.l]) (pcs_of ⟨decide_eq_false (by omega), trivial⟩) (show 1 ≤ 6 by omega) (z1 _) (.inr ⟨by simp, rfl, tl, rfl⟩)
  rintro ex fr ⟨rfl, tl, rfl⟩
  have ec : cpy l l.length (Int.toNat (l.length : Int)) = l := cpy_eq l _ rfl
  refine KC.of_exec E8ok (ow_out c l g l tl off cap l.length []) ?_ (show 1 ≤ 6 by omega) (z1 _) ?_
  · rw [ec]
    exact pcs_of ⟨by omega, by omega, by omega, Nat.min_le_left _ _, by simp, rfl, rfl, rfl, by omega, Nat.le_refl _, by omega, trivial⟩
  · rw [ec]
    have hb : (l.take (Int.toNat (l.length : Int)) == l.take l.length) = true := by simp
    rw [hb]
    exact KC.done ⟨by simp, [.bool true], [], [0], 1, by kernel_rfl, by simp, by kernel_rfl, rfl, z1 _⟩

open Dec in
section
variable (c : Cfg) (l : List Int) (off cap : Nat)
theorem not_right : told (doCall E8 20 4 (args c l off cap) (hp0 l off) [t, Dec.l, Dec.l]) = some (.bool true, [l.length ≤ l.length, off = off, (0 + l.length) * 8 ≤ 140737488355328, 0 + l.length ≤ 9223372036854775807, (!rightB c) = true]) := by kernel_rfl
theorem not_len : told (doCall E8 20 4 (args c l off cap) (hp0 l off) [f, t, Dec.l]) = some (.bool true, [l.length ≤ l.length, off = off, (0 + l.length) * 8 ≤ 140737488355328, 0 + l.length ≤ 9223372036854775807, (!rightB c) = false, c.Right, ((l.length : Int) != c.len) = true]) := by kernel_rfl
theorem nil_right : told (doCall E8 20 4 [c.v, .slice none 0 0] ⟨[], 1, []⟩ [t, Dec.l, Dec.l]) = some (.bool true, [(0 : Nat) ≤ 0, (!rightB c) = true]) := by kernel_rfl
theorem nil_len : told (doCall E8 20 4 [c.v, .slice none 0 0] ⟨[], 1, []⟩ [f, t, Dec.l]) = some (.bool true, [(0 : Nat) ≤ 0, (!rightB c) = false, c.Right, (((0 : Nat) : Int) != c.len) = true]) := by kernel_rfl
end

theorem walk (c : Cfg) (v : Value) (l : List Int) (w : World) (hl : RowIn .u64 w v l) (hsz : l.length * 8 ≤ 140737488355328) :
    Calls Try.prog 4 #[c.v, v] w fun e w1 => e = .returned (.bool true) ∧ Below w.heap.size w w1 := by
  rcases hl with ⟨rfl, rfl⟩ | ⟨b, off, cap, rfl, hcell, _, hblk⟩
  · have hargs : VRL (fun k => k < 1) (fun _ => 0) [c.v, .slice none 0 0] [c.v, .slice none 0 0] := fun ρ' _ => by simp [Cfg.ren_v, ren]
    by_cases hr : c.Right
    · have hlen : ((0 : Nat) : Int) ≠ c.len := by
        have := Cfg.len_in hr
        omega
      obtain ⟨o, ho, hov, hopc⟩ := told_some (nil_len c)
      have := calls_of_path E8ok 20 ho (w := w) (by rw [hopc]; exact pcs_of ⟨Nat.le_refl _, by simp [rightB, hr], hr, by simpa using hlen, trivial⟩) (by rw [hov]; rfl) none_isV hargs (HR_none _ 1)
      rw [hov] at this
      exact this
    · obtain ⟨o, ho, hov, hopc⟩ := told_some (nil_right c)
      have := calls_of_path E8ok 20 ho (w := w) (by rw [hopc]; exact pcs_of ⟨Nat.le_refl _, by simp [rightB, hr], trivial⟩) (by rw [hov]; rfl) none_isV hargs (HR_none _ 1)
      rw [hov] at this
      exact this
  · have hargs : VRL (fun k => k < 1) (fun _ => b) (args c l off cap) [c.v, .slice (some ⟨b, off, none⟩) l.length cap] := fun ρ' ha => by
      have : ρ' 0 = b := ha 0 Nat.zero_lt_one
      simp [args, Cfg.ren_v, ren, renAddr, this]
    by_cases hr : c.Right
    · by_cases hlen : (l.length : Int) = c.len
      · exact calls_of_C (main c l off cap hr hlen) rfl view_isV hargs (HR_row' hcell hblk)
      · obtain ⟨o, ho, hov, hopc⟩ := told_some (not_len c l off cap)
        have := calls_of_path E8ok 20 ho (w := w) (by rw [hopc]; exact pcs_of ⟨Nat.le_refl _, rfl, by omega, by omega, by simp [rightB, hr], hr, by simpa using hlen, trivial⟩) (by rw [hov]; rfl) view_isV hargs (HR_row' hcell hblk)
        rw [hov] at this
        exact this
    · obtain ⟨o, ho, hov, hopc⟩ := told_some (not_right c l off cap)
      have := calls_of_path E8ok 20 ho (w := w) (by rw [hopc]; exact pcs_of ⟨Nat.le_refl _, rfl, by omega, by omega, by simp [rightB, hr], trivial⟩) (by rw [hov]; rfl) view_isV hargs (HR_row' hcell hblk)
      rw [hov] at this
      exact this
end Go.Proofs.Ytcpkieahnkfpoaa.StoreOwnDone
