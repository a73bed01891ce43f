/- What 'StoreAll' comes to, of any input: it returns true and changes nothing that was there. -/
import Derived.Test.YtcpkieahnkfpoaaCtWorld
import Derived.Test.YtcpkieahnkfpoaaEvOpen2
namespace Go.Proofs.Ytcpkieahnkfpoaa.StoreAllDone
open Go Go.Proofs Go.Proofs.Ytcpkieahnkfpoaa.Ev Go.Proofs.Ytcpkieahnkfpoaa.Ct
open Go.RowKit

noncomputable abbrev fn : Func := Try.f3
abbrev fid : FuncId := 3
abbrev ks : List IntKind := [.i64, .i64, .i64, .u64, .u64]
def m0 (m : Mm) : Mm := ⟨m.c, m.N, 0, m.t, m.n, m.w⟩
def pl (of2 i : Nat) : Nat := addN of2 (mulN i 5) - of2
theorem pl_eq (of2 i : Nat) : pl of2 i = i * 5 := by
  unfold pl
  rw [addN_eq, mulN_eq]
  omega
def fld (rows : List (List Int)) : Nat → List (List Int)
  | 0 => rows
  | q + 1 => (fld rows q).map List.tail
def fv (rows : List (List Int)) (of2 i q : Nat) : Int := ((fld rows q).getD (pl of2 i / 5) []).getD 0 0
def blk (l : List Int) (off : Nat) (rows : List (List Int)) (of2 : Nat) (m : Mm) : List (Nat × Blk) := [(0, .view off (.ints .u64 l u64T)), (1, .view of2 (.recs ks rows 38)), (2, .cells (m.cells 3) memT), (3, .ints .u64 m.w u64T), (4, .view 0 (.ints .u64 m.w u64T)), (6, .cells (m.rcells 4 5) 33)]
def fr (l : List Int) (off : Nat) (rows : List (List Int)) (of2 cap2 : Nat) (m : Mm) (i : Int) (ds : List Dec) : Fr := mkFr 130 [(7, .pointer (some ⟨2, 0, none⟩)), (8, .pointer (some ⟨6, 0, none⟩)), (32, .slice (some ⟨1, of2, none⟩) rows.length cap2), (33, .int .i64 rows.length), (34, .int .i64 i)] (blk l off rows of2 m) 7 [] ds
def hp0 (l : List Int) (off : Nat) (rows : List (List Int)) (of2 : Nat) : Hp := ⟨[(0, .view off (.ints .u64 l u64T)), (1, .view of2 (.recs ks rows 38))], 2, []⟩
def frE (l : List Int) (off : Nat) (rows : List (List Int)) (of2 : Nat) (v : Bool) (ds : List Dec) : Fr := mkFr 130 [(6, .bool v)] (hp0 l off rows of2).blks 2 [] ds
def args (c : Cfg) (a : Option Addr) (n cap : Nat) (a2 : Option Addr) (n2 cap2 : Nat) : List Value := [c.v, .slice a n cap, .slice a2 n2 cap2]
def pre (rows : List (List Int)) (of2 i : Nat) : List Prop := [decide ((i : Int) < (rows.length : Int)) = true, 0 ≤ (i : Int), (i : Int) < (rows.length : Int), of2 ≤ addN of2 (mulN i 5), pl of2 i % 5 = 0, pl of2 i / 5 < rows.length]
theorem pre_ok {rows : List (List Int)} {of2 i : Nat} (h : i < rows.length) : ∀ p ∈ pre rows of2 i, p :=
  pcs_of ⟨decide_eq_true (by omega), by omega, by omega, by rw [addN_eq]; omega, by rw [pl_eq]; omega, by rw [pl_eq]; omega, trivial⟩
abbrev lp : List Nat := [1, 1, 1, 0, 1, 0, 0]
open Dec in
section
variable (c : Cfg) (l : List Int) (off cap : Nat) (rows : List (List Int)) (of2 cap2 : Nat) (m : Mm) (i : Nat)
abbrev K0 : Int := fv rows of2 i 0
abbrev KD : Int := fv rows of2 i 1
abbrev NM : Int := fv rows of2 i 2
abbrev OL : Int := fv rows of2 i 3
abbrev VV : Int := fv rows of2 i 4
theorem sa_in : execR E12 8 .normal [.code (bd fn [])] [0, 1, 3, 4, 5, 6, 7] [7, 8, 32, 33, 34] 2 [] ⟨args c (some ⟨0, off, none⟩) l.length cap (some ⟨1, of2, none⟩) rows.length cap2 ++ List.replicate 127 undef, hp0 l off rows of2, [Dec.l, f], []⟩ =
    some (.normal, [.code (.loop (bd fn lp)), .blk 0, .code (bd fn [1, 1, 1, 1])], fr l off rows of2 cap2 (newM c l) 0 [], [c.Right ∧ (l.length : Int) = c.len ∧ l.length = l.length ∧ off = off, decide ((rows.length : Int) > 60) = false]) := by kernel_rfl
theorem sa_1 : run E12 8 (bd fn lp) [0, 1, 2, 3, 9, 10, 6] [7, 8, 32, 33, 34] 2 [] (fr l off rows of2 cap2 m (i : Int) [t, t, f, Dec.l, Dec.l, Dec.l]) = some (.normal, fr l off rows of2 cap2 (mLd m (KD rows of2 i) (NM rows of2 i)) (w64 ((i : Int) + 1)) [],
    pre rows of2 i ++ [(K0 rows of2 i == 1) = true, m.ok, (m0 m).ok ∧ m.c.Right, (getW m.w (cellIx m.c (KD rows of2 i) (NM rows of2 i)) != getW m.w (cellIx m.c (KD rows of2 i) (NM rows of2 i))) = false, (mLd m (KD rows of2 i) (NM rows of2 i)).ok, alike (mLd m (KD rows of2 i) (NM rows of2 i)) (mLd (m0 m) (KD rows of2 i) (NM rows of2 i))]) := by kernel_rfl
theorem sa_2 : run E12 8 (bd fn lp) [0, 1, 2, 3, 9, 10, 6] [7, 8, 32, 33, 34] 2 [] (fr l off rows of2 cap2 m (i : Int) [t, f, t, Dec.l, Dec.l, Dec.l, Dec.l]) = some (.normal, fr l off rows of2 cap2 (mSt m (KD rows of2 i) (NM rows of2 i) (VV rows of2 i)) (w64 ((i : Int) + 1)) [],
    pre rows of2 i ++ [(K0 rows of2 i == 1) = false, (K0 rows of2 i == 2) = true, m.ok, (m0 m).ok ∧ m.c.Right, (mSt m (KD rows of2 i) (NM rows of2 i) (VV rows of2 i)).ok, alike (mSt m (KD rows of2 i) (NM rows of2 i) (VV rows of2 i)) (mSt (m0 m) (KD rows of2 i) (NM rows of2 i) (VV rows of2 i))]) := by kernel_rfl
theorem sa_3 : run E12 8 (bd fn lp) [0, 1, 2, 3, 9, 10, 6] [7, 8, 32, 33, 34] 2 [] (fr l off rows of2 cap2 m (i : Int) [t, f, f, t, Dec.l, f, Dec.l, Dec.l]) = some (.normal, fr l off rows of2 cap2 (mSw m (KD rows of2 i) (NM rows of2 i) (OL rows of2 i) (VV rows of2 i)) (w64 ((i : Int) + 1)) [],
    pre rows of2 i ++ [(K0 rows of2 i == 1) = false, (K0 rows of2 i == 2) = false, (K0 rows of2 i == 3) = true, m.ok, (m0 m).ok ∧ m.c.Right, (!(dnS m (KD rows of2 i) (NM rows of2 i) (OL rows of2 i) == dnS (m0 m) (KD rows of2 i) (NM rows of2 i) (OL rows of2 i))) = false, (mSw m (KD rows of2 i) (NM rows of2 i) (OL rows of2 i) (VV rows of2 i)).ok, alike (mSw m (KD rows of2 i) (NM rows of2 i) (OL rows of2 i) (VV rows of2 i)) (mSw (m0 m) (KD rows of2 i) (NM rows of2 i) (OL rows of2 i) (VV rows of2 i))]) := by kernel_rfl
theorem sa_4 : run E12 8 (bd fn lp) [0, 1, 2, 3, 9, 10, 6] [7, 8, 32, 33, 34] 2 [] (fr l off rows of2 cap2 m (i : Int) [t, f, f, f, t, f, Dec.l, Dec.l, Dec.l]) = some (.normal, fr l off rows of2 cap2 (mAd m (KD rows of2 i) (NM rows of2 i) (VV rows of2 i)) (w64 ((i : Int) + 1)) [],
    pre rows of2 i ++ [(K0 rows of2 i == 1) = false, (K0 rows of2 i == 2) = false, (K0 rows of2 i == 3) = false, (K0 rows of2 i == 4) = true, m.ok, (m0 m).ok ∧ m.c.Right, (getW m.w (cellIx m.c (KD rows of2 i) (NM rows of2 i)) != getW m.w (cellIx m.c (KD rows of2 i) (NM rows of2 i))) = false, (mAd m (KD rows of2 i) (NM rows of2 i) (VV rows of2 i)).ok, alike (mAd m (KD rows of2 i) (NM rows of2 i) (VV rows of2 i)) (mAd (m0 m) (KD rows of2 i) (NM rows of2 i) (VV rows of2 i))]) := by kernel_rfl
theorem sa_5 : run E12 8 (bd fn lp) [0, 1, 2, 3, 4, 5, 6] [7, 8, 32, 33, 34] 2 [] (fr l off rows of2 cap2 m (i : Int) [t, f, f, f, f, Dec.l, Dec.l, Dec.l, Dec.l]) = some (.normal, fr l off rows of2 cap2 m (w64 ((i : Int) + 1)) [],
    pre rows of2 i ++ [(K0 rows of2 i == 1) = false, (K0 rows of2 i == 2) = false, (K0 rows of2 i == 3) = false, (K0 rows of2 i == 4) = false, m.ok, alike m (m0 m)]) := by kernel_rfl
theorem sa_end : run E12 8 (bd fn lp) [0, 1] [] 2 [] (fr l off rows of2 cap2 m (i : Int) [f]) = some (.exit 0, mkFr 130 [] (hp0 l off rows of2).blks 2 [] [], [decide ((i : Int) < (rows.length : Int)) = false]) := by kernel_rfl
theorem sa_out : execR E12 8 (.exit 0) [.blk 0, .code (bd fn [1, 1, 1, 1])] [0, 1] [6] 2 [] (mkFr 130 [] (hp0 l off rows of2).blks 2 [] []) = some (.ret, [], frE l off rows of2 true [], []) := by kernel_rfl
theorem sa_long : told (doCall E12 8 fid (args c (some ⟨0, off, none⟩) l.length cap (some ⟨1, of2, none⟩) rows.length cap2) (hp0 l off rows of2) [Dec.l, t]) = some (.bool true, [c.Right ∧ (l.length : Int) = c.len ∧ l.length = l.length ∧ off = off, decide ((rows.length : Int) > 60) = true]) := by kernel_rfl
theorem sa_nil : told (doCall E12 8 fid (args c (some ⟨0, off, none⟩) l.length cap none 0 0) ⟨[(0, .view off (.ints .u64 l u64T))], 2, []⟩ [Dec.l, Dec.l, Dec.l]) = some (.bool true, [c.Right ∧ (l.length : Int) = c.len ∧ l.length = l.length ∧ off = off]) := by kernel_rfl
theorem not_right (a a2 : Option Addr) (n n2 : Nat) : told (doCall E11 20 fid (args c a n cap a2 n2 cap2) ⟨[], 2, []⟩ [t, Dec.l, Dec.l, Dec.l]) = some (.bool true, [(!rightB c) = true]) := by kernel_rfl
theorem not_len (a a2 : Option Addr) (n n2 : Nat) : told (doCall E11 20 fid (args c a n cap a2 n2 cap2) ⟨[], 2, []⟩ [f, t, Dec.l, Dec.l]) = some (.bool true, [(!rightB c) = false, c.Right, ((n : Int) != c.len) = true]) := by kernel_rfl
end
theorem z2 {tl : List Nat} : ∀ k, k < 2 → (0 :: 1 :: tl : List Nat).getD k 0 = k := z2L
theorem acc_ok {m : Mm} (h : m.ok) {op kd n : Int} {w : List Int} {dn : Bool} (hw : w.length = m.w.length) : (m.acc op kd n w dn).ok := ⟨h.1.trans hw.symm, by show ((w.length : Nat) : Int) = m.c.len; rw [hw]; exact h.2⟩
theorem wi (i : Nat) (h : i < 100) : w64 ((i : Int) + 1) = ((i + 1 : Nat) : Int) := by
  rw [w64_in (by omega) (by omega)]
  omega
open Dec in
theorem main (c : Cfg) (l : List Int) (off cap : Nat) (rows : List (List Int)) (of2 cap2 : Nat) (hr : c.Right) (hlen : (l.length : Int) = c.len) (h60 : rows.length ≤ 60) :
    CallC Try.prog fid (args c (some ⟨0, off, none⟩) l.length cap (some ⟨1, of2, none⟩) rows.length cap2) (hp0 l off rows of2) (.bool true) (hp0 l off rows of2) := by
  refine CallC.of_body (E := E12) (ds := [Dec.l, f]) (fn := fn) 127 (by kernel_rfl) (by kernel_rfl) (by kernel_rfl) (by kernel_rfl) ?_
  refine KC.of_exec E12ok (sa_in c l off cap rows of2 cap2) (pcs_of ⟨⟨hr, hlen, rfl, rfl⟩, decide_eq_false (by omega), trivial⟩) (Nat.le_refl _) z2 ?_
  refine KC.loop (m0 := 2) (ι := Nat × Mm) (fun x => fr l off rows of2 cap2 x.2 (x.1 : Int) []) (fun x => x.1 ≤ rows.length ∧ x.2.ok ∧ x.2.c.Right) (fun x => rows.length - x.1)
    (fun ex fr => ex = .exit 0 ∧ fr = mkFr 130 [] (hp0 l off rows of2).blks 2 [] []) (fun x hx => ?_) ?_ (0, newM c l) ⟨Nat.zero_le _, newM_ok hlen, hr⟩
  · obtain ⟨i, m⟩ := x
    obtain ⟨hi, hok, hcr⟩ := hx
    simp only at hi hok hcr ⊢
    have hok0 : (m0 m).ok := hok
    by_cases hlt : i < rows.length
    · have hp := pre_ok (of2 := of2) hlt
      have next : ∀ m' : Mm, m'.ok → m'.c = m.c → (∃ j : Nat × Mm, fr l off rows of2 cap2 m' (w64 ((i : Int) + 1)) [] = fr l off rows of2 cap2 j.2 (j.1 : Int) [] ∧ (j.1 ≤ rows.length ∧ j.2.ok ∧ j.2.c.Right) ∧ rows.length - j.1 < rows.length - i) := fun m' h1 h2 =>
        ⟨(i + 1, m'), by rw [wi i (by omega)], ⟨hlt, h1, by rw [h2]; exact hcr⟩, by simp only; omega⟩
      by_cases k1 : K0 rows of2 i = 1
      · have hok1 : (mLd m (KD rows of2 i) (NM rows of2 i)).ok := acc_ok hok rfl
        refine CodeC.of_run (fr := fr l off rows of2 cap2 m (i : Int) [t, t, f, Dec.l, Dec.l, Dec.l]) E12ok (sa_1 l off rows of2 cap2 m i) (pcs_app hp (pcs_of ⟨beq_iff_eq.2 k1, hok, ⟨hok0, hcr⟩, bne_self_eq_false _, hok1, ⟨rfl, rfl, rfl, rfl⟩, trivial⟩)) (show 2 ≤ 7 by omega) z2 (.inl ⟨rfl, next _ hok1 rfl⟩)
      have b1 : (K0 rows of2 i == 1) = false := beq_eq_false_iff_ne.2 k1
      by_cases k2 : K0 rows of2 i = 2
      · have hok1 : (mSt m (KD rows of2 i) (NM rows of2 i) (VV rows of2 i)).ok := acc_ok hok (setW_len _ _ _)
        refine CodeC.of_run (fr := fr l off rows of2 cap2 m (i : Int) [t, f, t, Dec.l, Dec.l, Dec.l, Dec.l]) E12ok (sa_2 l off rows of2 cap2 m i) (pcs_app hp (pcs_of ⟨b1, beq_iff_eq.2 k2, hok, ⟨hok0, hcr⟩, hok1, ⟨rfl, rfl, rfl, rfl⟩, trivial⟩)) (show 2 ≤ 7 by omega) z2 (.inl ⟨rfl, next _ hok1 rfl⟩)
      have b2 : (K0 rows of2 i == 2) = false := beq_eq_false_iff_ne.2 k2
      by_cases k3 : K0 rows of2 i = 3
      · have hok1 : (mSw m (KD rows of2 i) (NM rows of2 i) (OL rows of2 i) (VV rows of2 i)).ok := acc_ok hok (swpW_len _ _ _ _)
        refine CodeC.of_run (fr := fr l off rows of2 cap2 m (i : Int) [t, f, f, t, Dec.l, f, Dec.l, Dec.l]) E12ok (sa_3 l off rows of2 cap2 m i) (pcs_app hp (pcs_of ⟨b1, b2, beq_iff_eq.2 k3, hok, ⟨hok0, hcr⟩, ?_, hok1, ⟨rfl, rfl, rfl, rfl⟩, trivial⟩)) (show 2 ≤ 7 by omega) z2 (.inl ⟨rfl, next _ hok1 rfl⟩)
        show (!(dnS m _ _ _ == dnS m _ _ _)) = false
        rw [beq_self_eq_true]
        rfl
      have b3 : (K0 rows of2 i == 3) = false := beq_eq_false_iff_ne.2 k3
      by_cases k4 : K0 rows of2 i = 4
      · have hok1 : (mAd m (KD rows of2 i) (NM rows of2 i) (VV rows of2 i)).ok := acc_ok hok (addW_len _ _ _)
        refine CodeC.of_run (fr := fr l off rows of2 cap2 m (i : Int) [t, f, f, f, t, f, Dec.l, Dec.l, Dec.l]) E12ok (sa_4 l off rows of2 cap2 m i) (pcs_app hp (pcs_of ⟨b1, b2, b3, beq_iff_eq.2 k4, hok, ⟨hok0, hcr⟩, bne_self_eq_false _, hok1, ⟨rfl, rfl, rfl, rfl⟩, trivial⟩)) (show 2 ≤ 7 by omega) z2 (.inl ⟨rfl, next _ hok1 rfl⟩)
      have b4 : (K0 rows of2 i == 4) = false := beq_eq_false_iff_ne.2 k4
      exact CodeC.of_run (fr := fr l off rows of2 cap2 m (i : Int) [t, f, f, f, f, Dec.l, Dec.l, Dec.l, Dec.l]) E12ok (sa_5 l off rows of2 cap2 m i) (pcs_app hp (pcs_of ⟨b1, b2, b3, b4, hok, ⟨rfl, rfl, rfl, rfl⟩, trivial⟩)) (show 2 ≤ 7 by omega) z2 (.inl ⟨rfl, next _ hok rfl⟩)
    · exact CodeC.of_run (fr := fr l off rows of2 cap2 m (i : Int) [f]) E12ok (sa_end l off rows of2 cap2 m i) (pcs_of ⟨decide_eq_false (by omega), trivial⟩) (show 2 ≤ 7 by omega) z2 (.inr ⟨by simp, rfl, rfl⟩)
  rintro ex fr ⟨rfl, rfl⟩
  exact KC.of_exec E12ok (sa_out l off rows of2) (pcs_of trivial) (Nat.le_refl _) z2 (KC.done ⟨by simp, [.bool true], [], [0, 1], 2, by kernel_rfl, by simp, by kernel_rfl, rfl, z2⟩)

theorem walk (c : Cfg) (v : Value) (l : List Int) (v2 : Value) (rows : List (List Int)) (w : World) (hl : RowIn .u64 w v l) (h2 : RowR ks w v2 rows) :
    Calls Try.prog fid #[c.v, v, v2] w fun e w1 => e = .returned (.bool true) ∧ Below w.heap.size w w1 := by
  obtain ⟨a, cap, hv⟩ : ∃ (a : Option Addr) (cap : Nat), v = .slice (a.map fun x => ⟨x.block, x.off, none⟩) l.length cap := by
    rcases hl with ⟨rfl, rfl⟩ | ⟨b, off, cap, rfl, _, _⟩
    · exact ⟨none, 0, rfl⟩
    · exact ⟨some ⟨b, off, none⟩, cap, rfl⟩
  obtain ⟨a2, cap2, hv2⟩ : ∃ (a : Option Addr) (cap : Nat), v2 = .slice (a.map fun x => ⟨x.block, x.off, none⟩) rows.length cap := by
    rcases h2 with ⟨rfl, rfl⟩ | ⟨b, off, cap, rfl, _, _⟩
    · exact ⟨none, 0, rfl⟩
    · exact ⟨some ⟨b, off, none⟩, cap, rfl⟩
  by_cases h : c.Right ∧ (l.length : Int) = c.len
  · obtain ⟨hr, hlen⟩ := h
    have hcl := Cfg.len_in hr
    rcases hl with ⟨_, rfl⟩ | ⟨b, off, cap, rfl, hcell, _, hblk⟩
    · simp at hlen
      omega
    · rcases h2 with ⟨rfl, rfl⟩ | ⟨b2, of2, cap2, rfl, hcell2, _, hblk2⟩
      · obtain ⟨o, ho, hov, hopc⟩ := told_some (sa_nil c l off cap)
        have hargs : VRL (fun k => k < 2) (fun _ => b) (args c (some ⟨0, off, none⟩) l.length cap none 0 0) [c.v, .slice (some ⟨b, off, none⟩) l.length cap, .slice none 0 0] := fun ρ' ha => by
          have : ρ' 0 = b := ha 0 (by omega)
          simp [args, Cfg.ren_v, ren, renAddr, this]
        have hH : HR (fun k => k < 2) (fun _ => b) ⟨[(0, .view off (.ints .u64 l u64T))], 2, []⟩ w := HR_row2 (ρ := fun _ => b) (by omega) hcell hblk
        have := calls_of_path E12ok 8 ho (w := w) (by rw [hopc]; exact pcs_of ⟨⟨hr, hlen, rfl, rfl⟩, trivial⟩) (by rw [hov]; rfl) view_isV hargs hH
        rw [hov] at this
        exact this
      · let ρ : Nat → Nat := fun k => if k = 0 then b else b2
        have hargs : VRL (fun k => k < 2) ρ (args c (some ⟨0, off, none⟩) l.length cap (some ⟨1, of2, none⟩) rows.length cap2) [c.v, .slice (some ⟨b, off, none⟩) l.length cap, .slice (some ⟨b2, of2, none⟩) rows.length cap2] := fun ρ' ha => by
          have e0 : ρ' 0 = b := ha 0 (by omega)
          have e1 : ρ' 1 = b2 := ha 1 (by omega)
          simp [args, Cfg.ren_v, ren, renAddr, e0, e1]
        have hH : HR (fun k => k < 2) ρ (hp0 l off rows of2) w := HR_two rfl rfl (sat_ints hcell hblk) (sat_recs hcell2 hblk2)
        by_cases h60 : rows.length ≤ 60
        · exact calls_of_C (main c l off cap rows of2 cap2 hr hlen h60) rfl (two_isV rfl rfl) hargs hH
        · obtain ⟨o, ho, hov, hopc⟩ := told_some (sa_long c l off cap rows of2 cap2)
          have := calls_of_path E12ok 8 ho (w := w) (by rw [hopc]; exact pcs_of ⟨⟨hr, hlen, rfl, rfl⟩, decide_eq_true (by omega), trivial⟩) (by rw [hov]; rfl) (two_isV rfl rfl) hargs hH
          rw [hov] at this
          exact this
  · let ρ : Nat → Nat := fun k => if k = 0 then (a.map Addr.block).getD 0 else (a2.map Addr.block).getD 0
    have hargs : VRL (fun k => k < 2) ρ (args c (anyB 0 a) l.length cap (anyB 1 a2) rows.length cap2) [c.v, v, v2] := fun ρ' ha => by
      have e0 : ρ' 0 = (a.map Addr.block).getD 0 := ha 0 (by omega)
      have e1 : ρ' 1 = (a2.map Addr.block).getD 0 := ha 1 (by omega)
      rw [hv, hv2]
      simp only [args, List.map_cons, List.map_nil, Cfg.ren_v, anyB_rel 0 a ρ' _ _ e0, anyB_rel 1 a2 ρ' _ _ e1]
    by_cases hr : c.Right
    · have hlen : (l.length : Int) ≠ c.len := fun e => h ⟨hr, e⟩
      obtain ⟨o, ho, hov, hopc⟩ := told_some (not_len c cap cap2 (anyB 0 a) (anyB 1 a2) l.length rows.length)
      have := calls_of_path E11ok 20 ho (w := w) (by rw [hopc]; exact pcs_of ⟨by simp [rightB, hr], hr, by simpa using hlen, trivial⟩) (by rw [hov]; rfl) none_isV hargs (HR_none _ 2)
      rw [hov] at this
      exact this
    · obtain ⟨o, ho, hov, hopc⟩ := told_some (not_right c cap cap2 (anyB 0 a) (anyB 1 a2) l.length rows.length)
      have := calls_of_path E11ok 20 ho (w := w) (by rw [hopc]; exact pcs_of ⟨by simp [rightB, hr], trivial⟩) (by rw [hov]; rfl) none_isV hargs (HR_none _ 2)
      rw [hov] at this
      exact this
end Go.Proofs.Ytcpkieahnkfpoaa.StoreAllDone
