/- What 'JoinTwo' comes to, of any input: it returns true and changes nothing that was there. -/
import Derived.Test.YtmliekdbhefpkaaLwJoinTwoU
namespace Go.Proofs.Ytmliekdbhefpkaa.JoinTwoDone
open Go Go.Proofs Go.Proofs.Ytmliekdbhefpkaa.Ev Go.Proofs.Ytmliekdbhefpkaa.Ct
open Go.RowKit

theorem z1 {tl : List Nat} : ∀ k, k < 1 → (0 :: tl : List Nat).getD k 0 = k := fun k hk => by
  match k, hk with
  | 0, _ => rfl
theorem big_orB (ik : Bk) : (∃ of2 cap2 L, ik = .row of2 cap2 L ∧ 100 < L.length) ∨ ((∀ p ∈ big ik, p) ∧ ik.len ≤ 100) := by
  cases ik with
  | nil => exact .inr ⟨pcs_of trivial, Nat.zero_le _⟩
  | row of2 cap2 L =>
    by_cases h : L.length ≤ 100
    · exact .inr ⟨pcs_of ⟨decide_eq_false (by omega), trivial⟩, h⟩
    · exact .inl ⟨of2, cap2, L, rfl, by omega⟩
theorem HR_bool {ρ : Nat → Nat} {w : World} {b0 : Blk} (v0 : b0.isV = true) (h0 : ∃ o, w.heap[ρ 0]? = some o ∧ ∀ ρ', b0.sat ρ' o) : HR (fun k => k < 1) ρ ⟨[(0, b0)], 1, []⟩ w := by
  refine HR_views (hp := ⟨[(0, b0)], 1, []⟩) fun n b hb => ?_
  simp only [Hp.get, lookB] at hb
  cases hn : Nat.beq 0 n
  · simp [hn] at hb
  · simp only [hn, cond_true, Option.some.injEq] at hb
    have := beq_nat hn
    subst this; subst hb
    exact ⟨Nat.zero_lt_one, v0, h0⟩
theorem x7_rng (x : Int) : 0 ≤ x7 x ∧ x7 x ≤ 7 := by
  have e : (BitVec.ofInt 64 x &&& BitVec.ofInt 64 7).toNat ≤ 7 := by
    rw [BitVec.toNat_and]
    exact Nat.and_le_right
  unfold x7
  rw [w64_in (by omega) (by omega)]
  omega
theorem put_lo {x n : Int} (h : bitI x n = false) (b : Bool) : putI x n b = x + (if b then pw n else 0) := by
  unfold putI
  rw [h]
  cases b
  · simp
  · simp
theorem pk_sum {p : Ps} (h : PkR p) : pkI p = pkB p + (if p.op then 16777216 else 0) + (if p.ip then 33554432 else 0) + (if p.bz then 67108864 else 0) := by
  obtain ⟨a, b, c, d, e, f, g, i⟩ := h
  have h24 : bitI (pkB p) 24 = false := by
    show (pkB p / 16777216 % 2 == 1) = false
    rw [beq_eq_false_iff_ne]
    unfold pkB
    omega
  have p1 : putI (pkB p) 24 p.op = pkB p + (if p.op then 16777216 else 0) := put_lo h24 p.op
  have h25 : bitI (pkB p + (if p.op then 16777216 else 0)) 25 = false := by
    show ((pkB p + (if p.op then 16777216 else 0)) / 33554432 % 2 == 1) = false
    rw [beq_eq_false_iff_ne]
    unfold pkB
    split <;> omega
  have p2 : putI (pkB p + (if p.op then 16777216 else 0)) 25 p.ip = pkB p + (if p.op then 16777216 else 0) + (if p.ip then 33554432 else 0) := put_lo h25 p.ip
  have h26 : bitI (pkB p + (if p.op then 16777216 else 0) + (if p.ip then 33554432 else 0)) 26 = false := by
    show ((pkB p + (if p.op then 16777216 else 0) + (if p.ip then 33554432 else 0)) / 67108864 % 2 == 1) = false
    rw [beq_eq_false_iff_ne]
    unfold pkB
    split <;> split <;> omega
  have p3 : putI (pkB p + (if p.op then 16777216 else 0) + (if p.ip then 33554432 else 0)) 26 p.bz = pkB p + (if p.op then 16777216 else 0) + (if p.ip then 33554432 else 0) + (if p.bz then 67108864 else 0) := put_lo h26 p.bz
  unfold pkI
  rw [p1, p2, p3]
theorem pk_parts {p : Ps} (h : PkR p) : nuI (pkI p) 30 32 = p.gen ∧ nuI (pkI p) 27 3 = p.st ∧ bitI (pkI p) 26 = p.bz := by
  have e := pk_sum h
  obtain ⟨a, b, c, d, e', f, g, i⟩ := h
  refine ⟨?_, ?_, ?_⟩
  · show pkI p / 1073741824 % 4294967296 = p.gen
    rw [e]
    unfold pkB
    split <;> split <;> split <;> omega
  · show pkI p / 134217728 % 8 = p.st
    rw [e]
    unfold pkB
    split <;> split <;> split <;> omega
  · show (pkI p / 67108864 % 2 == 1) = p.bz
    rw [e]
    unfold pkB
    cases p.bz with
    | true =>
      rw [beq_iff_eq]
      simp only [if_true]
      split <;> split <;> omega
    | false =>
      rw [beq_eq_false_iff_ne]
      simp only [Bool.false_eq_true, if_false]
      split <;> split <;> omega
theorem JT.start {c : Cfg} (hr : c.Right) {p : Ps} (hk : pkOk (p2 p) = true) (za zb : Int) : JT c (x7 za) (x7 zb) (M0 c p) (j0 0 za) (j0 1 zb) o0 (W3 (x7 za) (x7 zb) (pkI (p2 p))) := by
  have hp := pkOk_iff.1 hk
  have hW : pkW (p2 p) = pkI (p2 p) := if_pos hk
  have hwd := (pk_rng hp).2.2
  have o0' := nwM_ok hr
  have hz := zW_len hr
  have zf : WfW (zW c) := fun x hx => by
    unfold zW at hx
    rw [List.eq_of_mem_replicate hx]
    decide
  have wz : Wd 0 := by constructor <;> decide
  have hq : Q c (M0 c p) = pkI (p2 p) := by
    show getW (setW (zW c) (cellIx c 4 0) (pkW (p2 p))) (cellIx c 4 0) = _
    rw [hW]
    exact getW_set_same (ix0 hr).1 (by rw [hz]; exact (ix0 hr).2)
  refine ⟨⟨acc_ok o0' (setW_len _ _ _), rfl, ?_⟩, ?_, ⟨rfl, rfl, rfl, .inl rfl, wz, .inl rfl⟩, ⟨rfl, rfl, rfl, .inl rfl, wz, .inl rfl⟩, ⟨rfl, rfl, rfl, wz, fun x => by cases x⟩, by rw [hq]⟩
  · show WfW (setW (zW c) (cellIx c 4 0) (pkW (p2 p)))
    rw [hW]
    exact zf.setW _ hwd.1 hwd.2
  · rw [hq]
    exact ⟨(pk_parts hp).2.1, hwd⟩
open Dec in
theorem main (c : Cfg) (p : Ps) (za zb : Int) (bk : Bk) (hr : c.Right) : CallC Try.prog fid (A c p za zb bk) (iHp bk) (.bool true) (iHp bk) := by
  by_cases hk : pkOk (p2 p) = true
  · have nk : (!pkOk (p2 p)) = false := by rw [hk]; rfl
    rcases big_orB bk with ⟨of2, cap2, L, rfl, hb⟩ | ⟨hb, hl⟩
    · exact CallC.of_call E53pok (g_big c p za zb of2 cap2 L) (pcs_of ⟨hr, nk, decide_eq_true (by omega), trivial⟩) rfl z1
    have hp := pkOk_iff.1 hk
    have hW : pkW (p2 p) = pkI (p2 p) := if_pos hk
    have hwd := (pk_rng hp).2.2
    obtain ⟨x0, x1⟩ := x7_rng za
    obtain ⟨y0, y1⟩ := x7_rng zb
    refine CallC.of_body (E := E53p) (ds := []) (fn := fn) 132 (by kernel_rfl) (by kernel_rfl) (by kernel_rfl) (by kernel_rfl) ?_
    refine KC.of_exec (fr := start c p za zb bk [Dec.l, Dec.l, f, dsB bk, Dec.l, Dec.l, Dec.l]) E53pok (g_in c p za zb bk) (pcs_app (pcs_of ⟨hr, nk, trivial⟩) (pcs_app hb (pcs_of ⟨nwM_ok hr, trivial⟩))) (Nat.le_refl _) z1 ?_
    refine KC.loop (m0 := 1) (ι := Nat × Mm × Jn × Jn × On) (fun x => fr bk za zb x.2.1 x.2.2.1 x.2.2.2.1 x.2.2.2.2 (pkW (p2 p)) (x.1 : Int) []) (fun x => x.1 ≤ bk.len ∧ JT c (x7 za) (x7 zb) x.2.1 x.2.2.1 x.2.2.2.1 x.2.2.2.2 (W3 (x7 za) (x7 zb) (pkI (p2 p)))) (fun x => bk.len - x.1)
      (fun ex fr => ex = .exit 0 ∧ ∃ m a b o, JT c (x7 za) (x7 zb) m a b o (W3 (x7 za) (x7 zb) (pkI (p2 p))) ∧ fr = frM bk za zb m a b o (pkW (p2 p)) []) (fun x hx => ?_) ?_ (0, M0 c p, j0 0 za, j0 1 zb, o0) ⟨Nat.zero_le _, JT.start hr hk za zb⟩
    · obtain ⟨i, m, a, b, o⟩ := x
      obtain ⟨hi, hI⟩ := hx
      simp only at hi hI ⊢
      by_cases hlt : i < bk.len
      · cases bk with
        | nil => exact absurd hlt (Nat.not_lt_zero _)
        | row of2 cap2 L =>
          have hlt' : i < L.length := hlt
          have hl' : L.length ≤ 100 := hl
          have hd : ∀ p ∈ rd i of2 L, p := pcs_of ⟨decide_eq_true (by omega), by omega, by omega, by rw [addN_eq]; omega, by rw [jv_eq]; exact hlt', trivial⟩
          obtain ⟨ga, gb, go⟩ := hI.ga
          cases hx : L.getD (jv of2 i) false with
          | true =>
            exact CodeC.of_run (fr := fr (.row of2 cap2 L) za zb m a b o (pkW (p2 p)) (i : Int) [t, t]) E53pok (b_t za zb m a b o _ i of2 cap2 L) (pcs_app hd (pcs_of ⟨hx, ⟨rfl, ga⟩, trivial⟩)) (show 1 ≤ 7 by omega) z1
              (.inl ⟨rfl, (i + 1, jMe a m, jSt a m, b, o), by rw [w64_succ i (by omega)], ⟨hlt, (hI.sa hr x0 (by omega)).1⟩, by simp only; omega⟩)
          | false =>
            have s1 := (hI.sb hr y0 (by omega)).1
            exact CodeC.of_run (fr := fr (.row of2 cap2 L) za zb m a b o (pkW (p2 p)) (i : Int) [t, f]) E53pok (b_f za zb m a b o _ i of2 cap2 L) (pcs_app hd (pcs_of ⟨hx, ⟨rfl, gb⟩, ⟨rfl, s1.ga.2.2⟩, trivial⟩)) (show 1 ≤ 7 by omega) z1
              (.inl ⟨rfl, (i + 1, oMe o (jMe b m), a, jSt b m, oSt o (jMe b m)), by rw [w64_succ i (by omega)], ⟨hlt, (s1.so hr).1⟩, by simp only; omega⟩)
      · exact CodeC.of_run (fr := fr bk za zb m a b o (pkW (p2 p)) (i : Int) [f]) E53pok (b_0 za zb bk m a b o _ i) (pcs_of ⟨decide_eq_false (by omega), trivial⟩) (show 1 ≤ 7 by omega) z1 (.inr ⟨by simp, rfl, m, a, b, o, hI, rfl⟩)
    rintro ex fr ⟨rfl, m, a, b, o, hI, rfl⟩
    have rA := JT.ra hr x0 (by omega) 50 0 a m hI (by have := muJ_le (Q c m) a; omega)
    have rB := JT.rb hr y0 (by omega) 50 0 b (RA a m).2.2 rA.2 (by have := muJ_le (Q c (RA a m).2.2) b; omega)
    have rO := JT.ro hr 50 0 o (RB a b m).2.2 rB.2 (by have := muO_le (Q c (RB a b m).2.2) o; omega)
    have hF : JT c (x7 za) (x7 zb) (RO a b o m).2.2 (RA a m).2.1 (RB a b m).2.1 (RO a b o m).2.1 (W3 (x7 za) (x7 zb) (pkI (p2 p))) := rO.2
    have ra2 : (RA a m).2.1.r = 2 ∧ hasI (Q c (RO a b o m).2.2) 0 (x7 za) = true := by
      rcases hF.ja.2.2.2.2.2 with e | e
      · exact absurd e rA.1
      · exact e
    have rb2 : (RB a b m).2.1.r = 2 ∧ hasI (Q c (RO a b o m).2.2) 1 (x7 zb) = true := by
      rcases hF.jb.2.2.2.2.2 with e | e
      · exact absurd e rB.1
      · exact e
    have ro2 := hF.oo.2.2.2.2 rO.1
    have hq : Q c (RO a b o m).2.2 = W3 (x7 za) (x7 zb) (pkI (p2 p)) := by
      rw [← hF.w3]
      unfold W3
      rw [withI_has ra2.2, withI_has rb2.2, withI_has ro2]
    have eq : (getW (RO a b o m).2.2.w (cellIx (RO a b o m).2.2.c 4 0) == w3 (pkW (p2 p)) za zb) = true := by
      rw [hF.mok.2.1, hW]
      exact beq_iff_eq.2 hq
    have T : ∀ {g : Prop}, g → T50 g := fun hg => ⟨rfl, by decide, hg⟩
    have wd0 : Wd (pkW (p2 p)) := by rw [hW]; exact hwd
    refine KC.of_exec (fr := frM bk za zb m a b o (pkW (p2 p)) [Dec.l, t, t, t]) E53pok (g_out za zb bk m a b o (pkW (p2 p))) (pcs_of ⟨T hI.ga.1, T rA.2.ga.2.1, T rB.2.ga.2.2, wd0, withI_rng wd0 _ _, withI_rng (withI_rng wd0 _ _) _ _, beq_iff_eq.2 ra2.1, beq_iff_eq.2 rb2.1, rO.1, hF.mok.1, trivial⟩) (show 1 ≤ 7 by omega) z1 ?_
    rw [eq]
    refine KC.done ?_
    cases bk with
    | nil => exact ⟨by simp, [.bool true], [], [0], 1, by kernel_rfl, by simp, by kernel_rfl, rfl, z1⟩
    | row of2 cap2 L => exact ⟨by simp, [.bool true], [], [0], 1, by kernel_rfl, by simp, by kernel_rfl, rfl, z1⟩
  · exact CallC.of_call E53pok (g_no c p za zb bk) (pcs_of ⟨hr, by rw [eq_false_of_ne_true hk]; rfl, trivial⟩) rfl z1
theorem ps_ren (ρ : Nat → Nat) (p : Ps) : ren ρ p.v = p.v := rfl
theorem tv_ren (ρ : Nat → Nat) (za zb : Int) (bk : Bk) : ren ρ (.agg ⟨tv za zb bk⟩) = .agg ⟨[.int .i64 za, .int .i64 zb, ren ρ (bk.sv 0)]⟩ := rfl
theorem walk (c : Cfg) (p : Ps) (za zb : Int) (v : Value) (L : List Bool) (w : World) (hl : RowB w v L) :
    Calls Try.prog fid #[c.v, p.v, .agg ⟨[.int .i64 za, .int .i64 zb, v]⟩] w fun e w1 => e = .returned (.bool true) ∧ Below w.heap.size w w1 := by
  by_cases hr : c.Right
  · rcases hl with ⟨rfl, rfl⟩ | ⟨b, off, cap, rfl, hcell, hblk⟩
    · have hargs : VRL (fun k => k < 1) (fun _ => 0) (A c p za zb .nil) [c.v, p.v, .agg ⟨[.int .i64 za, .int .i64 zb, .slice none 0 0]⟩] := fun ρ' ha => by
        simp only [A, List.map_cons, List.map_nil, Cfg.ren_v, ps_ren, tv_ren]
        rfl
      exact calls_of_C (main c p za zb .nil hr) rfl none_isV hargs (HR_none _ 1)
    · have hargs : VRL (fun k => k < 1) (fun _ => b) (A c p za zb (.row off cap L)) [c.v, p.v, .agg ⟨[.int .i64 za, .int .i64 zb, .slice (some ⟨b, off, none⟩) L.length cap]⟩] := fun ρ' ha => by
        have e0 : ρ' 0 = b := ha 0 (by omega)
        simp only [A, List.map_cons, List.map_nil, Cfg.ren_v, ps_ren, tv_ren]
        simp [Bk.sv, ren, e0]
      exact calls_of_C (main c p za zb (.row off cap L) hr) rfl view_isV hargs (HR_bool (ρ := fun _ => b) rfl (sat_bools hcell hblk))
  · obtain ⟨bk, b, hv⟩ : ∃ (bk : Bk) (b : Nat), ∀ ρ' : Nat → Nat, ρ' 0 = b → ren ρ' (bk.sv 0) = v := by
      rcases hl with ⟨rfl, rfl⟩ | ⟨b, off, cap, rfl, _⟩
      · exact ⟨.nil, 0, fun _ _ => rfl⟩
      · exact ⟨.row off cap L, b, fun ρ' h => by simp [Bk.sv, ren, h]⟩
    have hargs : VRL (fun k => k < 1) (fun _ => b) (A c p za zb bk) [c.v, p.v, .agg ⟨[.int .i64 za, .int .i64 zb, v]⟩] := fun ρ' ha => by
      have e0 : ρ' 0 = b := ha 0 (by omega)
      simp only [A, List.map_cons, List.map_nil, Cfg.ren_v, ps_ren, tv_ren, hv ρ' e0]
    have hz : c.len = 0 := if_neg hr
    exact true_of_path E51pok (g_nr c p za zb bk) (pcs_of ⟨by omega, by omega, by omega, by rw [hz]; rfl, trivial⟩) none_isV hargs (HR_none _ 1)
end Go.Proofs.Ytmliekdbhefpkaa.JoinTwoDone
