/- What 'JoinBoth' comes to, of any input: it returns true and changes nothing that was there. -/
import Derived.Test.YtmliekdbhefpkaaLwJoinBothU
namespace Go.Proofs.Ytmliekdbhefpkaa.JoinBothDone
open Go Go.Proofs Go.Proofs.Ytmliekdbhefpkaa.Ev Go.Proofs.Ytmliekdbhefpkaa.Ct
open Go.RowKit

theorem z1 {tl : List Nat} : ∀ k, k < 1 → (0 :: tl : List Nat).getD k 0 = k := fun k hk => by
  match k, hk with
  | 0, _ => rfl
theorem big_orB (ik : Bk) : (∃ of2 cap2 L, ik = .row of2 cap2 L ∧ 100 < L.length) ∨ ((∀ p ∈ big ik, p) ∧ ik.len ≤ 100) := by
  cases ik with
  | nil => exact .inr ⟨pcs_of trivial, Nat.zero_le _⟩
  | row of2 cap2 L =>
    by_cases h : L.length ≤ 100
    · exact .inr ⟨pcs_of ⟨decide_eq_false (by omega), trivial⟩, h⟩
    · exact .inl ⟨of2, cap2, L, rfl, by omega⟩
theorem HR_bool {ρ : Nat → Nat} {w : World} {b0 : Blk} (v0 : b0.isV = true) (h0 : ∃ o, w.heap[ρ 0]? = some o ∧ ∀ ρ', b0.sat ρ' o) : HR (fun k => k < 1) ρ ⟨[(0, b0)], 1, []⟩ w := by
  refine HR_views (hp := ⟨[(0, b0)], 1, []⟩) fun n b hb => ?_
  simp only [Hp.get, lookB] at hb
  cases hn : Nat.beq 0 n
  · simp [hn] at hb
  · simp only [hn, cond_true, Option.some.injEq] at hb
    have := beq_nat hn
    subst this; subst hb
    exact ⟨Nat.zero_lt_one, v0, h0⟩
theorem x7_rng (x : Int) : 0 ≤ x7 x ∧ x7 x ≤ 7 := by
  have e : (BitVec.ofInt 64 x &&& BitVec.ofInt 64 7).toNat ≤ 7 := by
    rw [BitVec.toNat_and]
    exact Nat.and_le_right
  unfold x7
  rw [w64_in (by omega) (by omega)]
  omega
theorem put_lo {x n : Int} (h : bitI x n = false) (b : Bool) : putI x n b = x + (if b then pw n else 0) := by
  unfold putI
  rw [h]
  cases b
  · simp
  · simp
theorem pk_sum {p : Ps} (h : PkR p) : pkI p = pkB p + (if p.op then 16777216 else 0) + (if p.ip then 33554432 else 0) + (if p.bz then 67108864 else 0) := by
  obtain ⟨a, b, c, d, e, f, g, i⟩ := h
  have h24 : bitI (pkB p) 24 = false := by
    show (pkB p / 16777216 % 2 == 1) = false
    rw [beq_eq_false_iff_ne]
    unfold pkB
    omega
  have p1 : putI (pkB p) 24 p.op = pkB p + (if p.op then 16777216 else 0) := put_lo h24 p.op
  have h25 : bitI (pkB p + (if p.op then 16777216 else 0)) 25 = false := by
    show ((pkB p + (if p.op then 16777216 else 0)) / 33554432 % 2 == 1) = false
    rw [beq_eq_false_iff_ne]
    unfold pkB
    split <;> omega
  have p2 : putI (pkB p + (if p.op then 16777216 else 0)) 25 p.ip = pkB p + (if p.op then 16777216 else 0) + (if p.ip then 33554432 else 0) := put_lo h25 p.ip
  have h26 : bitI (pkB p + (if p.op then 16777216 else 0) + (if p.ip then 33554432 else 0)) 26 = false := by
    show ((pkB p + (if p.op then 16777216 else 0) + (if p.ip then 33554432 else 0)) / 67108864 % 2 == 1) = false
    rw [beq_eq_false_iff_ne]
    unfold pkB
    split <;> split <;> omega
  have p3 : putI (pkB p + (if p.op then 16777216 else 0) + (if p.ip then 33554432 else 0)) 26 p.bz = pkB p + (if p.op then 16777216 else 0) + (if p.ip then 33554432 else 0) + (if p.bz then 67108864 else 0) := put_lo h26 p.bz
  unfold pkI
  rw [p1, p2, p3]
theorem pk_parts {p : Ps} (h : PkR p) : nuI (pkI p) 30 32 = p.gen ∧ nuI (pkI p) 27 3 = p.st ∧ bitI (pkI p) 26 = p.bz := by
  have e := pk_sum h
  obtain ⟨a, b, c, d, e', f, g, i⟩ := h
  refine ⟨?_, ?_, ?_⟩
  · show pkI p / 1073741824 % 4294967296 = p.gen
    rw [e]
    unfold pkB
    split <;> split <;> split <;> omega
  · show pkI p / 134217728 % 8 = p.st
    rw [e]
    unfold pkB
    split <;> split <;> split <;> omega
  · show (pkI p / 67108864 % 2 == 1) = p.bz
    rw [e]
    unfold pkB
    cases p.bz with
    | true =>
      rw [beq_iff_eq]
      simp only [if_true]
      split <;> split <;> omega
    | false =>
      rw [beq_eq_false_iff_ne]
      simp only [Bool.false_eq_true, if_false]
      split <;> split <;> omega
theorem JB.start {c : Cfg} (hr : c.Right) {p : Ps} (hk : pkOk p = true) (za zb : Int) (h1 : ¬ (anyI (pkW p) 0 = true ∧ anyI (pkW p) 1 = true)) : JB c p.st (x7 za) (x7 zb) (M0 c p) (j0 0 za) (j0 1 zb) := by
  have hp := pkOk_iff.1 hk
  have hW : pkW p = pkI p := if_pos hk
  have hwd := (pk_rng hp).2.2
  have o0' := nwM_ok hr
  have hz := zW_len hr
  have zf : WfW (zW c) := fun x hx => by
    unfold zW at hx
    rw [List.eq_of_mem_replicate hx]
    decide
  have wz : Wd 0 := by constructor <;> decide
  obtain ⟨k0, k1, k2⟩ := ix6 hr
  have o1 : (mSt (nwM c) 4 0 (pkW p)).ok := acc_ok o0' (setW_len _ _ _)
  have hq : Q c (M0 c p) = pkW p := by
    show getW (setW (setW (zW c) (cellIx c 4 0) (pkW p)) (cellIx c 6 0) 9) (cellIx c 4 0) = _
    rw [getW_set_ne (fun x => k2 x.symm)]
    exact getW_set_same (ix0 hr).1 (by rw [hz]; exact (ix0 hr).2)
  have hn : Nb c (M0 c p) = 9 := getW_set_same k0 (by show _ < ((setW (zW c) (cellIx c 4 0) (pkW p)).length : Int); rw [setW_len, hz]; exact k1)
  have jk : ∀ sd z, Jok p.st sd (x7 z) (pkW p) (j0 sd z) := fun sd z => ⟨rfl, rfl, rfl, rfl, .inl rfl, wz, fun x => absurd rfl x, fun x => absurd x (show lookF ≠ layF by decide), .inl rfl⟩
  refine ⟨⟨acc_ok o1 (setW_len _ _ _), rfl, ?_⟩, ?_, by rw [hq]; exact jk 0 za, by rw [hq]; exact jk 1 zb⟩
  · show WfW (setW (setW (zW c) (cellIx c 4 0) (pkW p)) (cellIx c 6 0) 9)
    rw [hW]
    exact (zf.setW _ hwd.1 hwd.2).setW _ (by decide) (by decide)
  · rw [hq, hn]
    exact ⟨by rw [hW]; exact (pk_parts hp).2.1, by rw [hW]; exact hwd, rfl, h1⟩
theorem anP_ok {w : Int} (hw : Wd w) (h : ¬ (anyI w 0 = true ∧ anyI w 1 = true)) : ∀ p ∈ anP w (anyI w 0), p := by
  cases e : anyI w 0 with
  | true => exact pcs_of ⟨hw, e, hw, eq_false_of_ne_true fun x => h ⟨e, x⟩, trivial⟩
  | false => exact pcs_of ⟨hw, e, trivial⟩
theorem stP_ok {p : Ps} (h : p.st = 3 ∨ p.st = 4) : ∀ x ∈ stP p (p.st == 3), x := by
  rcases h with e | e
  · rw [e]
    exact pcs_of ⟨by rw [e]; rfl, trivial⟩
  · rw [e]
    exact pcs_of ⟨by rw [e]; rfl, by rw [e]; rfl, trivial⟩
open Dec in
theorem main (c : Cfg) (p : Ps) (za zb : Int) (bk : Bk) (hr : c.Right) : CallC Try.prog fid (A c p za zb bk) (iHp bk) (.bool true) (iHp bk) := by
  by_cases hk : pkOk p = true
  · have nk : (!pkOk p) = false := by rw [hk]; rfl
    rcases big_orB bk with ⟨of2, cap2, L, rfl, hb⟩ | ⟨hb, hl⟩
    · exact CallC.of_call E53pok (g_big c p za zb of2 cap2 L) (pcs_of ⟨hr, nk, decide_eq_true (by omega), trivial⟩) rfl z1
    have hp := pkOk_iff.1 hk
    have hW : pkW p = pkI p := if_pos hk
    have hwd : Wd (pkW p) := by rw [hW]; exact (pk_rng hp).2.2
    by_cases hst : ¬ (p.st = 3 ∨ p.st = 4)
    · exact CallC.of_call E53pok (g_st c p za zb bk) (pcs_app (pcs_of ⟨hr, nk, trivial⟩) (pcs_app hb (pcs_of ⟨bne_iff_ne.2 fun x => hst (.inl x), bne_iff_ne.2 fun x => hst (.inr x), trivial⟩))) rfl z1
    have hst : p.st = 3 ∨ p.st = 4 := by omega
    have hs3 := stP_ok hst
    by_cases h1 : anyI (pkW p) 0 = true ∧ anyI (pkW p) 1 = true
    · exact CallC.of_call E53pok (g_bo c p za zb bk (p.st == 3)) (pcs_app (pcs_of ⟨hr, nk, trivial⟩) (pcs_app hb (pcs_app hs3 (pcs_of ⟨hwd, h1.1, hwd, h1.2, trivial⟩)))) rfl z1
    obtain ⟨x0, x1⟩ := x7_rng za
    obtain ⟨y0, y1⟩ := x7_rng zb
    have o0' := nwM_ok hr
    refine CallC.of_body (E := E53p) (ds := []) (fn := fn) 165 (by kernel_rfl) (by kernel_rfl) (by kernel_rfl) (by kernel_rfl) ?_
    refine KC.of_exec (fr := start c p za zb bk ([Dec.l, Dec.l, f, dsB bk] ++ (stD (p.st == 3) ++ (anD (anyI (pkW p) 0) ++ [Dec.l, Dec.l])))) E53pok (g_in c p za zb bk (p.st == 3) (anyI (pkW p) 0)) (pcs_app (pcs_of ⟨hr, nk, trivial⟩) (pcs_app hb (pcs_app hs3 (pcs_app (anP_ok hwd h1) (pcs_of ⟨o0', acc_ok o0' (setW_len _ _ _), trivial⟩))))) (Nat.le_refl _) z1 ?_
    refine KC.loop (m0 := 1) (ι := Nat × Mm × Jn × Jn) (fun x => fr bk za zb x.2.1 x.2.2.1 x.2.2.2 (x.1 : Int) []) (fun x => x.1 ≤ bk.len ∧ JB c p.st (x7 za) (x7 zb) x.2.1 x.2.2.1 x.2.2.2) (fun x => bk.len - x.1)
      (fun ex fr => ex = .exit 0 ∧ ∃ m a b, JB c p.st (x7 za) (x7 zb) m a b ∧ fr = frM bk za zb m a b []) (fun x hx => ?_) ?_ (0, M0 c p, j0 0 za, j0 1 zb) ⟨Nat.zero_le _, JB.start hr hk za zb h1⟩
    · obtain ⟨i, m, a, b⟩ := x
      obtain ⟨hi, hI⟩ := hx
      simp only at hi hI ⊢
      by_cases hlt : i < bk.len
      · cases bk with
        | nil => exact absurd hlt (Nat.not_lt_zero _)
        | row of2 cap2 L =>
          have hlt' : i < L.length := hlt
          have hl' : L.length ≤ 100 := hl
          have hd : ∀ p ∈ rd i of2 L, p := pcs_of ⟨decide_eq_true (by omega), by omega, by omega, by rw [addN_eq]; omega, by rw [jv_eq]; exact hlt', trivial⟩
          obtain ⟨ga, gb⟩ := hI.ga
          cases hx : L.getD (jv of2 i) false with
          | true =>
            exact CodeC.of_run (fr := fr (.row of2 cap2 L) za zb m a b (i : Int) [t, t]) E53pok (b_t za zb m a b i of2 cap2 L) (pcs_app hd (pcs_of ⟨hx, ⟨rfl, ga⟩, trivial⟩)) (show 1 ≤ 6 by omega) z1
              (.inl ⟨rfl, (i + 1, jMe a m, jSt a m, b), by rw [w64_succ i (by omega)], ⟨hlt, (hI.sa hr hst x0 (by omega)).1⟩, by simp only; omega⟩)
          | false =>
            exact CodeC.of_run (fr := fr (.row of2 cap2 L) za zb m a b (i : Int) [t, f]) E53pok (b_f za zb m a b i of2 cap2 L) (pcs_app hd (pcs_of ⟨hx, ⟨rfl, gb⟩, trivial⟩)) (show 1 ≤ 6 by omega) z1
              (.inl ⟨rfl, (i + 1, jMe b m, a, jSt b m), by rw [w64_succ i (by omega)], ⟨hlt, (hI.sb hr hst y0 (by omega)).1⟩, by simp only; omega⟩)
      · exact CodeC.of_run (fr := fr bk za zb m a b (i : Int) [f]) E53pok (b_0 za zb bk m a b i) (pcs_of ⟨decide_eq_false (by omega), trivial⟩) (show 1 ≤ 6 by omega) z1 (.inr ⟨by simp, rfl, m, a, b, hI, rfl⟩)
    rintro ex fr ⟨rfl, m, a, b, hI, rfl⟩
    have rA := JB.ra hr hst x0 (by omega) 50 0 a m hI (by have := muJ_le (Q c m) a; omega)
    have rB := JB.rb hr hst y0 (by omega) 50 0 b (RA a m).2.2 rA.2 (by have := muJ_le (Q c (RA a m).2.2) b; omega)
    have hF : JB c p.st (x7 za) (x7 zb) (RB a b m).2.2 (RA a m).2.1 (RB a b m).2.1 := rB.2
    have hV : V a b m = Q c (RB a b m).2.2 := by
      show getW _ (cellIx (RB a b m).2.2.c 4 0) = _
      rw [hF.mok.2.1]
    have ra := hF.ja.r.resolve_left rA.1
    have rb := hF.jb.r.resolve_left rB.1
    rw [← hV] at ra rb
    have one := hF.act.one
    have wdv := hF.act.w
    rw [← hV] at one wdv
    have T : ∀ {g : Prop}, g → T50 g := fun hg => ⟨rfl, by decide, hg⟩
    have h01 : ∀ x ∈ o1 a b m, x := pcs_of ⟨T hI.ga.1, T rA.2.ga.2, hF.mok.1, trivial⟩
    have han := anP_ok wdv one
    have n0 : ∀ z, anyI (V a b m) 1 = true → hasI (V a b m) 0 z = false := fun z h => eq_false_of_ne_true fun x => one ⟨any_has (by omega) (by omega) x, h⟩
    have n1 : ∀ z, anyI (V a b m) 0 = true → hasI (V a b m) 1 z = false := fun z h => eq_false_of_ne_true fun x => one ⟨h, any_has (by omega) (by omega) x⟩
    have vx : ((x a m == 2) == hasI (V a b m) 0 (x7 za)) = true := by
      rcases ra with ⟨e, h⟩ | ⟨e, h⟩
      · rw [h, show x a m = 2 from e]; rfl
      · rw [n0 _ h, show x a m = 3 from e]; rfl
    have vy : ((y a b m == 2) == hasI (V a b m) 1 (x7 zb)) = true := by
      rcases rb with ⟨e, h⟩ | ⟨e, h⟩
      · rw [h, show y a b m = 2 from e]; rfl
      · rw [n1 _ h, show y a b m = 3 from e]; rfl
    have hoz : ∀ q ∈ oz a b m za, q := pcs_of ⟨wdv, vx, wdv, trivial⟩
    have fin : KC E53p 1 .ret [] (frE bk true) (Ev.Ends E53p fn 1 (.bool true) (iHp bk)) := by
      refine KC.done ?_
      cases bk with
      | nil => exact ⟨by simp, [.bool true], [], [0], 1, by kernel_rfl, by simp, by kernel_rfl, rfl, z1⟩
      | row of2 cap2 L => exact ⟨by simp, [.bool true], [], [0], 1, by kernel_rfl, by simp, by kernel_rfl, rfl, z1⟩
    rcases ra with ⟨ea, ha⟩ | ⟨ea, ha⟩
    · rcases rb with ⟨eb, hb2⟩ | ⟨eb, hb2⟩
      · exact absurd ⟨any_has (by omega) (by omega) ha, any_has (by omega) (by omega) hb2⟩ one
      · have ex : x a m = 2 := ea
        have ey : y a b m = 3 := eb
        refine KC.of_exec (fr := frM bk za zb m a b (anD (anyI (V a b m) 0) ++ [Dec.l, t, Dec.l, f, t, t, t, t])) E53pok (o_23 za zb bk m a b (anyI (V a b m) 0)) (pcs_app h01 (pcs_app han (pcs_app (pcs_of ⟨by rw [ex]; rfl, by rw [ey]; rfl, by rw [ey]; rfl, by rw [ex]; rfl, by rw [ey]; rfl, trivial⟩) hoz))) (show 1 ≤ 6 by omega) z1 ?_
        rw [vy]
        exact fin
    · rcases rb with ⟨eb, hb2⟩ | ⟨eb, hb2⟩
      · have ex : x a m = 3 := ea
        have ey : y a b m = 2 := eb
        refine KC.of_exec (fr := frM bk za zb m a b (anD (anyI (V a b m) 0) ++ [Dec.l, f, t, t, Dec.l, f, Dec.l, t])) E53pok (o_32 za zb bk m a b (anyI (V a b m) 0)) (pcs_app h01 (pcs_app han (pcs_app (pcs_of ⟨by rw [ex]; rfl, by rw [ex]; rfl, by rw [ey]; rfl, by rw [ex]; rfl, trivial⟩) hoz))) (show 1 ≤ 6 by omega) z1 ?_
        rw [vy]
        exact fin
      · have ex : x a m = 3 := ea
        have ey : y a b m = 3 := eb
        refine KC.of_exec (fr := frM bk za zb m a b (anD (anyI (V a b m) 0) ++ [Dec.l, f, t, f, t, f, Dec.l, t])) E53pok (o_33 za zb bk m a b (anyI (V a b m) 0)) (pcs_app h01 (pcs_app han (pcs_app (pcs_of ⟨by rw [ex]; rfl, by rw [ex]; rfl, by rw [ey]; rfl, by rw [ey]; rfl, by rw [ex]; rfl, trivial⟩) hoz))) (show 1 ≤ 6 by omega) z1 ?_
        rw [vy]
        exact fin
  · exact CallC.of_call E53pok (g_no c p za zb bk) (pcs_of ⟨hr, by rw [eq_false_of_ne_true hk]; rfl, trivial⟩) rfl z1
theorem ps_ren (ρ : Nat → Nat) (p : Ps) : ren ρ p.v = p.v := rfl
theorem tv_ren (ρ : Nat → Nat) (za zb : Int) (bk : Bk) : ren ρ (.agg ⟨tv za zb bk⟩) = .agg ⟨[.int .i64 za, .int .i64 zb, ren ρ (bk.sv 0)]⟩ := rfl
theorem walk (c : Cfg) (p : Ps) (za zb : Int) (v : Value) (L : List Bool) (w : World) (hl : RowB w v L) :
    Calls Try.prog fid #[c.v, p.v, .agg ⟨[.int .i64 za, .int .i64 zb, v]⟩] w fun e w1 => e = .returned (.bool true) ∧ Below w.heap.size w w1 := by
  by_cases hr : c.Right
  · rcases hl with ⟨rfl, rfl⟩ | ⟨b, off, cap, rfl, hcell, hblk⟩
    · have hargs : VRL (fun k => k < 1) (fun _ => 0) (A c p za zb .nil) [c.v, p.v, .agg ⟨[.int .i64 za, .int .i64 zb, .slice none 0 0]⟩] := fun ρ' ha => by
        simp only [A, List.map_cons, List.map_nil, Cfg.ren_v, ps_ren, tv_ren]
        rfl
      exact calls_of_C (main c p za zb .nil hr) rfl none_isV hargs (HR_none _ 1)
    · have hargs : VRL (fun k => k < 1) (fun _ => b) (A c p za zb (.row off cap L)) [c.v, p.v, .agg ⟨[.int .i64 za, .int .i64 zb, .slice (some ⟨b, off, none⟩) L.length cap]⟩] := fun ρ' ha => by
        have e0 : ρ' 0 = b := ha 0 (by omega)
        simp only [A, List.map_cons, List.map_nil, Cfg.ren_v, ps_ren, tv_ren]
        simp [Bk.sv, ren, e0]
      exact calls_of_C (main c p za zb (.row off cap L) hr) rfl view_isV hargs (HR_bool (ρ := fun _ => b) rfl (sat_bools hcell hblk))
  · obtain ⟨bk, b, hv⟩ : ∃ (bk : Bk) (b : Nat), ∀ ρ' : Nat → Nat, ρ' 0 = b → ren ρ' (bk.sv 0) = v := by
      rcases hl with ⟨rfl, rfl⟩ | ⟨b, off, cap, rfl, _⟩
      · exact ⟨.nil, 0, fun _ _ => rfl⟩
      · exact ⟨.row off cap L, b, fun ρ' h => by simp [Bk.sv, ren, h]⟩
    have hargs : VRL (fun k => k < 1) (fun _ => b) (A c p za zb bk) [c.v, p.v, .agg ⟨[.int .i64 za, .int .i64 zb, v]⟩] := fun ρ' ha => by
      have e0 : ρ' 0 = b := ha 0 (by omega)
      simp only [A, List.map_cons, List.map_nil, Cfg.ren_v, ps_ren, tv_ren, hv ρ' e0]
    have hz : c.len = 0 := if_neg hr
    exact true_of_path E51pok (g_nr c p za zb bk) (pcs_of ⟨by omega, by omega, by omega, by rw [hz]; rfl, trivial⟩) none_isV hargs (HR_none _ 1)
end Go.Proofs.Ytmliekdbhefpkaa.JoinBothDone
