/- What 'GateStale' comes to, of any input: it returns true and changes nothing that was there. -/
import Derived.Test.YtmliekdbhefpkaaCtPackG
namespace Go.Proofs.Ytmliekdbhefpkaa.GateStaleDone
open Go Go.Proofs Go.Proofs.Ytmliekdbhefpkaa.Ev Go.Proofs.Ytmliekdbhefpkaa.Ct
open Go.RowKit

noncomputable abbrev fn : Func := Try.f12
abbrev fid : FuncId := 12
abbrev lp : List Nat := [1, 1, 1, 1, 1, 1, 0, 1, 0, 0]
noncomputable abbrev K : List Kt := [.blk 0, .code (bd fn [1, 1, 1, 1, 1, 1, 1])]
abbrev R8 : Rw := .row true [0, 1, 2, 3, 4, 5, 6, 7]
abbrev A (c : Cfg) (h : Int) (p : Ps) : List Value := [c.v, .int .u64 h, p.v]
abbrev e0 (h : Int) : En := ⟨tkS h, 0, h, R8, false, false, 0, 0⟩
def bl (p : Ps) (m : Mm) (h : Int) : List (Nat × Blk) := [(0, .cells p.cs 26), (1, .cells (m.cells 3) memT), (2, .cells (En.cells (.slice (some ⟨4, 0, some 5⟩) 8 0) (e0 h)) enT), (3, .ints .u64 m.w u64T), (4, .own (.ints .i64 [0, 1, 2, 3, 4, 5, 6, 7] intT) 5)]
def fr (c : Cfg) (p : Ps) (m : Mm) (h w x y : Int) (z : Bool) (i : Int) (ds : List Dec) : Fr := mkFr 122 [(5, .pointer (some ⟨0, 0, none⟩)), (7, .pointer (some ⟨1, 0, none⟩)), (9, .int .u64 w), (11, .int .i64 x), (12, .int .i64 y), (13, .bool z), (14, .pointer (some ⟨2, 0, none⟩)), (58, .int .i64 c.s), (59, .int .i64 i)] (bl p m h) 6 [] ds
def frM (p : Ps) (m : Mm) (h x y : Int) (z : Bool) (ds : List Dec) : Fr := mkFr 122 [(5, .pointer (some ⟨0, 0, none⟩)), (7, .pointer (some ⟨1, 0, none⟩)), (11, .int .i64 x), (12, .int .i64 y), (13, .bool z), (14, .pointer (some ⟨2, 0, none⟩))] (bl p m h) 6 [] ds
def frE (b : Bool) : Fr := mkFr 122 [(6, .bool b)] [] 0 [] []
abbrev lv : List Nat := [5, 7, 9, 11, 12, 13, 14, 58, 59]
abbrev T20 (g : Prop) : Prop := ([.int .i64 20] : List Value) = [.int .i64 (numOf [.int .i64 20])] ∧ numOf [.int .i64 20] ≤ 1000 ∧ g
abbrev T0 (e : En) : Prop := ([] : List Value) = [] ∧ Wd e.h
abbrev RE (h : Int) (m : Mm) : Nat × En × Mm := enRun 20 0 (e0 h) m
abbrev xS (h s : Int) : Int := if ofOk h s = true then tkS h else 0
abbrev xG (h s : Int) : Int := if ofOk h s = true then tkG h else 0
open Dec in
section
variable (c : Cfg) (p : Ps) (m : Mm) (h w x y : Int) (z : Bool) (i : Nat)
noncomputable abbrev start (ds : List Dec) : Fr := ⟨A c h p ++ List.replicate 119 undef, ⟨[], 0, []⟩, ds, []⟩
def q0 : List Prop := [c.Right, Wd h, (64 : Nat) ≤ 140737488355328, (8 : Nat) ≤ 9223372036854775807, Wd h]
theorem g_in : execR Egp 12 .normal [.code (bd fn [])] [1, 2, 8, 3, 6, 7] lv 0 [] (start c p h [Dec.l, Dec.l, Dec.l, Dec.l, f]) = some (.normal, .code (.loop (bd fn lp)) :: K, fr c p (nwM c) h (pkW p) (xS h c.s) (xG h c.s) (ofOk h c.s) 0 [], q0 c h ++ [(!pkOk p) = false]) := by kernel_rfl
theorem g_no : callR Egp 12 fid (A c h p) ⟨[], 0, []⟩ [Dec.l, Dec.l, Dec.l, Dec.l, t, Dec.l] [] = some (.bool true, ⟨[], 0, []⟩, q0 c h ++ [(!pkOk p) = true]) := by kernel_rfl
theorem g_nr : told (doCall Egq 20 fid (A c h p) ⟨[], 0, []⟩ ([t, Dec.l] ++ List.replicate 30 Dec.l)) = some (.bool true, [0 ≤ c.len, 8 * c.len ≤ 281474976710656, c.len ≤ 9223372036854775807, (c.len == 0) = true, Wd h, (64 : Nat) ≤ 140737488355328, (8 : Nat) ≤ 9223372036854775807, Wd h]) := by kernel_rfl
abbrev id6 : List Nat := [0, 1, 2, 3, 4, 5]
theorem b_t : run Egp 12 (bd fn lp) id6 lv 0 [] (fr c p m h w x y z (i : Int) [t]) = some (.normal, fr c p (mSt m 4 (i : Int) w) h w x y z (w64 ((i : Int) + 1)) [], [decide ((i : Int) < c.s) = true, m.ok]) := by kernel_rfl
theorem b_f : run Egp 12 (bd fn lp) id6 [5, 7, 11, 12, 13, 14] 0 [] (fr c p m h w x y z (i : Int) [f]) = some (.exit 0, frM p m h x y z [], [decide ((i : Int) < c.s) = false]) := by kernel_rfl
def rA : List Prop := [(8 : Nat) = 8, T20 (enGood (e0 h) m)]
def rB : List Prop := [(8 : Nat) = 8, T0 (RE h m).2.1, ((RE h m).2.1.dn || !ofOk (RE h m).2.1.h (RE h m).2.2.c.s) = true, (8 : Nat) = 8, T0 (RE h m).2.1]
abbrev er (h : Int) (m : Mm) : Int := errI (RE h m).2.1 (RE h m).2.2
theorem o_1 : execR Egp 12 (.exit 0) K [] [6] 0 [] (frM p m h x y z [t, Dec.l, Dec.l, t, t, Dec.l, Dec.l, t]) = some (.ret, [], frE true, rA m h ++ ((!z) = true) :: (rB m h ++ [((er h m == 2) == true) = true, (!z) = true])) := by kernel_rfl
theorem o_2 : execR Egp 12 (.exit 0) K [] [6] 0 [] (frM p m h x y z [f, t, Dec.l, t, t, Dec.l, Dec.l, f]) = some (.ret, [], frE ((RE h m).2.1.sl == x), rA m h ++ ((!z) = false) :: ((y != p.gen) = true) :: (rB m h ++ [((er h m == 2) == true) = true, (!z) = false])) := by kernel_rfl
theorem o_3 : execR Egp 12 (.exit 0) K [] [6] 0 [] (frM p m h x y z [f, f, Dec.l, t, t, t, Dec.l, f]) = some (.ret, [], frE ((RE h m).2.1.sl == x), rA m h ++ ((!z) = false) :: ((y != p.gen) = false) :: (rB m h ++ [((er h m == 2) == decide (p.st < 2)) = true, decide (p.st < 2) = true, (!z) = false])) := by kernel_rfl
theorem o_4 : execR Egp 12 (.exit 0) K [] [6] 0 [] (frM p m h x y z [f, f, Dec.l, t, t, f, t, f]) = some (.ret, [], frE ((RE h m).2.1.sl == x), rA m h ++ ((!z) = false) :: ((y != p.gen) = false) :: (rB m h ++ [((er h m == 2) == decide (p.st < 2)) = true, decide (p.st < 2) = false, (8 : Nat) = 8, T0 (RE h m).2.1, ((er h m == 3) == p.bz) = true, (!z) = false])) := by kernel_rfl
end
/-- A word's parts, of its packing. -/
theorem put_lo {x n : Int} (h : bitI x n = false) (b : Bool) : putI x n b = x + (if b then pw n else 0) := by
  unfold putI
  rw [h]
  cases b
  · simp
  · simp
theorem pk_sum {p : Ps} (h : PkR p) : pkI p = pkB p + (if p.op then 16777216 else 0) + (if p.ip then 33554432 else 0) + (if p.bz then 67108864 else 0) := by
  obtain ⟨a, b, c, d, e, f, g, i⟩ := h
  have h24 : bitI (pkB p) 24 = false := by
    show (pkB p / 16777216 % 2 == 1) = false
    rw [beq_eq_false_iff_ne]
    unfold pkB
    omega
  have p1 : putI (pkB p) 24 p.op = pkB p + (if p.op then 16777216 else 0) := put_lo h24 p.op
  have h25 : bitI (pkB p + (if p.op then 16777216 else 0)) 25 = false := by
    show ((pkB p + (if p.op then 16777216 else 0)) / 33554432 % 2 == 1) = false
    rw [beq_eq_false_iff_ne]
    unfold pkB
    split <;> omega
  have p2 : putI (pkB p + (if p.op then 16777216 else 0)) 25 p.ip = pkB p + (if p.op then 16777216 else 0) + (if p.ip then 33554432 else 0) := put_lo h25 p.ip
  have h26 : bitI (pkB p + (if p.op then 16777216 else 0) + (if p.ip then 33554432 else 0)) 26 = false := by
    show ((pkB p + (if p.op then 16777216 else 0) + (if p.ip then 33554432 else 0)) / 67108864 % 2 == 1) = false
    rw [beq_eq_false_iff_ne]
    unfold pkB
    split <;> split <;> omega
  have p3 : putI (pkB p + (if p.op then 16777216 else 0) + (if p.ip then 33554432 else 0)) 26 p.bz = pkB p + (if p.op then 16777216 else 0) + (if p.ip then 33554432 else 0) + (if p.bz then 67108864 else 0) := put_lo h26 p.bz
  unfold pkI
  rw [p1, p2, p3]
theorem pk_parts {p : Ps} (h : PkR p) : nuI (pkI p) 30 32 = p.gen ∧ nuI (pkI p) 27 3 = p.st ∧ bitI (pkI p) 26 = p.bz := by
  have e := pk_sum h
  obtain ⟨a, b, c, d, e', f, g, i⟩ := h
  refine ⟨?_, ?_, ?_⟩
  · show pkI p / 1073741824 % 4294967296 = p.gen
    rw [e]
    unfold pkB
    split <;> split <;> split <;> omega
  · show pkI p / 134217728 % 8 = p.st
    rw [e]
    unfold pkB
    split <;> split <;> split <;> omega
  · show (pkI p / 67108864 % 2 == 1) = p.bz
    rw [e]
    unfold pkB
    cases p.bz with
    | true =>
      rw [beq_iff_eq]
      simp only [if_true]
      split <;> split <;> omega
    | false =>
      rw [beq_eq_false_iff_ne]
      simp only [Bool.false_eq_true, if_false]
      split <;> split <;> omega
theorem in8 {st : Int} (h0 : 0 ≤ st) (h1 : st ≤ 7) : inB [0, 1, 2, 3, 4, 5, 6, 7] st = true := by
  obtain rfl | rfl | rfl | rfl | rfl | rfl | rfl | rfl : st = 0 ∨ st = 1 ∨ st = 2 ∨ st = 3 ∨ st = 4 ∨ st = 5 ∨ st = 6 ∨ st = 7 := by omega
  all_goals rfl
theorem flt_pk {p : Ps} (hp : PkR p) (h : Int) : fltI (pkI p) h R8.l = if (p.gen != tkG h) = true then 2 else if p.st < 2 then 2 else if p.bz = true then 3 else 0 := by
  obtain ⟨e1, e2, e3⟩ := pk_parts hp
  have e4 : inB R8.l p.st = true := in8 hp.s0 hp.s1
  unfold fltI
  rw [e1, e2, e3, e4]
  by_cases h1 : (p.gen != tkG h) = true
  · rw [if_pos h1, if_pos h1]
  · rw [if_neg h1, if_neg h1]
    by_cases h2 : p.st = 0
    · rw [if_pos (beq_iff_eq.2 h2), if_pos (by omega)]
    · rw [if_neg (fun x => h2 (beq_iff_eq.1 x))]
      by_cases h3 : p.st = 1
      · rw [if_pos (beq_iff_eq.2 h3), if_pos (by omega)]
      · have := hp.s0
        rw [if_neg (fun x => h3 (beq_iff_eq.1 x)), if_neg (show ¬ p.st < 2 by omega)]
        simp
structure SI (c : Cfg) (q : Int) (i : Nat) (m : Mm) : Prop where
  ok : m.ok
  cc : m.c = c
  wf : WfW m.w
  all : ∀ j : Nat, j < i → getW m.w (cellIx c 4 j) = q
theorem SI.start {c : Cfg} (hr : c.Right) (q : Int) : SI c q 0 (nwM c) :=
  ⟨nwM_ok hr, rfl, fun x hx => by
    have hx : x ∈ zW c := hx
    unfold zW at hx
    rw [List.eq_of_mem_replicate hx]
    decide, fun j hj => absurd hj (Nat.not_lt_zero _)⟩
theorem SI.step {c : Cfg} (hr : c.Right) {q : Int} (hq : Wd q) {i : Nat} (hi : (i : Int) < c.s) {m : Mm} (h : SI c q i m) : SI c q (i + 1) (mSt m 4 i q) := by
  obtain ⟨ho, rfl, hw, ha⟩ := h
  have hl : (m.w.length : Int) = m.c.len := ho.2
  obtain ⟨i0, i1⟩ := ix_slot_rng hr (k := 4) (n := (i : Int)) (.inl rfl) (by omega) hi
  refine ⟨acc_ok ho (setW_len _ _ _), rfl, hw.setW _ hq.1 hq.2, fun j hj => ?_⟩
  show getW (setW m.w (cellIx m.c 4 i) q) (cellIx m.c 4 j) = q
  by_cases e : j = i
  · subst e
    exact getW_set_same i0 (by omega)
  · have ej := ix_slot hr (k := 4) (n := (j : Int)) (.inl rfl) (by omega) (by omega)
    have ei := ix_slot hr (k := 4) (n := (i : Int)) (.inl rfl) (by omega) (by omega)
    rw [getW_set_ne (by omega)]
    exact ha j (by omega)
theorem z0' {ns : List Nat} : ∀ k, k < 0 → ns.getD k 0 = k := fun k h => absurd h (Nat.not_lt_zero k)
open Dec in
theorem main (c : Cfg) (h : Int) (p : Ps) (hr : c.Right) (hh : Wd h) : CallC Try.prog fid (A c h p) ⟨[], 0, []⟩ (.bool true) ⟨[], 0, []⟩ := by
  have hq0 : ∀ x ∈ q0 c h, x := pcs_of ⟨hr, hh, by decide, by decide, hh, trivial⟩
  by_cases hk : pkOk p = true
  · have hp := pkOk_iff.1 hk
    have hW : pkW p = pkI p := if_pos hk
    have hwd := (pk_rng hp).2.2
    refine CallC.of_body (E := Egp) (ds := []) (fn := fn) 119 (by kernel_rfl) (by kernel_rfl) (by kernel_rfl) (by kernel_rfl) ?_
    refine KC.of_exec (fr := start c p h [Dec.l, Dec.l, Dec.l, Dec.l, f]) Egpok (g_in c p h) (pcs_app hq0 (pcs_of ⟨by rw [hk]; rfl, trivial⟩)) (Nat.le_refl _) z0' ?_
    rw [hW]
    have hs : 0 ≤ c.s ∧ c.s ≤ 1000 := by
      have := hr
      unfold Cfg.Right at this
      omega
    refine KC.loop (m0 := 0) (ι := Nat × Mm) (fun x => fr c p x.2 h (pkI p) (xS h c.s) (xG h c.s) (ofOk h c.s) (x.1 : Int) []) (fun x => (x.1 : Int) ≤ c.s ∧ SI c (pkI p) x.1 x.2) (fun x => c.s.toNat - x.1)
      (fun ex fr => ex = .exit 0 ∧ ∃ m, SI c (pkI p) c.s.toNat m ∧ fr = frM p m h (xS h c.s) (xG h c.s) (ofOk h c.s) []) (fun x hx => ?_) ?_ (0, nwM c) ⟨hs.1, SI.start hr _⟩
    · obtain ⟨i, m⟩ := x
      obtain ⟨hi, hI⟩ := hx
      simp only at hi hI ⊢
      by_cases hlt : (i : Int) < c.s
      · exact CodeC.of_run (fr := fr c p m h (pkI p) (xS h c.s) (xG h c.s) (ofOk h c.s) (i : Int) [t]) Egpok (b_t c p m h (pkI p) (xS h c.s) (xG h c.s) (ofOk h c.s) i) (pcs_of ⟨decide_eq_true hlt, hI.ok, trivial⟩) (Nat.zero_le _) z0'
          (.inl ⟨rfl, (i + 1, mSt m 4 i (pkI p)), by rw [w64_succ i (by omega)], ⟨by simp only; omega, hI.step hr hwd hlt⟩, by simp only; omega⟩)
      · exact CodeC.of_run (fr := fr c p m h (pkI p) (xS h c.s) (xG h c.s) (ofOk h c.s) (i : Int) [f]) Egpok (b_f c p m h (pkI p) (xS h c.s) (xG h c.s) (ofOk h c.s) i) (pcs_of ⟨decide_eq_false hlt, trivial⟩) (Nat.zero_le _) z0'
          (.inr ⟨by simp, rfl, m, by rw [show c.s.toNat = i by omega]; exact hI, rfl⟩)
    rintro ex fr ⟨rfl, m, hI, rfl⟩
    have wz : Wd 0 := by constructor <;> decide
    have hg : enGood (e0 h) m := ⟨hI.ok, hI.wf, wz, hh, by show 8 ≤ 1000; decide⟩
    have hg2 := enRun_good 20 0 _ _ hg
    have T : ∀ {g : Prop}, g → T20 g := fun hg => ⟨rfl, by decide, hg⟩
    have hA : ∀ x ∈ rA m h, x := pcs_of ⟨rfl, T hg, trivial⟩
    have wdh : Wd (RE h m).2.1.h := hg2.2.2.2.1
    have hcc := hI.cc
    have em : ∀ (e : En), e.h = h → ofOk h c.s = true → errI e m = e.no := fun e he ho => by
      unfold errI
      rw [he, hcc, if_pos ho]
    by_cases hO : ofOk h c.s = true
    · have hsl : 0 ≤ tkS h ∧ tkS h < c.s := by
        unfold ofOk at hO
        simp only [Bool.and_eq_true, decide_eq_true_eq] at hO
        refine ⟨?_, hO.1.2⟩
        unfold tkS
        rw [if_pos hO.1.1]
        have := tkOk_iff.1 hO.1.1
        omega
      obtain ⟨i0, i1⟩ := ix_slot_rng hr (k := 4) (n := tkS h) (.inl rfl) hsl.1 hsl.2
      have hgw : getW m.w (cellIx m.c 4 (tkS h)) = pkI p := by
        have := hI.all (tkS h).toNat (by omega)
        rw [show (((tkS h).toNat : Nat) : Int) = tkS h by omega] at this
        rw [hcc]
        exact this
      have hO' : ofOk h m.c.s = true := by rw [hcc]; exact hO
      have hF := flt_pk hp h
      have hsx : xS h c.s = tkS h := if_pos hO
      have hgx : xG h c.s = tkG h := if_pos hO
      -- what the run tells
      have run : (RE h m).2.1.dn = true ∧ (RE h m).2.1.sl = tkS h ∧ (RE h m).2.1.h = h ∧ (RE h m).2.2.c = c ∧ (RE h m).2.1.no = fltI (pkI p) h R8.l := by
        by_cases hz : fltI (pkI p) h R8.l = 0
        · have e : RE h m = _ := en_alone_yes (r := R8) (n := 18) (i := 0) hO' (by rw [hcc]; exact i0) (by rw [hgw]; exact hz)
          rw [e]
          exact ⟨rfl, rfl, rfl, hcc, hz.symm⟩
        · have e : RE h m = _ := en_alone_no (r := R8) (n := 19) (i := 0) hO' (by rw [hgw]; exact hz)
          rw [e]
          exact ⟨rfl, rfl, rfl, hcc, by show fltI (getW m.w (cellIx m.c 4 (tkS h))) h R8.l = _; rw [hgw]⟩
      obtain ⟨r1, r2, r3, r4, r5⟩ := run
      have her : er h m = fltI (pkI p) h R8.l := by
        unfold er errI
        rw [r3, r4, if_pos hO, r5]
      rw [hF] at her
      have hB : ∀ x ∈ rB m h, x := pcs_of ⟨rfl, ⟨rfl, wdh⟩, by rw [r1]; rfl, rfl, ⟨rfl, wdh⟩, trivial⟩
      have hv : ((RE h m).2.1.sl == xS h c.s) = true := by rw [r2, hsx]; exact beq_self_eq_true _
      have nz : (!ofOk h c.s) = false := by rw [hO]; rfl
      by_cases h1 : (p.gen != tkG h) = true
      · have h1' : (xG h c.s != p.gen) = true := by
          rw [hgx, bne_iff_ne]
          exact fun x => (bne_iff_ne.1 h1) x.symm
        rw [if_pos h1] at her
        refine KC.of_exec (fr := frM p m h (xS h c.s) (xG h c.s) (ofOk h c.s) [f, t, Dec.l, t, t, Dec.l, Dec.l, f]) Egpok (o_2 p m h (xS h c.s) (xG h c.s) (ofOk h c.s)) (pcs_app hA (List.forall_mem_cons.2 ⟨nz, List.forall_mem_cons.2 ⟨h1', pcs_app hB (pcs_of ⟨by rw [her]; rfl, nz, trivial⟩)⟩⟩)) (Nat.zero_le _) z0' ?_
        rw [hv]
        exact KC.done ⟨by simp, [.bool true], [], [], 0, by kernel_rfl, by simp, by kernel_rfl, rfl, z0'⟩
      · have h1' : (xG h c.s != p.gen) = false := by
          have : p.gen = tkG h := by simpa using h1
          rw [hgx, this]
          exact bne_self_eq_false _
        rw [if_neg h1] at her
        by_cases h2 : p.st < 2
        · rw [if_pos h2] at her
          refine KC.of_exec (fr := frM p m h (xS h c.s) (xG h c.s) (ofOk h c.s) [f, f, Dec.l, t, t, t, Dec.l, f]) Egpok (o_3 p m h (xS h c.s) (xG h c.s) (ofOk h c.s)) (pcs_app hA (List.forall_mem_cons.2 ⟨nz, List.forall_mem_cons.2 ⟨h1', pcs_app hB (pcs_of ⟨by rw [her, decide_eq_true h2]; rfl, decide_eq_true h2, nz, trivial⟩)⟩⟩)) (Nat.zero_le _) z0' ?_
          rw [hv]
          exact KC.done ⟨by simp, [.bool true], [], [], 0, by kernel_rfl, by simp, by kernel_rfl, rfl, z0'⟩
        · rw [if_neg h2] at her
          have hb : ((er h m == 3) == p.bz) = true := by
            rw [her]
            cases p.bz <;> rfl
          have hb2 : ((er h m == 2) == decide (p.st < 2)) = true := by
            rw [her, decide_eq_false h2]
            cases p.bz <;> rfl
          refine KC.of_exec (fr := frM p m h (xS h c.s) (xG h c.s) (ofOk h c.s) [f, f, Dec.l, t, t, f, t, f]) Egpok (o_4 p m h (xS h c.s) (xG h c.s) (ofOk h c.s)) (pcs_app hA (List.forall_mem_cons.2 ⟨nz, List.forall_mem_cons.2 ⟨h1', pcs_app hB (pcs_of ⟨hb2, decide_eq_false h2, rfl, ⟨rfl, wdh⟩, hb, nz, trivial⟩)⟩⟩)) (Nat.zero_le _) z0' ?_
          rw [hv]
          exact KC.done ⟨by simp, [.bool true], [], [], 0, by kernel_rfl, by simp, by kernel_rfl, rfl, z0'⟩
    · have hO := eq_false_of_ne_true hO
      have e : RE h m = (0, e0 h, m) := en_none (j := e0 h) (m := m) (by rw [hcc]; exact hO) 20 0
      have nz : (!ofOk h c.s) = true := by rw [hO]; rfl
      have her : er h m = 2 := by
        unfold er errI
        rw [e]
        show (if ofOk h m.c.s = true then (0 : Int) else 2) = 2
        rw [hcc, hO]
        rfl
      have hdn : ((RE h m).2.1.dn || !ofOk (RE h m).2.1.h (RE h m).2.2.c.s) = true := by
        rw [e]
        show (false || !ofOk h m.c.s) = true
        rw [hcc, hO]
        rfl
      have hB : ∀ x ∈ rB m h, x := pcs_of ⟨rfl, ⟨rfl, wdh⟩, hdn, rfl, ⟨rfl, wdh⟩, trivial⟩
      refine KC.of_exec (fr := frM p m h (xS h c.s) (xG h c.s) (ofOk h c.s) [t, Dec.l, Dec.l, t, t, Dec.l, Dec.l, t]) Egpok (o_1 p m h (xS h c.s) (xG h c.s) (ofOk h c.s)) (pcs_app hA (List.forall_mem_cons.2 ⟨nz, pcs_app hB (pcs_of ⟨by rw [her]; rfl, nz, trivial⟩)⟩)) (Nat.zero_le _) z0' ?_
      exact KC.done ⟨by simp, [.bool true], [], [], 0, by kernel_rfl, by simp, by kernel_rfl, rfl, z0'⟩
  · exact CallC.of_call Egpok (g_no c p h) (pcs_app hq0 (pcs_of ⟨by rw [eq_false_of_ne_true hk]; rfl, trivial⟩)) rfl z0'
theorem ps_ren (ρ : Nat → Nat) (p : Ps) : ren ρ p.v = p.v := rfl
theorem walk (c : Cfg) (h : Int) (p : Ps) (w : World) (hw : (Lit.int .u64 h).wf = true) :
    Calls Try.prog fid #[c.v, .int .u64 h, p.v] w fun e w1 => e = .returned (.bool true) ∧ Below w.heap.size w w1 := by
  have hh := bounds_u64 hw
  by_cases hr : c.Right
  · exact calls_of_C (main c h p hr hh) rfl none_isV (ρ := id) (fun ρ' _ => by simp [A, ps_ren, Cfg.ren_v, ren]) (HR_none _ 0)
  · have hz : c.len = 0 := if_neg hr
    exact true_nums Egqok (g_nr c p h) (pcs_of ⟨by omega, by omega, by omega, by rw [hz]; rfl, hh, by decide, by decide, hh, trivial⟩) (fun ρ => by simp [A, ps_ren, Cfg.ren_v, ren])
end Go.Proofs.Ytmliekdbhefpkaa.GateStaleDone
