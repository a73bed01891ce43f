/- Two rows of words are held against one another. -/
import Derived.Test.YtocfhiafegkfkaaGreatCtCommon
import Derived.Test.YtocfhiafegkfkaaGreatEvAlias2
namespace Go.Proofs.YtocfhiafegkfkaaGreat.Ct
open Go Go.Proofs Go.Proofs.YtocfhiafegkfkaaGreat.Ev
open Go.RowKit

noncomputable abbrev saB (p : List Nat) : Code := bd Tryz.f33 p
abbrev u64T : TypeId := 22
def saBlk (la lb : List Int) (oa ob : Nat) : List (Nat × Blk) := [(0, .view oa (.ints .u64 la u64T)), (1, .view ob (.ints .u64 lb u64T))]
def saFr (la lb : List Int) (oa ob ca cb : Nat) (i : Int) (ds : List Dec) : Fr := mkFr 26 [(0, .slice (some ⟨0, oa, none⟩) la.length ca), (1, .slice (some ⟨1, ob, none⟩) lb.length cb), (5, .int .i64 i)] (saBlk la lb oa ob) 2 [] ds
def saEnd (la lb : List Int) (oa ob : Nat) (b : Bool) (ds : List Dec) : Fr := mkFr 26 [(4, .bool b)] (saBlk la lb oa ob) 2 [] ds
def jN (off i : Nat) : Nat := addN off (mulN i 1) - off
theorem jN_eq (off i : Nat) : jN off i = i := by unfold jN; rw [addN_eq, mulN_eq]; omega
open Dec in
section
variable (la lb : List Int) (oa ob ca cb : Nat) (i : Nat) (b : Bool) (ds' : List Dec)
theorem sa_ne : execR E7 5 .normal [.code (saB [])] [0, 1] [4] 2 ds' ⟨[.slice (some ⟨0, oa, none⟩) la.length ca, .slice (some ⟨1, ob, none⟩) lb.length cb] ++ List.replicate 24 undef, ⟨saBlk la lb oa ob, 2, []⟩, [t], []⟩ =
    some (.ret, [], saEnd la lb oa ob false ds', [((la.length : Int) != (lb.length : Int)) = true]) := by kernel_rfl
theorem sa_in : execR E7 5 .normal [.code (saB [])] [0, 1] [0, 1, 5] 2 ds' ⟨[.slice (some ⟨0, oa, none⟩) la.length ca, .slice (some ⟨1, ob, none⟩) lb.length cb] ++ List.replicate 24 undef, ⟨saBlk la lb oa ob, 2, []⟩, [f], []⟩ =
    some (.normal, [.code (.loop (saB [1,1,0,1,0,0])), .blk 0, .code (saB [1,1,1])], saFr la lb oa ob ca cb 0 ds', [((la.length : Int) != (lb.length : Int)) = false]) := by kernel_rfl
theorem sa_eq : run E7 5 (saB [1,1,0,1,0,0]) [0, 1] [0, 1, 5] 2 ds' (saFr la lb oa ob ca cb (i : Int) [t, f]) = some (.normal, saFr la lb oa ob ca cb (w64 ((i : Int) + 1)) ds',
    [decide ((i : Int) < (la.length : Int)) = true, 0 ≤ (i : Int), (i : Int) < (la.length : Int), oa ≤ addN oa (mulN i 1), jN oa i < la.length, 0 ≤ (i : Int), (i : Int) < (lb.length : Int), ob ≤ addN ob (mulN i 1), jN ob i < lb.length, (la.getD (jN oa i) 0 != lb.getD (jN ob i) 0) = false]) := by kernel_rfl
theorem sa_diff : run E7 5 (saB [1,1,0,1,0,0]) [0, 1] [4] 2 ds' (saFr la lb oa ob ca cb (i : Int) [t, t]) = some (.ret, saEnd la lb oa ob false ds',
    [decide ((i : Int) < (la.length : Int)) = true, 0 ≤ (i : Int), (i : Int) < (la.length : Int), oa ≤ addN oa (mulN i 1), jN oa i < la.length, 0 ≤ (i : Int), (i : Int) < (lb.length : Int), ob ≤ addN ob (mulN i 1), jN ob i < lb.length, (la.getD (jN oa i) 0 != lb.getD (jN ob i) 0) = true]) := by kernel_rfl
theorem sa_end : run E7 5 (saB [1,1,0,1,0,0]) [0, 1] [] 2 ds' (saFr la lb oa ob ca cb (i : Int) [f]) = some (.exit 0, mkFr 26 [] (saBlk la lb oa ob) 2 [] ds', [decide ((i : Int) < (la.length : Int)) = false]) := by kernel_rfl
theorem sa_out : execR E7 5 (.exit 0) [.blk 0, .code (saB [1,1,1])] [0, 1] [4] 2 ds' (mkFr 26 [] (saBlk la lb oa ob) 2 [] []) = some (.ret, [], saEnd la lb oa ob true ds', []) := by kernel_rfl
theorem sa_ret : execR E7 5 .ret [.blk 0, .code (saB [1,1,1])] [0, 1] [4] 2 ds' (saEnd la lb oa ob b []) = some (.ret, [], saEnd la lb oa ob b ds', []) := by kernel_rfl
end

open Dec in
theorem same_ref (la lb : List Int) (oa ob ca cb : Nat) (hmax : la.length ≤ 9223372036854775806) : CallC Tryz.prog 33 [.slice (some ⟨0, oa, none⟩) la.length ca, .slice (some ⟨1, ob, none⟩) lb.length cb] ⟨saBlk la lb oa ob, 2, []⟩ (.bool (la == lb)) ⟨saBlk la lb oa ob, 2, []⟩ := by
  have z2 : ∀ k, k < 2 → ([0, 1] : List Nat).getD k 0 = k := fun k hk => by
    match k, hk with
    | 0, _ => rfl
    | 1, _ => rfl
  have fin : ∀ b : Bool, (la == lb) = b → ∀ ds, Ev.Ends E7 Tryz.f33 2 (.bool (la == lb)) ⟨saBlk la lb oa ob, 2, []⟩ .ret (saEnd la lb oa ob b ds) := fun b hb ds => ⟨by simp, [.bool b], [], [0, 1], 2, by kernel_rfl, by simp, by rw [hb]; kernel_rfl, rfl, z2⟩
  by_cases hl : la.length = lb.length
  · refine CallC.of_body (E := E7) (ds := [f]) (fn := Tryz.f33) 24 (by kernel_rfl) (by kernel_rfl) (by kernel_rfl) (by kernel_rfl) ?_
    let dsf : Nat → List Dec := fun i => if i < la.length then (if la.getD i 0 = lb.getD i 0 then [t, f] else [t, t]) else [f]
    refine KC.of_exec E7ok (sa_in la lb oa ob ca cb (dsf 0)) (pcs_of ⟨by simp [hl], trivial⟩) (Nat.le_refl _) z2 ?_
    refine KC.loop (m0 := 2) (fun i : Nat => saFr la lb oa ob ca cb (i : Int) (dsf i)) (fun i => i ≤ la.length ∧ ∀ j, j < i → la.getD j 0 = lb.getD j 0) (fun i => la.length - i)
      (fun ex fr => (ex = .exit 0 ∧ fr = mkFr 26 [] (saBlk la lb oa ob) 2 [] [] ∧ (la == lb) = true) ∨ (ex = .ret ∧ fr = saEnd la lb oa ob false [] ∧ (la == lb) = false)) (fun i hi => ?_) ?_ 0 ⟨Nat.zero_le _, fun j hj => absurd hj (Nat.not_lt_zero j)⟩
    · obtain ⟨hle, hno⟩ := hi
      by_cases hlt : i < la.length
      · have p1 : decide ((i : Int) < (la.length : Int)) = true := decide_eq_true (by omega)
        have p2 : oa ≤ addN oa (mulN i 1) := by rw [addN_eq]; omega
        have p3 : ob ≤ addN ob (mulN i 1) := by rw [addN_eq]; omega
        have p4 : jN oa i < la.length := by rw [jN_eq]; exact hlt
        have p5 : jN ob i < lb.length := by rw [jN_eq]; omega
        by_cases he : la.getD i 0 = lb.getD i 0
        · have hds : dsf i = [t, f] := by simp only [dsf, if_pos hlt, if_pos he]
          simp only [hds]
          refine CodeC.of_run E7ok (sa_eq la lb oa ob ca cb i (dsf (i + 1))) (pcs_of ⟨p1, by omega, by omega, p2, p4, by omega, by omega, p3, p5, by rw [jN_eq, jN_eq, he]; exact bne_self_eq_false _, trivial⟩) (Nat.le_refl _) z2 (.inl ⟨rfl, i + 1, by rw [w64_in (by omega) (by omega)]; rfl, ⟨hlt, fun j hj => ?_⟩, by omega⟩)
          by_cases hji : j = i
          · rw [hji]; exact he
          · exact hno j (by omega)
        · have hds : dsf i = [t, t] := by simp only [dsf, if_pos hlt, if_neg he]
          simp only [hds]
          refine CodeC.of_run E7ok (sa_diff la lb oa ob ca cb i []) (pcs_of ⟨p1, by omega, by omega, p2, p4, by omega, by omega, p3, p5, by rw [jN_eq, jN_eq]; exact bne_iff_ne.2 he, trivial⟩) (Nat.le_refl _) z2 (.inr ⟨by simp, .inr ⟨rfl, rfl, ?_⟩⟩)
          rw [beq_eq_false_iff_ne]
          intro e
          exact he (by rw [e])
      · have hds : dsf i = [f] := by simp only [dsf, if_neg hlt]
        simp only [hds]
        refine CodeC.of_run E7ok (sa_end la lb oa ob ca cb i []) (pcs_of ⟨decide_eq_false (by omega), trivial⟩) (Nat.le_refl _) z2 (.inr ⟨by simp, .inl ⟨rfl, rfl, ?_⟩⟩)
        rw [beq_iff_eq]
        apply List.ext_getElem hl
        intro j h1 h2
        have := hno j (by omega)
        rw [List.getD_eq_getElem?_getD, List.getD_eq_getElem?_getD, List.getElem?_eq_getElem h1, List.getElem?_eq_getElem h2] at this
        exact this
    · rintro ex fr1 (⟨rfl, rfl, hc⟩ | ⟨rfl, rfl, hc⟩)
      · exact KC.of_exec E7ok (sa_out la lb oa ob []) (pcs_of trivial) (Nat.le_refl _) z2 (KC.done (fin true hc []))
      · exact KC.of_exec E7ok (sa_ret la lb oa ob false []) (pcs_of trivial) (Nat.le_refl _) z2 (KC.done (fin false hc []))
  · refine CallC.of_body (E := E7) (ds := [t]) (fn := Tryz.f33) 24 (by kernel_rfl) (by kernel_rfl) (by kernel_rfl) (by kernel_rfl) ?_
    have hc : (la == lb) = false := by
      rw [beq_eq_false_iff_ne]
      intro e
      exact hl (by rw [e])
    refine KC.of_exec E7ok (sa_ne la lb oa ob ca cb []) (pcs_of ⟨?_, trivial⟩) (Nat.le_refl _) z2 (KC.done (fin false hc []))
    rw [bne_iff_ne]
    omega
def gSame (args : List Value) (hp : Hp) : Option (Value × Hp × List Prop) :=
  match args with
  | [.slice (some ⟨na, oa, sa⟩) n1 _, .slice (some ⟨nb, ob, sb⟩) n2 _] => bif !(spOk sa oa && spOk sb ob) then none else match hp.get na, hp.get nb with
    | some ba, some bb => match rowI oa ba, rowI ob bb with
      | some (.u64, la, qa), some (.u64, lb, qb) => some (.bool (la.take n1 == lb.take n2), hp, [qa, qb, n1 ≤ la.length, n2 ≤ lb.length, n1 ≤ 9223372036854775806])
      | _, _ => none
    | _, _ => none
  | _ => none
theorem gSame_ok : ∀ args hp v hp' pc, gSame args hp = some (v, hp', pc) → ∀ ds, CallOk Tryz.prog 33 args hp ⟨v, hp', ds, pc⟩ := by
  intro args hp v hp' pc hg ds
  unfold gSame at hg
  split at hg
  · rename_i na oa sa n1 c1 nb ob sb n2 c2
    cases hsp : (spOk sa oa && spOk sb ob)
    · simp [hsp] at hg
    simp only [hsp, Bool.not_true, cond_false] at hg
    rw [Bool.and_eq_true] at hsp
    split at hg
    · rename_i ba bb hba hbb
      split at hg
      · rename_i la qa lb qb hra hrb
        simp only [Option.some.injEq, Prod.mk.injEq] at hg
        obtain ⟨rfl, rfl, rfl⟩ := hg
        refine reads_ok (enters (fn := Tryz.f33) (by kernel_rfl) (by kernel_rfl) rfl) rfl [na, nb] (fun hpc S ρ cargs hargs => ?_) ds
        have q1 : qa := hpc _ (by simp)
        have q2 : qb := hpc _ (by simp)
        have h1 : n1 ≤ la.length := hpc _ (by simp)
        have h2 : n2 ≤ lb.length := hpc _ (by simp)
        have h3 : n1 ≤ 9223372036854775806 := hpc _ (by simp)
        obtain ⟨u1, r1, rfl, hu1, hr1⟩ := hargs.cons
        obtain ⟨u2, r2, rfl, hu2, hr2⟩ := hr1.cons
        obtain rfl := hr2.nil
        obtain ⟨k1, rfl⟩ := slice_of hu1 hsp.1
        obtain ⟨k2, rfl⟩ := slice_of hu2 hsp.2
        have e1 : (la.take n1).length = n1 := by rw [List.length_take]; omega
        have e2 : (lb.take n2).length = n2 := by rw [List.length_take]; omega
        refine ⟨_, _, _, same_ref (la.take n1) (lb.take n2) oa ob k1 k2 (by omega), ?_, ?_, fun n b hb => ?_⟩
        · rw [e1, e2]
          rfl
        · intro k hk
          simp [nmL, nm] at hk
          show k < 2
          omega
        · simp only [saBlk, Hp.get, lookB] at hb
          cases h0 : Nat.beq 0 n
          · simp only [h0, cond_false] at hb
            cases h1' : Nat.beq 1 n
            · simp [h1'] at hb
            · simp only [h1', cond_true, Option.some.injEq] at hb
              have := beq_nat h1'
              subst this
              subst hb
              exact ⟨Nat.lt_succ_self _, rfl, bb, hbb, Blk.pres_row hrb, fun ρ' o hs ρ'' => rowI_view hrb q2 n2 hs ρ''⟩
          · simp only [h0, cond_true, Option.some.injEq] at hb
            have := beq_nat h0
            subst this
            subst hb
            exact ⟨Nat.zero_lt_succ _, rfl, ba, hba, Blk.pres_row hra, fun ρ' o hs ρ'' => rowI_view hra q1 n1 hs ρ''⟩
      · cases hg
    · cases hg
  · cases hg
noncomputable def E8 : Env := E7.add 33 gSame
theorem E8ok : EnvOk E8 := E7ok.add gSame_ok
end Go.Proofs.YtocfhiafegkfkaaGreat.Ct
