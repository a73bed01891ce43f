/- What is due ahead of a step is done to the program's words, and to the document's. -/
import Derived.Test.YtocfhiafegkfkaaGreatCtAlive2
namespace Go.Proofs.YtocfhiafegkfkaaGreat.Ct
open Go Go.Proofs Go.Proofs.YtocfhiafegkfkaaGreat.Ev
open Go.RowKit

/-- A memory as the document has it. -/
def Mm.doc (m : Mm) : Mm := ⟨m.c, m.N, 0, m.t, m.n, m.w⟩
abbrev pkT : TypeId := 120
abbrev pkK : List IntKind := [.i64, .i64, .i64, .u64]
abbrev rmT : TypeId := 51
def pl4 (of2 i : Nat) : Nat := addN of2 (mulN i 4) - of2
theorem pl4_eq (of2 i : Nat) : pl4 of2 i = i * 4 := by
  unfold pl4
  rw [addN_eq, mulN_eq]
  omega
def fldR (rows : List (List Int)) : Nat → List (List Int)
  | 0 => rows
  | q + 1 => (fldR rows q).map List.tail
def pv (rows : List (List Int)) (of2 i q : Nat) : Int := ((fldR rows q).getD (pl4 of2 i / 4) []).getD 0 0
/-- What the pokes from one of them on make of a memory. -/
def pokeFrom (rows : List (List Int)) (of2 : Nat) (step : Int) : Nat → Nat → Mm → Mm
  | 0, _, m => m
  | k + 1, i, m => pokeFrom rows of2 step k (i + 1) (if pv rows of2 i 0 = step then mSt m (pv rows of2 i 1) (pv rows of2 i 2) (pv rows of2 i 3) else m)
def poke (rows : List (List Int)) (of2 : Nat) (step : Int) (m : Mm) : Mm := pokeFrom rows of2 step rows.length 0 m
theorem pokeFrom_ok (rows : List (List Int)) (of2 : Nat) (step : Int) : ∀ (k i : Nat) (m : Mm), m.ok → (pokeFrom rows of2 step k i m).ok ∧ (pokeFrom rows of2 step k i m).c = m.c ∧ (pokeFrom rows of2 step k i m).N = m.N
  | 0, _, _, h => ⟨h, rfl, rfl⟩
  | k + 1, i, m, h => by
    unfold pokeFrom
    split
    · obtain ⟨h1, h2, h3⟩ := pokeFrom_ok rows of2 step k (i + 1) (mSt m (pv rows of2 i 1) (pv rows of2 i 2) (pv rows of2 i 3)) (acc_ok h (setW_len _ _ _))
      exact ⟨h1, h2, h3⟩
    · exact pokeFrom_ok rows of2 step k (i + 1) m h
theorem poke_ok {m : Mm} (h : m.ok) (rows : List (List Int)) (of2 : Nat) (step : Int) : (poke rows of2 step m).ok ∧ (poke rows of2 step m).c = m.c ∧ (poke rows of2 step m).N = m.N := pokeFrom_ok rows of2 step _ _ m h

noncomputable abbrev pkF : Func := Tryz.f36
abbrev pkId : FuncId := 36
def pkHp (w0 : List Int) (m : Mm) (rows : List (List Int)) (of2 : Nat) : Hp := ⟨[(0, .cells (m.cells 1) memT), (1, .ints .u64 m.w u64T), (2, .view 0 (.ints .u64 w0 u64T)), (4, .view of2 (.recs pkK rows pkT))], 5, []⟩
def pkOut (w0 : List Int) (m : Mm) (rows : List (List Int)) (of2 : Nat) : Hp := ⟨[(0, .cells (m.cells 1) memT), (1, .ints .u64 m.w u64T), (2, .view 0 (.ints .u64 w0 u64T)), (4, .view of2 (.recs pkK rows pkT)), (5, .view 0 (.ints .u64 m.w u64T))], 7, []⟩
def pkArgs (m : Mm) (rows : List (List Int)) (of2 cap : Nat) (step : Int) : List Value := [pt0, .agg ⟨m.rcells 2 3⟩, .slice (some ⟨4, of2, none⟩) rows.length cap, .int .i64 step]
def zc : List Value := [.int .i64 0, .int .i64 0, .int .i64 0, .int .i64 0, .int .u64 0, .slice none 0 0, .int .i64 0, .int .i64 0, .int .i64 0, .int .i64 0, .int .u64 0, .int .u64 0, .bool false]
def pkLv (step : Int) (rows : List (List Int)) (of2 cap a b : Nat) (i : Int) : List (Nat × Value) := [(0, pt0), (3, .int .i64 step), (5, .pointer (some ⟨a, 0, none⟩)), (8, .pointer (some ⟨b, 0, none⟩)), (11, .slice (some ⟨4, of2, none⟩) rows.length cap), (12, .int .i64 rows.length), (13, .int .i64 i)]
/-- In the loop: the document's memory stands in block 7. -/
def pkFr (w0 : List Int) (m : Mm) (rows : List (List Int)) (of2 cap : Nat) (step : Int) (i : Int) (ds : List Dec) : Fr := mkFr 40 (pkLv step rows of2 cap 7 8 i)
  [(0, .cells (m.cells 1) memT), (1, .ints .u64 m.w u64T), (2, .view 0 (.ints .u64 w0 u64T)), (4, .view of2 (.recs pkK rows pkT)), (5, .view 0 (.ints .u64 m.w u64T)), (7, .cells (m.rcells 5 6) rmT), (8, .cells zc rmT)] 9 [0, 1] ds
/-- Ahead of it. -/
def pkG (m : Mm) (rows : List (List Int)) (of2 cap : Nat) (step : Int) : Fr := mkFr 40 (pkLv step rows of2 cap 5 6 0)
  [(0, .cells (m.cells 1) memT), (1, .ints .u64 m.w u64T), (2, .view 0 (.ints .u64 m.w u64T)), (4, .view of2 (.recs pkK rows pkT)), (5, .cells (m.rcells 2 3) rmT), (6, .cells zc rmT)] 7 [] []
def pkE (w0 : List Int) (m : Mm) (rows : List (List Int)) (of2 : Nat) : Fr := mkFr 40 [(8, .pointer (some ⟨7, 0, none⟩))]
  [(0, .cells (m.cells 1) memT), (1, .ints .u64 m.w u64T), (2, .view 0 (.ints .u64 w0 u64T)), (4, .view of2 (.recs pkK rows pkT)), (5, .view 0 (.ints .u64 m.w u64T)), (7, .cells (m.rcells 5 6) rmT)] 8 [0, 1] []
def pkX (w0 : List Int) (m : Mm) (rows : List (List Int)) (of2 : Nat) : Fr := mkFr 40 [(5, .pointer (some ⟨7, 0, none⟩)), (8, .pointer (some ⟨8, 0, none⟩))]
  [(0, .cells (m.cells 1) memT), (1, .ints .u64 m.w u64T), (2, .view 0 (.ints .u64 w0 u64T)), (4, .view of2 (.recs pkK rows pkT)), (5, .view 0 (.ints .u64 m.w u64T)), (7, .cells (m.rcells 5 6) rmT), (8, .cells zc rmT)] 9 [0, 1] []
abbrev pkL : List Nat := [1, 0, 1, 0, 0]
def pkPre (rows : List (List Int)) (of2 i : Nat) : List Prop := [decide ((i : Int) < (rows.length : Int)) = true, 0 ≤ (i : Int), (i : Int) < (rows.length : Int), of2 ≤ addN of2 (mulN i 4), pl4 of2 i % 4 = 0, pl4 of2 i / 4 < rows.length]
theorem pkPre_ok {rows : List (List Int)} {of2 i : Nat} (h : i < rows.length) : ∀ p ∈ pkPre rows of2 i, p :=
  pcs_of ⟨decide_eq_true (by omega), by omega, by omega, by rw [addN_eq]; omega, by rw [pl4_eq]; omega, by rw [pl4_eq]; omega, trivial⟩
abbrev pkSt (m : Mm) (rows : List (List Int)) (of2 i : Nat) : Mm := mSt m (pv rows of2 i 1) (pv rows of2 i 2) (pv rows of2 i 3)
open Dec in
section
variable (m : Mm) (w0 : List Int) (rows : List (List Int)) (of2 cap : Nat) (step : Int) (i : Nat)
theorem pk_in : execR E14 8 .normal [.code (bd pkF [])] [0, 1, 2, 3, 4, 5, 6] [0, 3, 5, 8, 11, 12, 13] 5 [] ⟨pkArgs m rows of2 cap step ++ List.replicate 36 undef, pkHp m.w m rows of2, [], []⟩ =
    some (.normal, [.code (.loop (bd pkF pkL)), .blk 0, .code (bd pkF [1, 1])], pkG m rows of2 cap step, []) := by kernel_rfl
theorem pk_t : run E14 8 (bd pkF pkL) [0, 1, 2, 3, 4, 10, 11, 7, 8] [0, 3, 5, 8, 11, 12, 13] 5 [] (pkFr w0 m rows of2 cap step (i : Int) [t, t]) = some (.normal, pkFr w0 (pkSt m rows of2 i) rows of2 cap step (w64 ((i : Int) + 1)) [],
    pkPre rows of2 i ++ [(pv rows of2 i 0 == step) = true, m.ok, m.doc.ok ∧ m.c.Right]) := by kernel_rfl
theorem pk_f : run E14 8 (bd pkF pkL) [0, 1, 2, 3, 4, 5, 6, 7, 8] [0, 3, 5, 8, 11, 12, 13] 5 [] (pkFr w0 m rows of2 cap step (i : Int) [t, f]) = some (.normal, pkFr w0 m rows of2 cap step (w64 ((i : Int) + 1)) [],
    pkPre rows of2 i ++ [(pv rows of2 i 0 == step) = false]) := by kernel_rfl
theorem pk_end : run E14 8 (bd pkF pkL) [0, 1, 2, 3, 4, 5, 6, 7, 8] [5, 8] 5 [] (pkFr w0 m rows of2 cap step (i : Int) [f]) = some (.exit 0, pkX w0 m rows of2, [decide ((i : Int) < (rows.length : Int)) = false]) := by kernel_rfl
theorem pk_out : execR E14 8 (.exit 0) [.blk 0, .code (bd pkF [1, 1])] [0, 1, 2, 3, 4, 5, 6, 8] [8] 5 [] (pkX w0 m rows of2) = some (.ret, [], pkE w0 m rows of2, []) := by kernel_rfl
end
theorem z5 {tl : List Nat} : ∀ k, k < 5 → (0 :: 1 :: 2 :: 3 :: 4 :: tl : List Nat).getD k 0 = k := fun k hk => by
  match k, hk with
  | 0, _ => rfl
  | 1, _ => rfl
  | 2, _ => rfl
  | 3, _ => rfl
  | 4, _ => rfl
open Dec in
theorem pk_C {m : Mm} (hok : m.ok) (hr : m.c.Right) (rows : List (List Int)) (of2 cap : Nat) (step : Int) (hl : rows.length ≤ 1000) :
    CallC Tryz.prog pkId (pkArgs m rows of2 cap step) (pkHp m.w m rows of2) (.agg ⟨(poke rows of2 step m).rcells 5 6⟩) (pkOut m.w (poke rows of2 step m) rows of2) := by
  generalize hw0 : m.w = w0
  refine CallC.of_body (E := E14) (ds := []) (fn := pkF) 36 (by kernel_rfl) (by kernel_rfl) (by kernel_rfl) (by kernel_rfl) ?_
  have hin := pk_in m rows of2 cap step
  rw [hw0] at hin
  refine KC.of_exec E14ok hin (pcs_of trivial) (Nat.le_refl _) z5 ?_
  refine KC.alias (F := pkFr w0 m rows of2 cap step ((0 : Nat) : Int) []) [0, 1, 2, 3, 4, 2, 3, 5, 6] ?_ (by kernel_rfl) (by kernel_rfl) (by kernel_rfl) (by rw [← hw0]; exact ⟨rfl, rfl, rfl, rfl, rfl, rfl, rfl, trivial⟩) (by kernel_rfl) z5
  refine KC.loop (m0 := 5) (ι := Nat × Mm) (fun x => pkFr w0 x.2 rows of2 cap step (x.1 : Int) []) (fun x => x.1 ≤ rows.length ∧ x.2.ok ∧ x.2.c.Right ∧ pokeFrom rows of2 step (rows.length - x.1) x.1 x.2 = poke rows of2 step m) (fun x => rows.length - x.1)
    (fun ex fr => ex = .exit 0 ∧ fr = pkX w0 (poke rows of2 step m) rows of2) (fun x hx => ?_) ?_ (0, m) ⟨Nat.zero_le _, hok, hr, rfl⟩
  · obtain ⟨i, m1⟩ := x
    obtain ⟨hi, ho, hc, he⟩ := hx
    simp only at hi ho hc he ⊢
    by_cases hlt : i < rows.length
    · have hp := pkPre_ok (of2 := of2) hlt
      obtain ⟨k, hk⟩ : ∃ k, rows.length - i = k + 1 := ⟨rows.length - i - 1, by omega⟩
      rw [hk] at he
      unfold pokeFrom at he
      by_cases hs : pv rows of2 i 0 = step
      · rw [if_pos hs] at he
        have ho' : (pkSt m1 rows of2 i).ok := acc_ok ho (setW_len _ _ _)
        have hd : m1.doc.ok := ho
        exact CodeC.of_run (fr := pkFr w0 m1 rows of2 cap step (i : Int) [t, t]) E14ok (pk_t m1 w0 rows of2 cap step i) (pcs_app hp (pcs_of ⟨beq_iff_eq.2 hs, ho, ⟨hd, hc⟩, trivial⟩)) (show 5 ≤ 9 by omega) z5 (.inl ⟨rfl, (i + 1, pkSt m1 rows of2 i), by rw [w64_succ i (by omega)], ⟨hlt, ho', hc, by rw [show rows.length - (i + 1) = k by omega]; exact he⟩, by simp only; omega⟩)
      · rw [if_neg hs] at he
        exact CodeC.of_run (fr := pkFr w0 m1 rows of2 cap step (i : Int) [t, f]) E14ok (pk_f m1 w0 rows of2 cap step i) (pcs_app hp (pcs_of ⟨beq_eq_false_iff_ne.2 hs, trivial⟩)) (show 5 ≤ 9 by omega) z5 (.inl ⟨rfl, (i + 1, m1), by rw [w64_succ i (by omega)], ⟨hlt, ho, hc, by rw [show rows.length - (i + 1) = k by omega]; exact he⟩, by simp only; omega⟩)
    · have e : rows.length - i = 0 := by omega
      rw [e] at he
      have he' : m1 = poke rows of2 step m := he
      rw [← he']
      exact CodeC.of_run (fr := pkFr w0 m1 rows of2 cap step (i : Int) [f]) E14ok (pk_end m1 w0 rows of2 cap step i) (pcs_of ⟨decide_eq_false (by omega), trivial⟩) (show 5 ≤ 9 by omega) z5 (.inr ⟨by simp, rfl, rfl⟩)
  rintro ex fr ⟨rfl, rfl⟩
  refine KC.of_exec E14ok (pk_out _ w0 rows of2) (pcs_of trivial) (show 5 ≤ 9 by omega) z5 (KC.done ⟨by simp, [.agg ⟨(poke rows of2 step m).rcells 5 6⟩], [], [0, 1, 2, 3, 4, 5, 6], 0, by kernel_rfl, by simp, by kernel_rfl, rfl, z5⟩)
def gPk (args : List Value) (hp : Hp) : Option (Value × Hp × List Prop) :=
  match args with
  | [.pointer (some ⟨k, 0, none⟩), r, .slice (some ⟨pn, of2, none⟩) np _, .int .i64 step] => match memOf hp k, refOf hp r, hp.get pn with
    | some (wn, m), some (rn, cn, q), some (.view o (.recs [.i64, .i64, .i64, .u64] rows ty)) => bif Nat.beq ty pkT && nodupB [k, wn, rn, cn, pn] then
        some (rV (poke rows of2 step m) hp.next (hp.next + 1), ⟨(k, .cells ((poke rows of2 step m).cells wn) memT) :: (wn, .ints .u64 (poke rows of2 step m).w u64T) :: (hp.next, .view 0 (.ints .u64 (poke rows of2 step m).w u64T)) :: delB [k, wn, hp.next] hp.blks, hp.next + 2, k :: wn :: hp.log⟩, [m.ok ∧ m.c.Right ∧ q = m.doc ∧ np = rows.length ∧ of2 = o ∧ rows.length ≤ 1000])
      else none
    | _, _, _ => none
  | _ => none
theorem gPk_ok : ∀ args hp v hp' pc, gPk args hp = some (v, hp', pc) → ∀ ds, CallOk Tryz.prog pkId args hp ⟨v, hp', ds, pc⟩ := by
  intro args hp v hp' pc hg ds
  unfold gPk at hg
  split at hg
  · rename_i k r pn of2 np cap step
    split at hg
    · rename_i wn m rn cn q o rows ty hm hq hb
      cases hty : (Nat.beq ty pkT && nodupB [k, wn, rn, cn, pn])
      · simp [hty] at hg
      simp only [hty, cond_true, Option.some.injEq, Prod.mk.injEq] at hg
      rw [Bool.and_eq_true] at hty
      obtain ⟨hty, hnd⟩ := hty
      have e2 := beq_nat hty
      subst e2
      obtain ⟨rfl, rfl, rfl⟩ := hg
      obtain ⟨h1, h2, h3⟩ := memOf_some hm
      obtain ⟨rfl, h4, h5⟩ := refOf_some hq
      have hent : Enters Tryz.prog pkId := enters (fn := pkF) (by kernel_rfl) (by kernel_rfl) rfl
      by_cases hc : m.ok ∧ m.c.Right ∧ q = m.doc ∧ np = rows.length ∧ of2 = o ∧ rows.length ≤ 1000
      · obtain ⟨c1, c2, rfl, rfl, rfl, c6⟩ := id hc
        exact CallC.lift hent (pc := [m.ok ∧ m.c.Right ∧ m.doc = m.doc ∧ rows.length = rows.length ∧ of2 = of2 ∧ rows.length ≤ 1000]) (fun _ => pk_C c1 c2 rows of2 cap step c6) [k, wn, rn, cn, pn] [0, 1, 5] (by show 5 ≤ 7; omega) rfl (by simp [tellers, nmL, nm, nmA, pkHp, pkArgs, tellers.tellB, allLt, Blk.nm, Mm.cells, Mm.rcells, Cfg.cells, Tc.cells, Nat.blt]) (by simp [tellers, nmL, nm, nmA, pkHp, pkArgs, tellers.tellB, allHas, has, upTo, Blk.nm, Mm.cells, Mm.rcells, Cfg.cells, Tc.cells, Nat.beq]) hnd rfl
          ⟨.inl (by simp), .inl (by simp), .inr rfl, .inr rfl, trivial⟩ (hp := hp) (args := [.pointer (some ⟨k, 0, none⟩), .agg ⟨m.doc.rcells rn cn⟩, .slice (some ⟨pn, of2, none⟩) rows.length cap, .int .i64 step]) rfl ⟨h1, h2, h4, hb, trivial⟩ ds
      · refine ⟨⟨by show hp.next ≤ hp.next + 2; omega, fun m _ hm => List.mem_cons_of_mem _ (List.mem_cons_of_mem _ hm), fun n hn hl => ?_⟩, hent, fun hpc => absurd (hd1 hpc) hc⟩
        show lookB n _ = lookB n _
        have hk : n ≠ k := fun e => hl (e ▸ List.mem_cons_self)
        have hw : n ≠ wn := fun e => hl (e ▸ List.mem_cons_of_mem _ List.mem_cons_self)
        have n1 : Nat.beq hp.next n = false := by
          cases e : Nat.beq hp.next n
          · rfl
          · have := beq_nat e; omega
        have n2 : Nat.beq k n = false := by
          cases e : Nat.beq k n
          · rfl
          · exact absurd (beq_nat e).symm hk
        have n3 : Nat.beq wn n = false := by
          cases e : Nat.beq wn n
          · rfl
          · exact absurd (beq_nat e).symm hw
        simp only [lookB, n1, n2, n3, cond_false, lookB_del, has]
        rfl
    · cases hg
  · cases hg
/-! Where nothing is due -/
def pnHp (m : Mm) : Hp := ⟨[(0, .cells (m.cells 1) memT), (1, .ints .u64 m.w u64T), (2, .view 0 (.ints .u64 m.w u64T))], 4, []⟩
def pnOut (m : Mm) : Hp := ⟨[(0, .cells (m.cells 1) memT), (1, .ints .u64 m.w u64T), (2, .view 0 (.ints .u64 m.w u64T)), (4, .view 0 (.ints .u64 m.w u64T))], 6, []⟩
def pnArgs (m : Mm) (step : Int) : List Value := [pt0, .agg ⟨m.rcells 2 3⟩, .slice none 0 0, .int .i64 step]
def pnLv (a b : Nat) : List (Nat × Value) := [(5, .pointer (some ⟨a, 0, none⟩)), (8, .pointer (some ⟨b, 0, none⟩)), (12, .int .i64 0), (13, .int .i64 0)]
def pnFr (m : Mm) (ds : List Dec) : Fr := mkFr 40 (pnLv 6 7) [(0, .cells (m.cells 1) memT), (1, .ints .u64 m.w u64T), (2, .view 0 (.ints .u64 m.w u64T)), (4, .view 0 (.ints .u64 m.w u64T)), (6, .cells (m.rcells 4 5) rmT), (7, .cells zc rmT)] 8 [] ds
def pnG (m : Mm) : Fr := mkFr 40 (pnLv 4 5) [(0, .cells (m.cells 1) memT), (1, .ints .u64 m.w u64T), (2, .view 0 (.ints .u64 m.w u64T)), (4, .cells (m.rcells 2 3) rmT), (5, .cells zc rmT)] 6 [] []
def pnX (m : Mm) : Fr := mkFr 40 [(5, .pointer (some ⟨6, 0, none⟩)), (8, .pointer (some ⟨7, 0, none⟩))] [(0, .cells (m.cells 1) memT), (1, .ints .u64 m.w u64T), (2, .view 0 (.ints .u64 m.w u64T)), (4, .view 0 (.ints .u64 m.w u64T)), (6, .cells (m.rcells 4 5) rmT), (7, .cells zc rmT)] 8 [] []
def pnE (m : Mm) : Fr := mkFr 40 [(8, .pointer (some ⟨6, 0, none⟩))] [(0, .cells (m.cells 1) memT), (1, .ints .u64 m.w u64T), (2, .view 0 (.ints .u64 m.w u64T)), (4, .view 0 (.ints .u64 m.w u64T)), (6, .cells (m.rcells 4 5) rmT)] 7 [] []
theorem z4 {tl : List Nat} : ∀ k, k < 4 → (0 :: 1 :: 2 :: 3 :: tl : List Nat).getD k 0 = k := fun k hk => by
  match k, hk with
  | 0, _ => rfl
  | 1, _ => rfl
  | 2, _ => rfl
  | 3, _ => rfl
open Dec in
section
variable (m : Mm) (step : Int)
theorem pn_in : execR E14 8 .normal [.code (bd pkF [])] [0, 1, 2, 3, 4, 5] [5, 8, 12, 13] 4 [] ⟨pnArgs m step ++ List.replicate 36 undef, pnHp m, [], []⟩ = some (.normal, [.code (.loop (bd pkF pkL)), .blk 0, .code (bd pkF [1, 1])], pnG m, []) := by kernel_rfl
theorem pn_end : run E14 8 (bd pkF pkL) [0, 1, 2, 3, 4, 5, 6, 7] [5, 8] 4 [] (pnFr m [Dec.l]) = some (.exit 0, pnX m, []) := by kernel_rfl
theorem pn_out : execR E14 8 (.exit 0) [.blk 0, .code (bd pkF [1, 1])] [0, 1, 2, 3, 4, 5, 7] [8] 4 [] (pnX m) = some (.ret, [], pnE m, []) := by kernel_rfl
end
theorem pn_C (m : Mm) (step : Int) : CallC Tryz.prog pkId (pnArgs m step) (pnHp m) (.agg ⟨m.rcells 4 5⟩) (pnOut m) := by
  refine CallC.of_body (E := E14) (ds := []) (fn := pkF) 36 (by kernel_rfl) (by kernel_rfl) (by kernel_rfl) (by kernel_rfl) ?_
  refine KC.of_exec E14ok (pn_in m step) (pcs_of trivial) (Nat.le_refl _) z4 ?_
  refine KC.alias (F := pnFr m []) [0, 1, 2, 3, 2, 3, 4, 5] ?_ (by kernel_rfl) (by kernel_rfl) (by kernel_rfl) ⟨rfl, rfl, rfl, rfl, rfl, rfl, trivial⟩ (by kernel_rfl) z4
  refine KC.loop (m0 := 4) (ι := Unit) (fun _ => pnFr m []) (fun _ => True) (fun _ => 0) (fun ex fr => ex = .exit 0 ∧ fr = pnX m) (fun x hx => ?_) ?_ () trivial
  · exact CodeC.of_run (fr := pnFr m [Dec.l]) E14ok (pn_end m) (pcs_of trivial) (show 4 ≤ 8 by omega) z4 (.inr ⟨by simp, rfl, rfl⟩)
  rintro ex fr ⟨rfl, rfl⟩
  exact KC.of_exec E14ok (pn_out m) (pcs_of trivial) (show 4 ≤ 8 by omega) z4 (KC.done ⟨by simp, [.agg ⟨m.rcells 4 5⟩], [], [0, 1, 2, 3, 4, 5], 0, by kernel_rfl, by simp, by kernel_rfl, rfl, z4⟩)
def gPn (args : List Value) (hp : Hp) : Option (Value × Hp × List Prop) :=
  match args with
  | [.pointer (some ⟨k, 0, none⟩), r, .slice none 0 0, .int .i64 _] => match memOf hp k, refOf hp r with
    | some (wn, m), some (rn, cn, q) => bif nodupB [k, wn, rn, cn] then
        some (rV m hp.next (hp.next + 1), refPut hp m, [q = m.doc])
      else none
    | _, _ => none
  | _ => none
theorem gPn_ok : ∀ args hp v hp' pc, gPn args hp = some (v, hp', pc) → ∀ ds, CallOk Tryz.prog pkId args hp ⟨v, hp', ds, pc⟩ := by
  intro args hp v hp' pc hg ds
  unfold gPn at hg
  split at hg
  · rename_i k r step
    split at hg
    · rename_i wn m rn cn q hm hq
      cases hnd : nodupB [k, wn, rn, cn]
      · simp [hnd] at hg
      simp only [hnd, cond_true, Option.some.injEq, Prod.mk.injEq] at hg
      obtain ⟨rfl, rfl, rfl⟩ := hg
      obtain ⟨h1, h2, h3⟩ := memOf_some hm
      obtain ⟨rfl, h4, h5⟩ := refOf_some hq
      have hent : Enters Tryz.prog pkId := enters (fn := pkF) (by kernel_rfl) (by kernel_rfl) rfl
      by_cases hc : q = m.doc
      · subst hc
        exact CallC.lift hent (pc := [m.doc = m.doc]) (fun _ => pn_C m step) [k, wn, rn, cn] [4] (by show 4 ≤ 6; omega) rfl (by simp [tellers, nmL, nm, nmA, pnHp, pnArgs, tellers.tellB, allLt, Blk.nm, Mm.cells, Mm.rcells, Cfg.cells, Tc.cells, Nat.blt]) (by simp [tellers, nmL, nm, nmA, pnHp, pnArgs, tellers.tellB, allHas, has, upTo, Blk.nm, Mm.cells, Mm.rcells, Cfg.cells, Tc.cells, Nat.beq]) hnd rfl
          ⟨.inr rfl, .inr rfl, .inr rfl, trivial⟩ (hp := hp) (args := [.pointer (some ⟨k, 0, none⟩), .agg ⟨m.doc.rcells rn cn⟩, .slice none 0 0, .int .i64 step]) rfl ⟨h1, h2, h4, trivial⟩ ds
      · refine ⟨⟨by show hp.next ≤ hp.next + 2; omega, fun m _ hm => hm, fun n hn hl => ?_⟩, hent, fun hpc => absurd (hd1 hpc) hc⟩
        show lookB n _ = lookB n _
        have n1 : Nat.beq hp.next n = false := by
          cases e : Nat.beq hp.next n
          · rfl
          · have := beq_nat e; omega
        simp only [refPut, lookB, n1, cond_false, lookB_del, has]
        rfl
    · cases hg
  · cases hg
/-- What is due: nothing, or a row. -/
inductive Pk where
  | nil
  | row (of2 cap : Nat) (rows : List (List Int))
def Pk.sv (n : Nat) : Pk → Value
  | .nil => .slice none 0 0
  | .row of2 cap rows => .slice (some ⟨n, of2, none⟩) rows.length cap
def Pk.blk (n : Nat) : Pk → List (Nat × Blk)
  | .nil => []
  | .row of2 _ rows => [(n, .view of2 (.recs pkK rows pkT))]
def Pk.do (step : Int) : Pk → Mm → Mm
  | .nil, m => m
  | .row of2 _ rows, m => poke rows of2 step m
def Pk.len : Pk → Nat
  | .nil => 0
  | .row _ _ rows => rows.length
theorem Pk.do_ok (p : Pk) (step : Int) {m : Mm} (h : m.ok) : (p.do step m).ok ∧ (p.do step m).c = m.c ∧ (p.do step m).N = m.N := by
  cases p with
  | nil => exact ⟨h, rfl, rfl⟩
  | row of2 cap rows => exact poke_ok h rows of2 step
def Pk.pc (m : Mm) : Pk → List Prop
  | .nil => [m.doc = m.doc]
  | .row of2 _ rows => [m.ok ∧ m.c.Right ∧ m.doc = m.doc ∧ rows.length = rows.length ∧ of2 = of2 ∧ rows.length ≤ 1000]
theorem Pk.pc_ok (p : Pk) {m : Mm} (h : m.ok) (hr : m.c.Right) (hl : p.len ≤ 1000) : ∀ q ∈ p.pc m, q := by
  cases p with
  | nil => exact pcs_of ⟨rfl, trivial⟩
  | row of2 cap rows => exact pcs_of ⟨⟨h, hr, rfl, rfl, rfl, hl⟩, trivial⟩
def gPk2 (args : List Value) (hp : Hp) : Option (Value × Hp × List Prop) :=
  match gPn args hp with
  | some r => some r
  | none => gPk args hp
theorem gPk2_ok : ∀ args hp v hp' pc, gPk2 args hp = some (v, hp', pc) → ∀ ds, CallOk Tryz.prog pkId args hp ⟨v, hp', ds, pc⟩ := by
  intro args hp v hp' pc hg ds
  unfold gPk2 at hg
  split at hg
  · rename_i h
    obtain rfl := Option.some.inj hg
    exact gPn_ok _ _ _ _ _ h ds
  · exact gPk_ok _ _ _ _ _ hg ds
noncomputable def E15 : Env := E13.add pkId gPk2
theorem E15ok : EnvOk E15 := E13ok.add gPk2_ok
noncomputable def E16 : Env := E15.add 23 gOfW
theorem E16ok : EnvOk E16 := E15ok.add gOfW_ok
end Go.Proofs.YtocfhiafegkfkaaGreat.Ct
