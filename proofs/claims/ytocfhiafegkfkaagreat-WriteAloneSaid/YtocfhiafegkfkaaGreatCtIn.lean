/- Whether a number is in a row: the program's way, and the document's. -/
import Derived.Test.YtocfhiafegkfkaaGreatCtTicket
namespace Go.Proofs.YtocfhiafegkfkaaGreat.Ct
open Go Go.Proofs Go.Proofs.YtocfhiafegkfkaaGreat.Ev
open Go.RowKit

abbrev intT : TypeId := 3
def idxG (x : Int) : List Int → Nat → Int
  | [], _ => -1
  | y :: r, i => if y = x then (i : Int) else idxG x r (i + 1)
theorem idxG_hit {x : Int} : ∀ (l : List Int) (k : Nat) {i : Nat}, i < l.length → l.getD i 0 = x → (∀ j, j < i → l.getD j 0 ≠ x) → idxG x l k = ((k + i : Nat) : Int)
  | [], _, i, h, _, _ => by simp at h
  | y :: r, k, 0, _, h, _ => by
    have h' : y = x := h
    rw [idxG, if_pos h']
    rfl
  | y :: r, k, i + 1, h0, h, hn => by
    have h' : y ≠ x := hn 0 (by omega)
    rw [idxG, if_neg h', idxG_hit r (k + 1) (i := i) (by simpa using h0) (by simpa using h) (fun j hj => by have := hn (j + 1) (by omega); simpa using this)]
    congr 1
    omega
theorem idxG_miss {x : Int} : ∀ (l : List Int) (k : Nat), (∀ j, j < l.length → l.getD j 0 ≠ x) → idxG x l k = -1
  | [], _, _ => rfl
  | y :: r, k, hn => by
    have h' : y ≠ x := hn 0 (by simp)
    rw [idxG, if_neg h', idxG_miss r (k + 1) (fun j hj => by have := hn (j + 1) (by simpa using hj); simpa using this)]
theorem inB_hit {l : List Int} {x : Int} {i : Nat} (h : i < l.length) (he : l.getD i 0 = x) : inB l x = true := by
  unfold inB
  rw [List.contains_iff_mem, ← he, List.getD_eq_getElem?_getD, List.getElem?_eq_getElem h]
  exact List.getElem_mem h
theorem inB_miss {l : List Int} {x : Int} (h : ∀ j, j < l.length → l.getD j 0 ≠ x) : inB l x = false := by
  refine eq_false_of_ne_true fun e => ?_
  unfold inB at e
  rw [List.contains_iff_mem] at e
  obtain ⟨i, h1, h2⟩ := List.getElem_of_mem e
  apply h i h1
  rw [List.getD_eq_getElem?_getD, List.getElem?_eq_getElem h1, ← h2]
  rfl
theorem idxG_in (l : List Int) (x : Int) : decide (idxG x l 0 ≥ 0) = inB l x := by
  by_cases h : inB l x = true
  · have e := h
    unfold inB at e
    rw [List.contains_iff_mem] at e
    have key : ∀ (r : List Int) (k : Nat), x ∈ r → 0 ≤ idxG x r k := by
      intro r
      induction r with
      | nil => intro k h; cases h
      | cons y r ih =>
        intro k h
        unfold idxG
        split
        · omega
        · rename_i hne
          exact ih (k + 1) ((List.mem_cons.1 h).resolve_left (fun e => hne e.symm))
    rw [h]
    exact decide_eq_true (key l 0 e)
  · have h := eq_false_of_ne_true h
    rw [h, idxG_miss l 0 fun j hj e => by rw [inB_hit hj e] at h; cases h]
    rfl

noncomputable abbrev ixF : Func := Tryz.f145
abbrev ixFr (l : List Int) (o c : Nat) (x i : Int) (ds : List Dec) : Fr := mkFr 19 [(0, .slice (some ⟨0, o, none⟩) l.length c), (1, .int .i64 x), (7, .int .i64 l.length), (8, .int .i64 i)] [(0, .view o (.ints .i64 l intT))] 1 [] ds
abbrev ixE (l : List Int) (o : Nat) (v : Value) : Fr := mkFr 19 [(4, v)] [(0, .view o (.ints .i64 l intT))] 1 [] []
abbrev ixL : List Nat := [1, 0, 1, 0, 0]
open Dec in
section
variable (l : List Int) (o c : Nat) (x : Int) (i : Nat)
theorem ix_in : execR E49 5 .normal [.code (bd ixF [])] [0] [0, 1, 7, 8] 1 [] ⟨[.slice (some ⟨0, o, none⟩) l.length c, .int .i64 x] ++ List.replicate 17 undef, ⟨[(0, .view o (.ints .i64 l intT))], 1, []⟩, [], []⟩ = some (.normal, [.code (.loop (bd ixF ixL)), .blk 0, .code (bd ixF [1, 1])], ixFr l o c x 0 [], []) := by kernel_rfl
theorem ix_go : run E49 5 (bd ixF ixL) [0] [0, 1, 7, 8] 1 [] (ixFr l o c x (i : Int) [t, f]) = some (.normal, ixFr l o c x (w64 ((i : Int) + 1)) [], [decide ((i : Int) < (l.length : Int)) = true, 0 ≤ (i : Int), (i : Int) < (l.length : Int), o ≤ addN o (mulN i 1), jN o i < l.length, (x == l.getD (jN o i) 0) = false]) := by kernel_rfl
theorem ix_hit : run E49 5 (bd ixF ixL) [0] [4] 1 [] (ixFr l o c x (i : Int) [t, t]) = some (.ret, ixE l o (.int .i64 i), [decide ((i : Int) < (l.length : Int)) = true, 0 ≤ (i : Int), (i : Int) < (l.length : Int), o ≤ addN o (mulN i 1), jN o i < l.length, (x == l.getD (jN o i) 0) = true]) := by kernel_rfl
theorem ix_end : run E49 5 (bd ixF ixL) [0] [] 1 [] (ixFr l o c x (i : Int) [f]) = some (.exit 0, mkFr 19 [] [(0, .view o (.ints .i64 l intT))] 1 [] [], [decide ((i : Int) < (l.length : Int)) = false]) := by kernel_rfl
theorem ix_out : execR E49 5 (.exit 0) [.blk 0, .code (bd ixF [1, 1])] [0] [4] 1 [] (mkFr 19 [] [(0, .view o (.ints .i64 l intT))] 1 [] []) = some (.ret, [], ixE l o (.int .i64 (-1)), []) := by kernel_rfl
theorem ix_ret : execR E49 5 .ret [.blk 0, .code (bd ixF [1, 1])] [0] [4] 1 [] (ixE l o (.int .i64 i)) = some (.ret, [], ixE l o (.int .i64 i), []) := by kernel_rfl
end

noncomputable abbrev dnF : Func := Tryz.f124
abbrev dnFr (l : List Int) (o c : Nat) (x i : Int) (ds : List Dec) : Fr := mkFr 18 [(0, .slice (some ⟨0, o, none⟩) l.length c), (1, .int .i64 x), (5, .int .i64 i)] [(0, .view o (.ints .i64 l intT))] 1 [] ds
abbrev dnE (l : List Int) (o : Nat) (v : Value) : Fr := mkFr 18 [(4, v)] [(0, .view o (.ints .i64 l intT))] 1 [] []
abbrev dnL : List Nat := [1, 0, 1, 0, 0]
open Dec in
section
variable (l : List Int) (o c : Nat) (x : Int) (i : Nat)
theorem dn_in : execR E49 5 .normal [.code (bd dnF [])] [0] [0, 1, 5] 1 [] ⟨[.slice (some ⟨0, o, none⟩) l.length c, .int .i64 x] ++ List.replicate 16 undef, ⟨[(0, .view o (.ints .i64 l intT))], 1, []⟩, [], []⟩ = some (.normal, [.code (.loop (bd dnF dnL)), .blk 0, .code (bd dnF [1, 1])], dnFr l o c x 0 [], []) := by kernel_rfl
theorem dn_go : run E49 5 (bd dnF dnL) [0] [0, 1, 5] 1 [] (dnFr l o c x (i : Int) [t, f]) = some (.normal, dnFr l o c x (w64 ((i : Int) + 1)) [], [decide ((i : Int) < (l.length : Int)) = true, 0 ≤ (i : Int), (i : Int) < (l.length : Int), o ≤ addN o (mulN i 1), jN o i < l.length, (l.getD (jN o i) 0 == x) = false]) := by kernel_rfl
theorem dn_hit : run E49 5 (bd dnF dnL) [0] [4] 1 [] (dnFr l o c x (i : Int) [t, t]) = some (.ret, dnE l o (.bool true), [decide ((i : Int) < (l.length : Int)) = true, 0 ≤ (i : Int), (i : Int) < (l.length : Int), o ≤ addN o (mulN i 1), jN o i < l.length, (l.getD (jN o i) 0 == x) = true]) := by kernel_rfl
theorem dn_end : run E49 5 (bd dnF dnL) [0] [] 1 [] (dnFr l o c x (i : Int) [f]) = some (.exit 0, mkFr 18 [] [(0, .view o (.ints .i64 l intT))] 1 [] [], [decide ((i : Int) < (l.length : Int)) = false]) := by kernel_rfl
theorem dn_out : execR E49 5 (.exit 0) [.blk 0, .code (bd dnF [1, 1])] [0] [4] 1 [] (mkFr 18 [] [(0, .view o (.ints .i64 l intT))] 1 [] []) = some (.ret, [], dnE l o (.bool false), []) := by kernel_rfl
theorem dn_ret : execR E49 5 .ret [.blk 0, .code (bd dnF [1, 1])] [0] [4] 1 [] (dnE l o (.bool true)) = some (.ret, [], dnE l o (.bool true), []) := by kernel_rfl
end

open Dec in
theorem ix_C (l : List Int) (o c : Nat) (x : Int) (hmax : l.length ≤ 1000) : CallC Tryz.prog 145 [.slice (some ⟨0, o, none⟩) l.length c, .int .i64 x] ⟨[(0, .view o (.ints .i64 l intT))], 1, []⟩ (.int .i64 (idxG x l 0)) ⟨[(0, .view o (.ints .i64 l intT))], 1, []⟩ := by
  refine CallC.of_body (E := E49) (ds := []) (fn := ixF) 17 (by kernel_rfl) (by kernel_rfl) (by kernel_rfl) (by kernel_rfl) ?_
  refine KC.of_exec E49ok (ix_in l o c x) (pcs_of trivial) (Nat.le_refl _) (z1 _) ?_
  refine KC.loop (m0 := 1) (fun i : Nat => ixFr l o c x (i : Int) []) (fun i => i ≤ l.length ∧ ∀ j, j < i → l.getD j 0 ≠ x) (fun i => l.length - i)
    (fun ex fr => (ex = .exit 0 ∧ fr = mkFr 19 [] [(0, .view o (.ints .i64 l intT))] 1 [] [] ∧ ∀ j, j < l.length → l.getD j 0 ≠ x) ∨ (∃ i : Nat, ex = .ret ∧ fr = ixE l o (.int .i64 (i : Int)) ∧ i < l.length ∧ l.getD i 0 = x ∧ ∀ j, j < i → l.getD j 0 ≠ x)) (fun i hi => ?_) ?_ 0 ⟨Nat.zero_le _, fun j hj => absurd hj (Nat.not_lt_zero j)⟩
  · obtain ⟨hle, hno⟩ := hi
    by_cases hlt : i < l.length
    · have p1 : decide ((i : Int) < (l.length : Int)) = true := decide_eq_true (by omega)
      have p2 : o ≤ addN o (mulN i 1) := by rw [addN_eq]; omega
      have p4 : jN o i < l.length := by rw [jN_eq]; exact hlt
      by_cases he : l.getD i 0 = x
      · exact CodeC.of_run (fr := ixFr l o c x (i : Int) [t, t]) E49ok (ix_hit l o c x i) (pcs_of ⟨p1, by omega, by omega, p2, p4, by rw [jN_eq, he]; exact beq_self_eq_true _, trivial⟩) (Nat.le_refl _) (z1 _) (.inr ⟨by simp, .inr ⟨i, rfl, rfl, hlt, he, hno⟩⟩)
      · refine CodeC.of_run (fr := ixFr l o c x (i : Int) [t, f]) E49ok (ix_go l o c x i) (pcs_of ⟨p1, by omega, by omega, p2, p4, by rw [jN_eq]; exact beq_eq_false_iff_ne.2 (Ne.symm he), trivial⟩) (Nat.le_refl _) (z1 _) (.inl ⟨rfl, i + 1, by rw [w64_succ i (by omega)], ⟨hlt, fun j hj => ?_⟩, by omega⟩)
        by_cases hji : j = i
        · rw [hji]; exact he
        · exact hno j (by omega)
    · exact CodeC.of_run (fr := ixFr l o c x (i : Int) [f]) E49ok (ix_end l o c x i) (pcs_of ⟨decide_eq_false (by omega), trivial⟩) (Nat.le_refl _) (z1 _) (.inr ⟨by simp, .inl ⟨rfl, rfl, fun j hj => hno j (by omega)⟩⟩)
  · rintro ex fr (⟨rfl, rfl, hno⟩ | ⟨i, rfl, rfl, h1, h2, h3⟩)
    · refine KC.of_exec E49ok (ix_out l o) (pcs_of trivial) (Nat.le_refl _) (z1 _) (KC.done ?_)
      rw [idxG_miss l 0 hno]
      exact ⟨by simp, [.int .i64 (-1)], [], [0], 1, by kernel_rfl, by simp, by kernel_rfl, rfl, z1 _⟩
    · refine KC.of_exec E49ok (ix_ret l o i) (pcs_of trivial) (Nat.le_refl _) (z1 _) (KC.done ?_)
      rw [idxG_hit l 0 h1 h2 h3, Nat.zero_add]
      exact ⟨by simp, [(.int .i64 (i : Int))], [], [0], 1, by kernel_rfl, by simp, by kernel_rfl, rfl, z1 _⟩

open Dec in
theorem dn_C (l : List Int) (o c : Nat) (x : Int) (hmax : l.length ≤ 1000) : CallC Tryz.prog 124 [.slice (some ⟨0, o, none⟩) l.length c, .int .i64 x] ⟨[(0, .view o (.ints .i64 l intT))], 1, []⟩ (.bool (inB l x)) ⟨[(0, .view o (.ints .i64 l intT))], 1, []⟩ := by
  refine CallC.of_body (E := E49) (ds := []) (fn := dnF) 16 (by kernel_rfl) (by kernel_rfl) (by kernel_rfl) (by kernel_rfl) ?_
  refine KC.of_exec E49ok (dn_in l o c x) (pcs_of trivial) (Nat.le_refl _) (z1 _) ?_
  refine KC.loop (m0 := 1) (fun i : Nat => dnFr l o c x (i : Int) []) (fun i => i ≤ l.length ∧ ∀ j, j < i → l.getD j 0 ≠ x) (fun i => l.length - i)
    (fun ex fr => (ex = .exit 0 ∧ fr = mkFr 18 [] [(0, .view o (.ints .i64 l intT))] 1 [] [] ∧ ∀ j, j < l.length → l.getD j 0 ≠ x) ∨ (∃ i : Nat, ex = .ret ∧ fr = dnE l o (.bool true) ∧ i < l.length ∧ l.getD i 0 = x ∧ ∀ j, j < i → l.getD j 0 ≠ x)) (fun i hi => ?_) ?_ 0 ⟨Nat.zero_le _, fun j hj => absurd hj (Nat.not_lt_zero j)⟩
  · obtain ⟨hle, hno⟩ := hi
    by_cases hlt : i < l.length
    · have p1 : decide ((i : Int) < (l.length : Int)) = true := decide_eq_true (by omega)
      have p2 : o ≤ addN o (mulN i 1) := by rw [addN_eq]; omega
      have p4 : jN o i < l.length := by rw [jN_eq]; exact hlt
      by_cases he : l.getD i 0 = x
      · exact CodeC.of_run (fr := dnFr l o c x (i : Int) [t, t]) E49ok (dn_hit l o c x i) (pcs_of ⟨p1, by omega, by omega, p2, p4, by rw [jN_eq, he]; exact beq_self_eq_true _, trivial⟩) (Nat.le_refl _) (z1 _) (.inr ⟨by simp, .inr ⟨i, rfl, rfl, hlt, he, hno⟩⟩)
      · refine CodeC.of_run (fr := dnFr l o c x (i : Int) [t, f]) E49ok (dn_go l o c x i) (pcs_of ⟨p1, by omega, by omega, p2, p4, by rw [jN_eq]; exact beq_eq_false_iff_ne.2 he, trivial⟩) (Nat.le_refl _) (z1 _) (.inl ⟨rfl, i + 1, by rw [w64_succ i (by omega)], ⟨hlt, fun j hj => ?_⟩, by omega⟩)
        by_cases hji : j = i
        · rw [hji]; exact he
        · exact hno j (by omega)
    · exact CodeC.of_run (fr := dnFr l o c x (i : Int) [f]) E49ok (dn_end l o c x i) (pcs_of ⟨decide_eq_false (by omega), trivial⟩) (Nat.le_refl _) (z1 _) (.inr ⟨by simp, .inl ⟨rfl, rfl, fun j hj => hno j (by omega)⟩⟩)
  · rintro ex fr (⟨rfl, rfl, hno⟩ | ⟨i, rfl, rfl, h1, h2, h3⟩)
    · refine KC.of_exec E49ok (dn_out l o) (pcs_of trivial) (Nat.le_refl _) (z1 _) (KC.done ?_)
      rw [inB_miss hno]
      exact ⟨by simp, [.bool false], [], [0], 1, by kernel_rfl, by simp, by kernel_rfl, rfl, z1 _⟩
    · refine KC.of_exec E49ok (dn_ret l o) (pcs_of trivial) (Nat.le_refl _) (z1 _) (KC.done ?_)
      rw [inB_hit h1 h2]
      exact ⟨by simp, [(.bool true)], [], [0], 1, by kernel_rfl, by simp, by kernel_rfl, rfl, z1 _⟩

/-- Rows of numbers, that are only read. -/
def gRow (r : List Int → Int → Value) (args : List Value) (hp : Hp) : Option (Value × Hp × List Prop) :=
  match args with
  | [.slice none 0 0, .int .i64 x] => some (r [] x, hp, [])
  | [.slice (some ⟨na, oa, sa⟩) n _, .int .i64 x] => bif !(spOk sa oa) then none else match hp.get na with
    | some ba => match rowI oa ba with
      | some (.i64, l, q) => some (r (l.take n) x, hp, [q, n ≤ l.length, n ≤ 1000])
      | _ => none
    | _ => none
  | _ => none
theorem gRow_ok {f : FuncId} {r : List Int → Int → Value} (hent : Enters Tryz.prog f) (hr : ∀ l x, clo (r l x) = true) (hnm : ∀ x, nm (r [] x) = []) (h0 : ∀ x, CallC Tryz.prog f [.slice none 0 0, .int .i64 x] ⟨[], 0, []⟩ (r [] x) ⟨[], 0, []⟩)
    (hC : ∀ l o c x, l.length ≤ 1000 → CallC Tryz.prog f [.slice (some ⟨0, o, none⟩) l.length c, .int .i64 x] ⟨[(0, .view o (.ints .i64 l intT))], 1, []⟩ (r l x) ⟨[(0, .view o (.ints .i64 l intT))], 1, []⟩) :
    ∀ args hp v hp' pc, gRow r args hp = some (v, hp', pc) → ∀ ds, CallOk Tryz.prog f args hp ⟨v, hp', ds, pc⟩ := by
  intro args hp v hp' pc hg ds
  unfold gRow at hg
  split at hg
  · rename_i x
    simp only [Option.some.injEq, Prod.mk.injEq] at hg
    obtain ⟨rfl, rfl, rfl⟩ := hg
    exact CallC.pure hent (fun _ => h0 x) rfl (hnm x) hp ds
  · rename_i na oa sa n c1 x
    cases hsp : spOk sa oa
    · simp [hsp] at hg
    simp only [hsp, Bool.not_true, cond_false] at hg
    split at hg
    · rename_i ba hba
      split at hg
      · rename_i l q hra
        simp only [Option.some.injEq, Prod.mk.injEq] at hg
        obtain ⟨rfl, rfl, rfl⟩ := hg
        refine reads_ok hent (hr _ _) [na] (fun hpc S ρ cargs hargs => ?_) ds
        have q1 : q := hpc _ (by simp)
        have h1 : n ≤ l.length := hpc _ (by simp)
        have h2 : n ≤ 1000 := hpc _ (by simp)
        obtain ⟨u1, r1, rfl, hu1, hr1⟩ := hargs.cons
        obtain ⟨u2, r2, rfl, hu2, hr2⟩ := hr1.cons
        obtain rfl := hr2.nil
        obtain ⟨k1, rfl⟩ := slice_of hu1 hsp
        obtain rfl : u2 = .int .i64 x := hu2.self
        have e1 : (l.take n).length = n := by rw [List.length_take]; omega
        refine ⟨_, _, _, hC (l.take n) oa k1 x (by omega), ?_, ?_, fun n' b hb => ?_⟩
        · rw [e1]
          rfl
        · intro k hk
          simp [nmL, nm] at hk
          show k < 1
          omega
        · simp only [Hp.get, lookB] at hb
          cases h0 : Nat.beq 0 n'
          · simp [h0] at hb
          · simp only [h0, cond_true, Option.some.injEq] at hb
            have := beq_nat h0
            subst this
            subst hb
            exact ⟨Nat.zero_lt_one, rfl, ba, hba, Blk.pres_row hra, fun ρ' o hs ρ'' => rowI_view hra q1 n hs ρ''⟩
      · cases hg
    · cases hg
  · cases hg
abbrev rIx (l : List Int) (x : Int) : Value := .int .i64 (idxG x l 0)
abbrev rIn (l : List Int) (x : Int) : Value := .bool (inB l x)
noncomputable def Eg3a : Env := (Eg2.add 145 (gRow rIx)).add 124 (gRow rIn)
theorem Eg3aok : EnvOk Eg3a :=
  (Eg2ok.add (gRow_ok (r := rIx) (enters (fn := Tryz.f145) (by kernel_rfl) (by kernel_rfl) rfl) (fun _ _ => rfl) (fun _ => rfl) (fun x => path E49ok 5 (ds := [Dec.l]) (pc := []) (by kernel_rfl) (by simp) rfl) ix_C)).add (gRow_ok (r := rIn) (enters (fn := Tryz.f124) (by kernel_rfl) (by kernel_rfl) rfl) (fun _ _ => rfl) (fun _ => rfl) (fun x => path E49ok 5 (ds := [Dec.l]) (pc := []) (by kernel_rfl) (by simp) rfl) dn_C)
/-! Contains -/
theorem co_0 (x : Int) : callR Eg3a 5 129 [.slice none 0 0, .int .i64 x] ⟨[], 0, []⟩ [] [] = some (.bool (decide (idxG x [] 0 ≥ 0)), ⟨[], 0, []⟩, []) := by kernel_rfl
theorem co_1 (l : List Int) (o c : Nat) (x : Int) : callR Eg3a 5 129 [.slice (some ⟨0, o, none⟩) l.length c, .int .i64 x] ⟨[(0, .view o (.ints .i64 l intT))], 1, []⟩ [] [0] = some (.bool (decide (idxG x (l.take l.length) 0 ≥ 0)), ⟨[(0, .view o (.ints .i64 l intT))], 1, []⟩, [o = o, l.length ≤ l.length, l.length ≤ 1000]) := by kernel_rfl
noncomputable def Eg3 : Env := Eg3a.add 129 (gRow rIn)
theorem Eg3ok : EnvOk Eg3 :=
  Eg3aok.add (gRow_ok (r := rIn) (enters (fn := Tryz.f129) (by kernel_rfl) (by kernel_rfl) rfl) (fun _ _ => rfl) (fun _ => rfl)
    (fun x => by
      have h := path Eg3aok 5 (co_0 x) (by simp) rfl
      rw [idxG_in] at h
      exact h)
    (fun l o c x hl => by
      have h := CallC.of_call Eg3aok (co_1 l o c x) (pcs_of ⟨rfl, Nat.le_refl _, hl, trivial⟩) rfl (z1 _)
      rw [idxG_in, List.take_length] at h
      exact h))
end Go.Proofs.YtocfhiafegkfkaaGreat.Ct
