/- The document's row of spots, its length, and where a spot stands in it, as contracts. -/
import Derived.Test.YtcpkieahnkfpoaaCtCell
namespace Go.Proofs.Ytcpkieahnkfpoaa.Ct
open Go Go.Proofs Go.Proofs.Ytcpkieahnkfpoaa.Ev

def gSpots (args : List Value) (hp : Hp) : Option (Value × Hp × List Prop) :=
  match args with
  | [v] => match cfgOf v with
    | some c => some (.slice (some ⟨hp.next, 0, some (hp.next + 1)⟩) c.spots.length 0, ⟨(hp.next, .own (.recs [.i64, .i64] c.spots spotT) (hp.next + 1)) :: delB [hp.next] hp.blks, hp.next + 2, hp.log⟩, [c.Right])
    | none => none
  | _ => none
theorem gSpots_ok : ∀ args hp v hp' pc, gSpots args hp = some (v, hp', pc) → ∀ ds, CallOk Try.prog spotsF args hp ⟨v, hp', ds, pc⟩ := by
  intro args hp v hp' pc hg ds
  unfold gSpots at hg
  split at hg
  · split at hg
    · rename_i c hc
      simp only [Option.some.injEq, Prod.mk.injEq] at hg
      obtain ⟨rfl, rfl, rfl⟩ := hg
      rw [cfgOf_some hc]
      exact CallC.fresh (enters (fn := Try.f83) (by kernel_rfl) (by kernel_rfl) rfl) (fun h => spots_ref c (h _ (by simp))) rfl (fun _ => rfl) hp ds
    · cases hg
  · cases hg
noncomputable def E4 : Env := E3.add spotsF gSpots
theorem E4ok : EnvOk E4 := E3ok.add gSpots_ok

theorem len_ref (c : Cfg) (h : c.Right) : CallC Try.prog 34 [c.v] ⟨[], 0, []⟩ (.int .i64 c.len) ⟨[], 0, []⟩ := by
  rw [← spots_len h]
  exact path E4ok 5 (ds := []) (pc := [c.Right]) (by kernel_rfl) (by simp [h]) rfl

noncomputable abbrev ceB (p : List Nat) : Code := bd Try.f99 p
def fld (l : List (List Int)) (i r : Nat) : Int := (l.getD ((i * 2 + r) / 2) []).getD ((i * 2 + r) % 2) 0
def ceFr (kind n : Int) (N : Nat) (l : List (List Int)) (i : Int) (ds : List Dec) : Fr := mkFr 34 [(1, .int .i64 kind), (2, .int .i64 n), (7, .slice (some ⟨0, 0, some 1⟩) N 0), (8, .int .i64 i)] [(0, .own (.recs [.i64, .i64] l spotT) 1)] 2 [] ds
open Dec in
section
variable (c : Cfg) (kind n : Int) (N : Nat) (l : List (List Int)) (i : Nat) (ds' : List Dec)
theorem ce_in : execR E4 5 .normal [.code (ceB [])] [1, 2] [1, 2, 7, 8] 0 ds' ⟨[c.v, .int .i64 kind, .int .i64 n] ++ List.replicate 31 undef, ⟨[], 0, []⟩, [], []⟩ =
    some (.normal, [.code (.loop (ceB [1,1,0,1,0,0])), .blk 0, .code (ceB [1,1,1])], ceFr kind n c.spots.length c.spots 0 ds', [c.Right]) := by kernel_rfl
theorem ce_hit : run E4 5 (ceB [1,1,0,1,0,0]) [] [6] 0 ds' (ceFr kind n N l i [t, t, t]) = some (.ret, mkFr 34 [(6, .int .i64 i)] [] 0 [] ds',
    [decide ((i : Int) < (N : Int)) = true, 0 ≤ (i : Int), (i : Int) < (N : Int), (i * 2 + 0) / 2 < l.length, (fld l i 0 == kind) = true, 0 ≤ (i : Int), (i : Int) < (N : Int), (i * 2 + 1) / 2 < l.length, (fld l i 1 == n) = true]) := by kernel_rfl
theorem ce_no1 : run E4 5 (ceB [1,1,0,1,0,0]) [0, 1] [1, 2, 7, 8] 0 ds' (ceFr kind n N l i [t, f, Dec.l]) = some (.normal, ceFr kind n N l (w64 ((i : Int) + 1)) ds',
    [decide ((i : Int) < (N : Int)) = true, 0 ≤ (i : Int), (i : Int) < (N : Int), (i * 2 + 0) / 2 < l.length, (fld l i 0 == kind) = false]) := by kernel_rfl
theorem ce_no2 : run E4 5 (ceB [1,1,0,1,0,0]) [0, 1] [1, 2, 7, 8] 0 ds' (ceFr kind n N l i [t, t, f]) = some (.normal, ceFr kind n N l (w64 ((i : Int) + 1)) ds',
    [decide ((i : Int) < (N : Int)) = true, 0 ≤ (i : Int), (i : Int) < (N : Int), (i * 2 + 0) / 2 < l.length, (fld l i 0 == kind) = true, 0 ≤ (i : Int), (i : Int) < (N : Int), (i * 2 + 1) / 2 < l.length, (fld l i 1 == n) = false]) := by kernel_rfl
theorem ce_end : run E4 5 (ceB [1,1,0,1,0,0]) [] [] 0 ds' (ceFr kind n N l i [f]) = some (.exit 0, mkFr 34 [] [] 0 [] ds', [decide ((i : Int) < (N : Int)) = false]) := by kernel_rfl
theorem ce_out : execR E4 5 (.exit 0) [.blk 0, .code (ceB [1,1,1])] [] [6] 0 ds' (mkFr 34 [] [] 0 [] []) = some (.ret, [], mkFr 34 [(6, .int .i64 (-1))] [] 0 [] ds', []) := by kernel_rfl
theorem ce_ret : execR E4 5 .ret [.blk 0, .code (ceB [1,1,1])] [] [6] 0 ds' (mkFr 34 [(6, .int .i64 n)] [] 0 [] []) = some (.ret, [], mkFr 34 [(6, .int .i64 n)] [] 0 [] ds', []) := by kernel_rfl
end
theorem fld0 (l : List (List Int)) (i : Nat) : fld l i 0 = (l.getD i []).getD 0 0 := by
  unfold fld
  rw [show (i * 2 + 0) / 2 = i by omega, show (i * 2 + 0) % 2 = 0 by omega]
theorem fld1 (l : List (List Int)) (i : Nat) : fld l i 1 = (l.getD i []).getD 1 0 := by
  unfold fld
  rw [show (i * 2 + 1) / 2 = i by omega, show (i * 2 + 1) % 2 = 1 by omega]

open Dec in
theorem cell_ref (c : Cfg) (h : c.Right) (kind n : Int) : CallC Try.prog 99 [c.v, .int .i64 kind, .int .i64 n] ⟨[], 0, []⟩ (.int .i64 (cellIx c kind n)) ⟨[], 0, []⟩ := by
  have z0 : ∀ (ns : List Nat) k, k < 0 → ns.getD k 0 = k := fun ns k hk => absurd hk (Nat.not_lt_zero k)
  have hlen := spots_len h
  have hlen' : c.len ≤ 70 := by
    have h' := h
    unfold Cfg.Right at h'
    unfold Cfg.len
    rw [if_pos h]
    omega
  have hlen2 : c.spots.length ≤ 70 := by omega
  have hw : ∀ i : Nat, i < 100 → w64 ((i : Int) + 1) = ((i + 1 : Nat) : Int) := fun i hi => by rw [w64_in (by omega) (by omega)]; omega
  have hat : ∀ k : Nat, k < c.spots.length → c.spots.getD k [] = [kindAt c k, numAt c k] ∧ cellIx c (kindAt c k) (numAt c k) = k := fun k hk => by
    have h1 := cellIx_at h (k := (k : Int)) (by omega) (by omega)
    have h2 := spot_get h h1
    exact ⟨by rw [List.getD_eq_getElem?_getD, h2]; rfl, h1⟩
  refine CallC.of_body (E := E4) (ds := []) (fn := Try.f99) 31 (by kernel_rfl) (by kernel_rfl) (by kernel_rfl) (by kernel_rfl) ?_
  let dsf : Nat → List Dec := fun i => if i < c.spots.length then (if fld c.spots i 0 = kind then (if fld c.spots i 1 = n then [t, t, t] else [t, t, f]) else [t, f, Dec.l]) else [f]
  refine KC.of_exec E4ok (ce_in c kind n (dsf 0)) (pcs_of ⟨h, trivial⟩) (Nat.zero_le _) (z0 _) ?_
  refine KC.loop (m0 := 0) (fun i : Nat => ceFr kind n c.spots.length c.spots i (dsf i)) (fun i => i ≤ c.spots.length ∧ ∀ j, j < i → c.spots.getD j [] ≠ [kind, n]) (fun i => c.spots.length - i)
    (fun ex fr => (ex = .exit 0 ∧ fr = mkFr 34 [] [] 0 [] [] ∧ cellIx c kind n = -1) ∨ (ex = .ret ∧ fr = mkFr 34 [(6, .int .i64 (cellIx c kind n))] [] 0 [] [])) (fun i hi => ?_) ?_ 0 ⟨Nat.zero_le _, fun j hj => absurd hj (Nat.not_lt_zero j)⟩
  · obtain ⟨hle, hno⟩ := hi
    by_cases hlt : i < c.spots.length
    · obtain ⟨ha1, ha2⟩ := hat i hlt
      have g0 : fld c.spots i 0 = kindAt c i := by rw [fld0, ha1]; rfl
      have g1 : fld c.spots i 1 = numAt c i := by rw [fld1, ha1]; rfl
      have p1 : decide ((i : Int) < (c.spots.length : Int)) = true := decide_eq_true (by omega)
      have p2 : (i * 2 + 0) / 2 < c.spots.length := by omega
      have p3 : (i * 2 + 1) / 2 < c.spots.length := by omega
      by_cases hk : fld c.spots i 0 = kind
      · by_cases hn : fld c.spots i 1 = n
        · have hds : dsf i = [t, t, t] := by simp only [dsf, if_pos hlt, if_pos hk, if_pos hn]
          simp only [hds]
          have hc : (i : Int) = cellIx c kind n := by rw [← ha2, ← g0, ← g1, hk, hn]
          refine CodeC.of_run E4ok (ce_hit kind n _ _ i []) (pcs_of ⟨p1, by omega, by omega, p2, by simp [hk], by omega, by omega, p3, by simp [hn], trivial⟩) (Nat.zero_le _) (z0 _) (.inr ⟨by simp, .inr ⟨rfl, by rw [hc]⟩⟩)
        · have hds : dsf i = [t, t, f] := by simp only [dsf, if_pos hlt, if_pos hk, if_neg hn]
          simp only [hds]
          refine CodeC.of_run E4ok (ce_no2 kind n _ _ i (dsf (i + 1))) (pcs_of ⟨p1, by omega, by omega, p2, by simp [hk], by omega, by omega, p3, by simp [hn], trivial⟩) (Nat.zero_le _) (z0 _) (.inl ⟨rfl, i + 1, by rw [hw i (by omega)], ⟨hlt, fun j hj => ?_⟩, by omega⟩)
          by_cases hji : j = i
          · subst hji
            intro e
            rw [fld1, e] at hn
            exact hn rfl
          · exact hno j (by omega)
      · have hds : dsf i = [t, f, Dec.l] := by simp only [dsf, if_pos hlt, if_neg hk]
        simp only [hds]
        refine CodeC.of_run E4ok (ce_no1 kind n _ _ i (dsf (i + 1))) (pcs_of ⟨p1, by omega, by omega, p2, by simp [hk], trivial⟩) (Nat.zero_le _) (z0 _) (.inl ⟨rfl, i + 1, by rw [hw i (by omega)], ⟨hlt, fun j hj => ?_⟩, by omega⟩)
        by_cases hji : j = i
        · subst hji
          intro e
          rw [fld0, e] at hk
          exact hk rfl
        · exact hno j (by omega)
    · have hds : dsf i = [f] := by simp only [dsf, if_neg hlt]
      simp only [hds]
      refine CodeC.of_run E4ok (ce_end kind n _ _ i []) (pcs_of ⟨decide_eq_false (by omega), trivial⟩) (Nat.zero_le _) (z0 _) (.inr ⟨by simp, .inl ⟨rfl, rfl, ?_⟩⟩)
      rcases cellIx_lt (c := c) kind n with h1 | h1
      · have h2 := cellIx_ge c kind n
        by_cases h3 : cellIx c kind n = -1
        · exact h3
        · exfalso
          obtain ⟨k, hk⟩ : ∃ k : Nat, cellIx c kind n = (k : Int) := ⟨(cellIx c kind n).toNat, by omega⟩
          have h4 := spot_get h hk
          have h5 : k < c.spots.length := (List.getElem?_eq_some_iff.1 h4).1
          exact hno k (by omega) (by rw [List.getD_eq_getElem?_getD, h4]; rfl)
      · exact h1
  rintro ex fr1 (⟨rfl, rfl, hc⟩ | ⟨rfl, rfl⟩)
  · rw [hc]
    exact KC.of_exec E4ok (ce_out []) (pcs_of trivial) (Nat.zero_le _) (z0 _) (KC.done ⟨by simp, [.int .i64 (-1)], [], [], 0, by kernel_rfl, by simp, by kernel_rfl, rfl, z0 _⟩)
  · exact KC.of_exec E4ok (ce_ret (cellIx c kind n) []) (pcs_of trivial) (Nat.zero_le _) (z0 _) (KC.done ⟨by simp, [.int .i64 (cellIx c kind n)], [], [], 0, by kernel_rfl, by simp, by kernel_rfl, rfl, z0 _⟩)

def gLenR (args : List Value) (hp : Hp) : Option (Value × Hp × List Prop) :=
  match args with
  | [v] => match cfgOf v with
    | some c => some (.int .i64 c.len, hp, [c.Right])
    | none => none
  | _ => none
theorem gLenR_ok : ∀ args hp v hp' pc, gLenR args hp = some (v, hp', pc) → ∀ ds, CallOk Try.prog 34 args hp ⟨v, hp', ds, pc⟩ := by
  intro args hp v hp' pc hg ds
  unfold gLenR at hg
  split at hg
  · split at hg
    · rename_i c hc
      simp only [Option.some.injEq, Prod.mk.injEq] at hg
      obtain ⟨rfl, rfl, rfl⟩ := hg
      rw [cfgOf_some hc]
      exact CallC.pure (enters (fn := Try.f34) (by kernel_rfl) (by kernel_rfl) rfl) (fun h => len_ref c (h _ (by simp))) rfl rfl hp ds
    · cases hg
  · cases hg
def gCellR (args : List Value) (hp : Hp) : Option (Value × Hp × List Prop) :=
  match args with
  | [v, .int .i64 kind, .int .i64 n] => match cfgOf v with
    | some c => some (.int .i64 (cellIx c kind n), hp, [c.Right])
    | none => none
  | _ => none
theorem gCellR_ok : ∀ args hp v hp' pc, gCellR args hp = some (v, hp', pc) → ∀ ds, CallOk Try.prog 99 args hp ⟨v, hp', ds, pc⟩ := by
  intro args hp v hp' pc hg ds
  unfold gCellR at hg
  split at hg
  · split at hg
    · rename_i _ _ kind n _ c hc
      simp only [Option.some.injEq, Prod.mk.injEq] at hg
      obtain ⟨rfl, rfl, rfl⟩ := hg
      rw [cfgOf_some hc]
      exact CallC.pure (enters (fn := Try.f99) (by kernel_rfl) (by kernel_rfl) rfl) (fun h => cell_ref c (h _ (by simp)) kind n) rfl rfl hp ds
    · cases hg
  · cases hg
noncomputable def E5 : Env := (E4.add 34 gLenR).add 99 gCellR
theorem E5ok : EnvOk E5 := (E4ok.add gLenR_ok).add gCellR_ok
end Go.Proofs.Ytcpkieahnkfpoaa.Ct
