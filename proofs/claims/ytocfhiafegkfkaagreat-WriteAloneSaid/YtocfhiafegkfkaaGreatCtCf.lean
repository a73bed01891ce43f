/- The contracts of the laying of conflicts: where nothing is laid, and where some are. -/
import Derived.Test.YtocfhiafegkfkaaGreatCtOthers2
import Derived.Test.YtocfhiafegkfkaaGreatCtAcc
namespace Go.Proofs.YtocfhiafegkfkaaGreat.Ct
open Go Go.Proofs Go.Proofs.YtocfhiafegkfkaaGreat.Ev
open Go.RowKit

abbrev goneF : FuncId := 28
open Dec in
theorem gone_C (s n sn : Int) (hs : Wd s) : CallC Tryz.prog goneF [.int .u64 s, .int .u64 n, .int .u64 sn] ⟨[], 0, []⟩ (.bool (goneI s n sn)) ⟨[], 0, []⟩ := by
  have hr : 0 ≤ nuI s 27 3 ∧ nuI s 27 3 ≤ 7 := by
    unfold nuI
    have : pw 3 = 8 := rfl
    rw [this]
    omega
  unfold goneI
  by_cases h1 : nuI s 27 3 < 2
  · rw [if_neg (show ¬ nuI s 27 3 = 4 by omega), show (nuI s 27 3 == 2) = false from beq_false_of_ne (by omega), show (nuI s 27 3 == 3) = false from beq_false_of_ne (by omega)]
    exact CallC.of_call (E := Em3) Em3ok (ds := [t, l]) (ns := []) (n := 12) (pc := [Wd s, decide (nuI s 27 3 < 2) = true]) (by kernel_rfl) (pcs_of ⟨hs, decide_eq_true h1, trivial⟩) rfl (fun k hk => absurd hk (Nat.not_lt_zero k))
  · by_cases h2 : nuI s 27 3 > 4
    · rw [if_neg (show ¬ nuI s 27 3 = 4 by omega), show (nuI s 27 3 == 2) = false from beq_false_of_ne (by omega), show (nuI s 27 3 == 3) = false from beq_false_of_ne (by omega)]
      exact CallC.of_call (E := Em3) Em3ok (ds := [f, t]) (ns := []) (n := 12) (pc := [Wd s, decide (nuI s 27 3 < 2) = false, decide (nuI s 27 3 > 4) = true]) (by kernel_rfl) (pcs_of ⟨hs, decide_eq_false h1, decide_eq_true h2, trivial⟩) rfl (fun k hk => absurd hk (Nat.not_lt_zero k))
    · by_cases h3 : nuI s 27 3 = 4
      · rw [if_pos h3]
        by_cases h4 : n = 0
        · have : pastI n sn = false := by unfold pastI; simp [h4]
          rw [this]
          exact CallC.of_call (E := Em3) Em3ok (ds := [f, f, t, f]) (ns := []) (n := 12) (pc := [Wd s, decide (nuI s 27 3 < 2) = false, decide (nuI s 27 3 > 4) = false, (nuI s 27 3 == 4) = true, (n != 0) = false]) (by kernel_rfl) (pcs_of ⟨hs, decide_eq_false h1, decide_eq_false h2, beq_iff_eq.2 h3, by simp [h4], trivial⟩) rfl (fun k hk => absurd hk (Nat.not_lt_zero k))
        · have : pastI n sn = decide (n ≤ sn) := by unfold pastI; simp [h4]
          rw [this]
          exact CallC.of_call (E := Em3) Em3ok (ds := [f, f, t, t]) (ns := []) (n := 12) (pc := [Wd s, decide (nuI s 27 3 < 2) = false, decide (nuI s 27 3 > 4) = false, (nuI s 27 3 == 4) = true, (n != 0) = true]) (by kernel_rfl) (pcs_of ⟨hs, decide_eq_false h1, decide_eq_false h2, beq_iff_eq.2 h3, by simp [h4], trivial⟩) rfl (fun k hk => absurd hk (Nat.not_lt_zero k))
      · rw [if_neg h3]
        have : (!(nuI s 27 3 == 2 || nuI s 27 3 == 3)) = false := by
          rcases (show nuI s 27 3 = 2 ∨ nuI s 27 3 = 3 by omega) with e | e <;> rw [e] <;> rfl
        rw [this]
        exact CallC.of_call (E := Em3) Em3ok (ds := [f, f, f, l]) (ns := []) (n := 12) (pc := [Wd s, decide (nuI s 27 3 < 2) = false, decide (nuI s 27 3 > 4) = false, (nuI s 27 3 == 4) = false]) (by kernel_rfl) (pcs_of ⟨hs, decide_eq_false h1, decide_eq_false h2, beq_false_of_ne h3, trivial⟩) rfl (fun k hk => absurd hk (Nat.not_lt_zero k))
def gGone (args : List Value) (hp : Hp) : Option (Value × Hp × List Prop) :=
  match args with
  | [.int .u64 s, .int .u64 n, .int .u64 sn] => some (.bool (goneI s n sn), hp, [Wd s])
  | _ => none
theorem gGone_ok : ∀ args hp v hp' pc, gGone args hp = some (v, hp', pc) → ∀ ds, CallOk Tryz.prog goneF args hp ⟨v, hp', ds, pc⟩ := by
  intro args hp v hp' pc hg ds
  unfold gGone at hg
  split at hg
  · rename_i s n sn
    simp only [Option.some.injEq, Prod.mk.injEq] at hg
    obtain ⟨rfl, rfl, rfl⟩ := hg
    exact CallC.pure (enters (fn := Tryz.f28) (by kernel_rfl) (by kernel_rfl) rfl) (fun h => gone_C s n sn (h _ (by simp))) rfl rfl hp ds
  · cases hg
noncomputable def Ec0 : Env := Em3.add goneF gGone
theorem Ec0ok : EnvOk Ec0 := Em3ok.add gGone_ok

/-! ### Conflicts -/
noncomputable abbrev cfFn : Func := Tryz.f31
abbrev cfF : FuncId := 31
abbrev cfLp : List Nat := [1, 1, 0, 1, 0, 0]
abbrev cfLive : List Nat := [1, 2, 3, 5, 12, 20, 21, 22]
def cfHp (w L : List Int) : Hp := ⟨[(0, .own (.ints .u64 w u64T) 1), (2, .own (.ints .i64 L intT) 3)], 4, []⟩
def cfHpB (w L w' : List Int) : Hp := ⟨[(0, .own (.ints .u64 w u64T) 1), (2, .own (.ints .i64 L intT) 3), (4, .own (.ints .u64 w' u64T) 5)], 6, []⟩
def cfS (n a b : Nat) : Value := .slice (some ⟨a, 0, some b⟩) n 0
def cfArgs (c : Cfg) (n : Nat) (i sd : Int) (v : Value) : List Value := [c.v, cfS n 0 1, .int .i64 i, .int .i64 sd, v]
def cfT (v : Value) (b : Bool) : Value := .tuple ⟨[v, .bool b]⟩
/-- The row that is gone on with: the one handed in, or a new one. -/
def cfV (n : Nat) : Option (List Int) → Value
  | none => cfS n 0 1
  | some _ => cfS n 5 6
def cfW (w : List Int) : Option (List Int) → List Int
  | none => w
  | some w' => w'
def cfBl (c : Cfg) (w L : List Int) : Option (List Int) → List (Nat × Blk)
  | none => [(0, .own (.ints .u64 w u64T) 1), (2, .own (.ints .i64 L intT) 3), (4, .cells c.cells 24)]
  | some w' => [(0, .own (.ints .u64 w u64T) 1), (2, .own (.ints .i64 L intT) 3), (4, .cells c.cells 24), (5, .own (.ints .u64 w' u64T) 6)]
def cfNx : Option (List Int) → Nat
  | none => 5
  | some _ => 7
def cfFr (c : Cfg) (N : Nat) (w L : List Int) (o : Option (List Int)) (i sd n k : Int) (ds : List Dec) : Fr := mkFr 82 [(1, cfV N o), (2, .int .i64 i), (3, .int .i64 sd), (5, .pointer (some ⟨4, 0, none⟩)), (12, .int .u64 n), (20, cfS L.length 2 3), (21, .int .i64 L.length), (22, .int .i64 k)] (cfBl c w L o) (cfNx o) [] ds
def cfX (c : Cfg) (N : Nat) (w L : List Int) (o : Option (List Int)) (ds : List Dec) : Fr := mkFr 82 [(1, cfV N o)] (cfBl c w L o) (cfNx o) [] ds
def cfE (c : Cfg) (N : Nat) (w L : List Int) (o : Option (List Int)) (b : Bool) : Fr := mkFr 82 [(10, cfV N o), (11, .bool b)] (cfBl c w L o) (cfNx o) [] []
abbrev xI (L : List Int) (k : Nat) : Int := L.getD (addN 0 (mulN k 1)) 0
abbrev iI (x : Int) : Nat := addN 0 (mulN x.toNat 1)
abbrev sI (c : Cfg) (w : List Int) (kd x : Int) : Int := w.getD (iI (cellIx c kd x)) 0
def q1 (c : Cfg) (N : Nat) (w L : List Int) (i sd : Int) (k : Nat) : List Int := (w.take N).set (iI (cellIx c 4 (xI L k))) (withI (sI c w 4 (xI L k)) (w64 (1 - sd)) i)
def q2 (c : Cfg) (N : Nat) (w L : List Int) (i sd : Int) (k : Nat) : List Int := ((q1 c N w L i sd k).take N).set (iI (cellIx c 4 i)) (withI ((q1 c N w L i sd k).getD (iI (cellIx c 4 i)) 0) sd (xI L k))
def hQ (L : List Int) (k : Nat) : List Prop := [decide ((k : Int) < (L.length : Int)) = true, 0 ≤ (k : Int), (k : Int) < (L.length : Int), addN 0 (mulN k 1) < L.length]
def aQ (c : Cfg) (N : Nat) (w : List Int) (kd x : Int) : List Prop := [c.Right, 0 ≤ cellIx c kd x, cellIx c kd x < (N : Int), iI (cellIx c kd x) < w.length]
def gQ (c : Cfg) (N : Nat) (w L : List Int) (n : Int) (k : Nat) (b : Bool) : List Prop := hQ L k ++ ((decide (xI L k ≥ c.s) = false) :: (aQ c N w 4 (xI L k) ++ (aQ c N w 6 (xI L k) ++ [Wd (sI c w 4 (xI L k)), goneI (sI c w 4 (xI L k)) (sI c w 6 (xI L k)) n = b])))
def pQ (c : Cfg) (N : Nat) (a b : List Int) (x : Int) : List Prop := [N ≤ a.length, (0 : Nat) = 0, (0 + N) * 8 ≤ 140737488355328, 0 + N ≤ 9223372036854775807, c.Right, 0 ≤ cellIx c 4 x, cellIx c 4 x < (N : Int), iI (cellIx c 4 x) < b.length]
def lQ (c : Cfg) (N : Nat) (w L : List Int) (i sd : Int) (k : Nat) : List Prop := Wd (sI c w 4 (xI L k)) :: (pQ c N w (w.take N) (xI L k) ++ (aQ c N (q1 c N w L i sd k) 4 i ++ (Wd ((q1 c N w L i sd k).getD (iI (cellIx c 4 i)) 0) :: pQ c N (q1 c N w L i sd k) ((q1 c N w L i sd k).take N) i)))
/-- Why one is not barred. -/
def bDs : Nat → List Dec
  | 0 => [.f, .l, .l]
  | 1 => [.t, .f, .l]
  | 2 => [.t, .t, .f]
  | _ => [.t, .t, .t]
def bQ (s i sd : Int) : Nat → List Prop
  | 0 => [Wd s, (!hasI s (w64 (1 - sd)) i) = false]
  | 1 => [Wd s, (!hasI s (w64 (1 - sd)) i) = true, Wd s, (nuI s 27 3 != 2) = false]
  | 2 => [Wd s, (!hasI s (w64 (1 - sd)) i) = true, Wd s, (nuI s 27 3 != 2) = true, Wd s, anyI s sd = false]
  | _ => [Wd s, (!hasI s (w64 (1 - sd)) i) = true, Wd s, (nuI s 27 3 != 2) = true, Wd s, anyI s sd = true]
noncomputable abbrev cfK : List Kt := [.blk 0, .code (bd cfFn [1, 1, 1])]
open Dec in
section
variable (c : Cfg) (N : Nat) (w L w' : List Int) (i sd n : Int) (k : Nat) (ds' : List Dec) (o : Option (List Int))
theorem cf_nil : callR Ec0 12 cfF (cfArgs c N i sd (.slice none 0 0)) ⟨[(0, .own (.ints .u64 w u64T) 1)], 2, []⟩ [l] [0, 1] = some (cfT (cfS N 0 1) true, ⟨[(0, .own (.ints .u64 w u64T) 1)], 2, []⟩, aQ c N w 5 i) := by kernel_rfl
theorem cf_in : execR Ec0 12 .normal [.code (bd cfFn [])] [0, 1, 2, 3, 4] cfLive 4 ds' ⟨cfArgs c N i sd (cfS L.length 2 3) ++ List.replicate 77 undef, cfHp w L, [], []⟩ = some (.normal, .code (.loop (bd cfFn cfLp)) :: cfK, cfFr c N w L none i sd (sI c w 5 i) 0 ds', aQ c N w 5 i) := by kernel_rfl
theorem cf_over : run Ec0 12 (bd cfFn cfLp) (List.range (cfNx o)) cfLive 4 ds' (cfFr c N w L o i sd n k [t, t]) = some (.normal, cfFr c N w L o i sd n (w64 ((k : Int) + 1)) ds', hQ L k ++ [decide (xI L k ≥ c.s) = true]) := by cases o <;> kernel_rfl
theorem cf_gone : run Ec0 12 (bd cfFn cfLp) (List.range (cfNx o)) cfLive 4 ds' (cfFr c N w L o i sd n k [t, f, t]) = some (.normal, cfFr c N w L o i sd n (w64 ((k : Int) + 1)) ds', gQ c N (cfW w o) L n k true) := by cases o <;> kernel_rfl
theorem cf_bar : run Ec0 12 (bd cfFn cfLp) (List.range (cfNx o)) [10, 11] 4 [] (cfFr c N w L o i sd n k (t :: f :: f :: bDs 3)) = some (.ret, cfE c N w L o false, gQ c N (cfW w o) L n k false ++ bQ (sI c (cfW w o) 4 (xI L k)) i sd 3) := by cases o <;> kernel_rfl
theorem cf_layA (j : Nat) (hj : j < 3) : run Ec0 12 (bd cfFn cfLp) [0, 1, 2, 3, 4, 18, 19] cfLive 4 ds' (cfFr c N w L none i sd n k (t :: f :: f :: bDs j)) = some (.normal, cfFr c N w L (some (q2 c N w L i sd k)) i sd n (w64 ((k : Int) + 1)) ds', gQ c N w L n k false ++ (bQ (sI c w 4 (xI L k)) i sd j ++ lQ c N w L i sd k)) :=
  match j, hj with
  | 0, _ => by kernel_rfl
  | 1, _ => by kernel_rfl
  | 2, _ => by kernel_rfl
theorem cf_layB (j : Nat) (hj : j < 3) : run Ec0 12 (bd cfFn cfLp) [0, 1, 2, 3, 4, 20, 21] cfLive 4 ds' (cfFr c N w L (some w') i sd n k (t :: f :: f :: bDs j)) = some (.normal, cfFr c N w L (some (q2 c N w' L i sd k)) i sd n (w64 ((k : Int) + 1)) ds', gQ c N w' L n k false ++ (bQ (sI c w' 4 (xI L k)) i sd j ++ lQ c N w' L i sd k)) :=
  match j, hj with
  | 0, _ => by kernel_rfl
  | 1, _ => by kernel_rfl
  | 2, _ => by kernel_rfl
theorem cf_end : run Ec0 12 (bd cfFn cfLp) (List.range (cfNx o)) [1] 4 [] (cfFr c N w L o i sd n k [f]) = some (.exit 0, cfX c N w L o [], [decide ((k : Int) < (L.length : Int)) = false]) := by cases o <;> kernel_rfl
theorem cf_out : execR Ec0 12 (.exit 0) cfK (List.range (cfNx o)) [10, 11] 4 [] (cfX c N w L o []) = some (.ret, [], cfE c N w L o true, []) := by cases o <;> kernel_rfl
theorem cf_ret (b : Bool) : execR Ec0 12 .ret cfK (List.range (cfNx o)) [10, 11] 4 [] (cfE c N w L o b) = some (.ret, [], cfE c N w L o b, []) := by cases o <;> kernel_rfl
end
end Go.Proofs.YtocfhiafegkfkaaGreat.Ct
namespace Go.Proofs.YtocfhiafegkfkaaGreat.Ct
open Go Go.Proofs Go.Proofs.YtocfhiafegkfkaaGreat.Ev
open Go.RowKit

def cfl (c : Cfg) (i sd n : Int) : List Int → List Int → Bool
  | _, [] => false
  | w, x :: xs => if goneI (sWd c w x) (nWd c w x) n = true then cfl c i sd n w xs else !barI (sWd c w x) (1 - sd) i
structure CfOk (c : Cfg) (i sd : Int) (w L : List Int) : Prop where
  r : c.Right
  len : (w.length : Int) = c.len
  wf : WfW w
  i0 : 0 ≤ i
  i1 : i < c.s
  sd0 : 0 ≤ sd ∧ sd ≤ 1
  L0 : ∀ x ∈ L, 0 ≤ x
  Ll : L.length ≤ 1000
def cfFin (c : Cfg) (i sd n : Int) (w L : List Int) : Option (List Int) → Option (List Int) × Bool
  | none => (if cfl c i sd n w L = true then some (cfs c i sd n w L).1 else none, (cfs c i sd n w L).2)
  | some w' => (some (cfs c i sd n w' L).1, (cfs c i sd n w' L).2)
theorem cfs_cons (c : Cfg) (i sd n : Int) (w : List Int) (x : Int) (xs : List Int) : cfs c i sd n w (x :: xs) = if goneI (sWd c w x) (nWd c w x) n = true then cfs c i sd n w xs else if barI (sWd c w x) (1 - sd) i = true then (w, false) else cfs c i sd n (cfTwo c w i sd x) xs := rfl
theorem cfl_cons (c : Cfg) (i sd n : Int) (w : List Int) (x : Int) (xs : List Int) : cfl c i sd n w (x :: xs) = if goneI (sWd c w x) (nWd c w x) n = true then cfl c i sd n w xs else !barI (sWd c w x) (1 - sd) i := rfl
theorem cfFin_gone {c : Cfg} {i sd n : Int} {w : List Int} {o : Option (List Int)} {x : Int} {xs : List Int} (hg : goneI (sWd c (cfW w o) x) (nWd c (cfW w o) x) n = true) : cfFin c i sd n w (x :: xs) o = cfFin c i sd n w xs o := by
  cases o with
  | none =>
    replace hg : goneI (sWd c w x) (nWd c w x) n = true := hg
    show (if cfl c i sd n w (x :: xs) = true then some (cfs c i sd n w (x :: xs)).1 else none, (cfs c i sd n w (x :: xs)).2) = _
    rw [cfs_cons, cfl_cons, if_pos hg, if_pos hg]
    rfl
  | some w' =>
    replace hg : goneI (sWd c w' x) (nWd c w' x) n = true := hg
    show (some (cfs c i sd n w' (x :: xs)).1, (cfs c i sd n w' (x :: xs)).2) = _
    rw [cfs_cons, if_pos hg]
    rfl
theorem cfFin_bar {c : Cfg} {i sd n : Int} {w : List Int} {o : Option (List Int)} {x : Int} {xs : List Int} (hg : ¬ goneI (sWd c (cfW w o) x) (nWd c (cfW w o) x) n = true) (hb : barI (sWd c (cfW w o) x) (1 - sd) i = true) : cfFin c i sd n w (x :: xs) o = (o, false) := by
  cases o with
  | none =>
    replace hg : ¬ goneI (sWd c w x) (nWd c w x) n = true := hg
    replace hb : barI (sWd c w x) (1 - sd) i = true := hb
    show (if cfl c i sd n w (x :: xs) = true then some (cfs c i sd n w (x :: xs)).1 else none, (cfs c i sd n w (x :: xs)).2) = _
    rw [cfs_cons, cfl_cons, if_neg hg, if_neg hg, if_pos hb, show barI (sWd c w x) (1 - sd) i = true from hb]
    rfl
  | some w' =>
    replace hg : ¬ goneI (sWd c w' x) (nWd c w' x) n = true := hg
    replace hb : barI (sWd c w' x) (1 - sd) i = true := hb
    show (some (cfs c i sd n w' (x :: xs)).1, (cfs c i sd n w' (x :: xs)).2) = _
    rw [cfs_cons, if_neg hg, if_pos hb]
theorem cfFin_lay {c : Cfg} {i sd n : Int} {w : List Int} {o : Option (List Int)} {x : Int} {xs : List Int} (hg : ¬ goneI (sWd c (cfW w o) x) (nWd c (cfW w o) x) n = true) (hb : ¬ barI (sWd c (cfW w o) x) (1 - sd) i = true) : cfFin c i sd n w (x :: xs) o = cfFin c i sd n w xs (some (cfTwo c (cfW w o) i sd x)) := by
  cases o with
  | none =>
    replace hg : ¬ goneI (sWd c w x) (nWd c w x) n = true := hg
    replace hb : ¬ barI (sWd c w x) (1 - sd) i = true := hb
    show (if cfl c i sd n w (x :: xs) = true then some (cfs c i sd n w (x :: xs)).1 else none, (cfs c i sd n w (x :: xs)).2) = _
    have hb' : barI (sWd c w x) (1 - sd) i = false := eq_false_of_ne_true hb
    rw [cfs_cons, cfl_cons, if_neg hg, if_neg hg, if_neg hb, hb']
    rfl
  | some w' =>
    replace hg : ¬ goneI (sWd c w' x) (nWd c w' x) n = true := hg
    replace hb : ¬ barI (sWd c w' x) (1 - sd) i = true := hb
    show (some (cfs c i sd n w' (x :: xs)).1, (cfs c i sd n w' (x :: xs)).2) = _
    rw [cfs_cons, if_neg hg, if_neg hb]
    rfl
theorem cfl_none {c : Cfg} {i sd n : Int} : ∀ (L w : List Int), cfl c i sd n w L = false → (cfs c i sd n w L).1 = w
  | [], _, _ => rfl
  | x :: xs, w, h => by
    unfold cfl at h
    unfold cfs
    split
    · rename_i hg
      rw [if_pos hg] at h
      exact cfl_none xs w h
    · rename_i hg
      rw [if_neg hg] at h
      rw [if_pos (by simpa using h)]
def cfVe (n : Nat) : Option (List Int) → Value
  | none => cfS n 0 1
  | some _ => cfS n 4 5
def cfHo (w L : List Int) : Option (List Int) → Hp
  | none => cfHp w L
  | some w' => cfHpB w L w'
theorem iI_eq (x : Int) : iI x = x.toNat := by unfold iI; rw [addN_eq, mulN_eq]; omega
theorem xI_eq (L : List Int) (k : Nat) : xI L k = L.getD k 0 := by unfold xI; rw [addN_eq, mulN_eq]; simp
theorem sI_eq {c : Cfg} {w : List Int} {kd x : Int} (h : 0 ≤ cellIx c kd x) : sI c w kd x = getW w (cellIx c kd x) := by unfold sI; rw [iI_eq, getW_in h]
theorem q1_eq {c : Cfg} {N : Nat} {w L : List Int} {i sd : Int} {k : Nat} (hN : N = w.length) (hsd : 0 ≤ sd ∧ sd ≤ 1) (h : 0 ≤ cellIx c 4 (xI L k)) : q1 c N w L i sd k = putS c w (xI L k) (withI (sWd c w (xI L k)) (1 - sd) i) := by
  unfold q1 putS
  rw [hN, List.take_length, setW_in h, iI_eq, sI_eq h, w64_in (by omega) (by omega)]
  rfl
theorem q2_eq {c : Cfg} {N : Nat} {w L : List Int} {i sd : Int} {k : Nat} (hN : N = w.length) (hsd : 0 ≤ sd ∧ sd ≤ 1) (h : 0 ≤ cellIx c 4 (xI L k)) (hi : 0 ≤ cellIx c 4 i) : q2 c N w L i sd k = cfTwo c w i sd (xI L k) := by
  unfold q2
  rw [q1_eq hN hsd h, show N = (putS c w (xI L k) (withI (sWd c w (xI L k)) (1 - sd) i)).length by rw [putS_len]; exact hN, List.take_length, iI_eq]
  unfold cfTwo
  show _ = setW _ _ _
  rw [setW_in hi]
  show _ = List.set _ _ (withI (getW _ _) _ _)
  rw [getW_in hi]
theorem cfTwo_len (c : Cfg) (w : List Int) (i sd x : Int) : (cfTwo c w i sd x).length = w.length := by
  unfold cfTwo
  rw [putS_len, putS_len]
theorem cfTwo_wf {c : Cfg} {w : List Int} (h : WfW w) (i sd x : Int) : WfW (cfTwo c w i sd x) := by
  unfold cfTwo
  have h1 := h.putS (c := c) x (withI_rng (h.sWd (c := c) x) (1 - sd) i)
  exact h1.putS i (withI_rng (h1.sWd i) sd x)
theorem aQ_ok {c : Cfg} {N : Nat} {w : List Int} {kd x : Int} (hr : c.Right) (hl : (w.length : Int) = c.len) (hN : N = w.length) (h0 : 0 ≤ cellIx c kd x) (h1 : cellIx c kd x < c.len) : ∀ p ∈ aQ c N w kd x, p :=
  pcs_of ⟨hr, h0, by omega, by rw [iI_eq]; omega, trivial⟩
theorem pQ_ok {c : Cfg} {N : Nat} {a b : List Int} {x : Int} (hr : c.Right) (ha : (a.length : Int) = c.len) (hb : b.length = a.length) (hN : N = a.length) (h0 : 0 ≤ cellIx c 4 x) (h1 : cellIx c 4 x < c.len) : ∀ p ∈ pQ c N a b x, p := by
  have := Cfg.len_in hr
  exact pcs_of ⟨by omega, rfl, by omega, by omega, hr, h0, by omega, by rw [iI_eq]; omega, trivial⟩
theorem rangeD (m j : Nat) (h : j < m) : (List.range m).getD j 0 = j := by simp [h]
theorem zNs (o : Option (List Int)) : ∀ k, k < 4 → (List.range (cfNx o)).getD k 0 = k := fun k hk => rangeD _ _ (by cases o <;> simp only [cfNx] <;> omega)
theorem cfz5 (a b : Nat) : ∀ k, k < 4 → ([0, 1, 2, 3, 4, a, b] : List Nat).getD k 0 = k := fun k hk => by
  match k, hk with
  | 0, _ => rfl
  | 1, _ => rfl
  | 2, _ => rfl
  | 3, _ => rfl
theorem z4' : ∀ k, k < 4 → ([0, 1, 2, 3, 4] : List Nat).getD k 0 = k := fun k hk => by
  match k, hk with
  | 0, _ => rfl
  | 1, _ => rfl
  | 2, _ => rfl
  | 3, _ => rfl
theorem z4b : ∀ k, k < 4 → ([0, 1, 2, 3] : List Nat).getD k 0 = k := fun k hk => by
  match k, hk with
  | 0, _ => rfl
  | 1, _ => rfl
  | 2, _ => rfl
  | 3, _ => rfl
theorem z4c : ∀ k, k < 4 → ([0, 1, 2, 3, 5, 6] : List Nat).getD k 0 = k := fun k hk => by
  match k, hk with
  | 0, _ => rfl
  | 1, _ => rfl
  | 2, _ => rfl
  | 3, _ => rfl
/-- Which of the ways to be let in. -/
theorem bar_way {s i sd : Int} (hs : Wd s) (hsd : 0 ≤ sd ∧ sd ≤ 1) (hb : barI s (1 - sd) i = false) : ∃ j, j < 3 ∧ ∀ p ∈ bQ s i sd j, p := by
  have e1 : w64 (1 - sd) = 1 - sd := w64_in (by omega) (by omega)
  have e2 : w64 (1 - (1 - sd)) = sd := by rw [show 1 - (1 - sd) = sd by omega, w64_in (by omega) (by omega)]
  unfold barI at hb
  rw [e2] at hb
  cases h1 : hasI s (1 - sd) i with
  | true => exact ⟨0, by decide, pcs_of ⟨hs, by rw [e1, h1]; rfl, trivial⟩⟩
  | false =>
    cases h2 : (nuI s 27 3 != 2) with
    | false => exact ⟨1, by decide, pcs_of ⟨hs, by rw [e1, h1]; rfl, hs, h2, trivial⟩⟩
    | true =>
      rw [h1, h2] at hb
      exact ⟨2, by decide, pcs_of ⟨hs, by rw [e1, h1]; rfl, hs, h2, hs, by simpa using hb, trivial⟩⟩
theorem bar_yes {s i sd : Int} (hs : Wd s) (hsd : 0 ≤ sd ∧ sd ≤ 1) (hb : barI s (1 - sd) i = true) : ∀ p ∈ bQ s i sd 3, p := by
  have e1 : w64 (1 - sd) = 1 - sd := w64_in (by omega) (by omega)
  have e2 : w64 (1 - (1 - sd)) = sd := by rw [show 1 - (1 - sd) = sd by omega, w64_in (by omega) (by omega)]
  unfold barI at hb
  rw [e2, Bool.and_eq_true, Bool.and_eq_true] at hb
  exact pcs_of ⟨hs, by rw [e1]; exact hb.1, hs, hb.2.1, hs, hb.2.2, trivial⟩
theorem nWd_bnd {c : Cfg} (hr : c.Right) {x : Int} (h0 : 0 ≤ x) (h1 : x < c.s) : 0 ≤ cellIx c 6 x ∧ cellIx c 6 x < c.len := ix_slot_rng hr (.inr (.inr (.inl rfl))) h0 h1
/-- What ends it. -/
theorem cf_ends (c : Cfg) (w L : List Int) (N : Nat) (b : Bool) (o : Option (List Int)) : Ev.Ends Ec0 cfFn 4 (cfT (cfVe N o) b) (cfHo w L o) .ret (cfE c N w L o b) := by
  cases o with
  | none => exact ⟨by simp, [cfS N 0 1, .bool b], [], [0, 1, 2, 3], 4, by kernel_rfl, by simp, by kernel_rfl, rfl, z4b⟩
  | some w' => exact ⟨by simp, [cfS N 5 6, .bool b], [], [0, 1, 2, 3, 5, 6], 4, by kernel_rfl, by simp, by kernel_rfl, rfl, z4c⟩
open Dec in
theorem cf_C {c : Cfg} {i sd : Int} {w L : List Int} (h : CfOk c i sd w L) {N : Nat} (hN : N = w.length) {fo : Option (List Int)} {b : Bool} (hf : cfFin c i sd (snWd c w i) w L none = (fo, b)) :
    CallC Tryz.prog cfF (cfArgs c N i sd (cfS L.length 2 3)) (cfHp w L) (cfT (cfVe N fo) b) (cfHo w L fo) := by
  obtain ⟨hr, hl, hwf, i0, i1, hsd, hL0, hLl⟩ := h
  have b4 := ix_slot_rng hr (k := 4) (.inl rfl) i0 i1
  have b5 := ix_slot_rng hr (k := 5) (.inr (.inl rfl)) i0 i1
  refine CallC.of_body (E := Ec0) (ds := []) (fn := cfFn) 77 (by kernel_rfl) (by kernel_rfl) (by kernel_rfl) (by kernel_rfl) ?_
  refine KC.of_exec (fr := ⟨cfArgs c N i sd (cfS L.length 2 3) ++ List.replicate 77 undef, cfHp w L, [], []⟩) Ec0ok (cf_in c N w L i sd []) (aQ_ok hr hl hN b5.1 b5.2) (Nat.le_refl _) z4' ?_
  rw [sI_eq b5.1]
  show KC Ec0 4 .normal _ (cfFr c N w L none i sd (snWd c w i) ((0 : Nat) : Int) []) _
  refine KC.loop (m0 := 4) (ι := Nat × Option (List Int)) (fun x => cfFr c N w L x.2 i sd (snWd c w i) (x.1 : Int) []) (fun x => x.1 ≤ L.length ∧ (cfW w x.2).length = w.length ∧ WfW (cfW w x.2) ∧ cfFin c i sd (snWd c w i) w (L.drop x.1) x.2 = (fo, b)) (fun x => L.length - x.1)
    (fun ex fr => (ex = .exit 0 ∧ fr = cfX c N w L fo [] ∧ b = true) ∨ (ex = .ret ∧ fr = cfE c N w L fo b)) (fun x hx => ?_) ?_ (0, none) ⟨Nat.zero_le _, rfl, hwf, hf⟩
  · obtain ⟨k, o⟩ := x
    obtain ⟨hk, hlo, hwo, hfo⟩ := hx
    simp only at hk hlo hwo hfo ⊢
    have hnx : 4 ≤ cfNx o := by cases o <;> simp [cfNx]
    generalize hn : snWd c w i = n at *
    by_cases hlt : k < L.length
    · have hd : decide ((k : Int) < (L.length : Int)) = true := decide_eq_true (by omega)
      have hh : ∀ p ∈ hQ L k, p := pcs_of ⟨hd, by omega, by omega, by rw [addN_eq, mulN_eq]; omega, trivial⟩
      have hdr : L.drop k = xI L k :: L.drop (k + 1) := by
        rw [List.drop_eq_getElem_cons hlt, xI_eq, List.getD_eq_getElem?_getD, List.getElem?_eq_getElem hlt]
        rfl
      have hx0 : 0 ≤ xI L k := hL0 _ (by
        have : xI L k ∈ L.drop k := by rw [hdr]; exact List.mem_cons_self
        exact List.mem_of_mem_drop this)
      rw [hdr] at hfo
      have hnext : (k : Int) + 1 = ((k + 1 : Nat) : Int) := by omega
      have hw : w64 ((k : Int) + 1) = ((k + 1 : Nat) : Int) := by rw [w64_in (by omega) (by omega)]; exact hnext
      have hlw : ((cfW w o).length : Int) = c.len := by rw [hlo]; exact hl
      have hNo : N = (cfW w o).length := by rw [hlo]; exact hN
      generalize hx : xI L k = x at *
      by_cases hov : x ≥ c.s
      · refine CodeC.of_run (fr := cfFr c N w L o i sd n (k : Int) [t, t]) Ec0ok (cf_over c N w L i sd n k [] o) (pcs_app hh (pcs_of ⟨by rw [hx]; exact decide_eq_true hov, trivial⟩)) hnx (zNs o) (.inl ⟨rfl, (k + 1, o), by rw [hw], ⟨hlt, hlo, hwo, ?_⟩, by simp only; omega⟩)
        exact (cfFin_gone (gone_over hov)).symm.trans hfo
      · have hxs : x < c.s := by omega
        have c4 := ix_slot_rng hr (k := 4) (.inl rfl) hx0 hxs
        have c6 := nWd_bnd hr hx0 hxs
        have e4 : sI c (cfW w o) 4 x = sWd c (cfW w o) x := sI_eq c4.1
        have e6 : sI c (cfW w o) 6 x = nWd c (cfW w o) x := sI_eq c6.1
        have hws : Wd (sWd c (cfW w o) x) := hwo.sWd x
        have hgq : ∀ g, goneI (sWd c (cfW w o) x) (nWd c (cfW w o) x) n = g → ∀ p ∈ gQ c N (cfW w o) L n k g, p := fun g hg => by
          unfold gQ
          rw [hx]
          exact pcs_app hh (List.forall_mem_cons.2 ⟨decide_eq_false hov, pcs_app (aQ_ok hr hlw hNo c4.1 c4.2) (pcs_app (aQ_ok hr hlw hNo c6.1 c6.2) (pcs_of ⟨by rw [e4]; exact hws, by rw [e4, e6]; exact hg, trivial⟩))⟩)
        cases hg : goneI (sWd c (cfW w o) x) (nWd c (cfW w o) x) n with
        | true =>
          refine CodeC.of_run (fr := cfFr c N w L o i sd n (k : Int) [t, f, t]) Ec0ok (cf_gone c N w L i sd n k [] o) (hgq true hg) hnx (zNs o) (.inl ⟨rfl, (k + 1, o), by rw [hw], ⟨hlt, hlo, hwo, ?_⟩, by simp only; omega⟩)
          exact (cfFin_gone hg).symm.trans hfo
        | false =>
          have hgn : ¬ goneI (sWd c (cfW w o) x) (nWd c (cfW w o) x) n = true := by rw [hg]; decide
          cases hb : barI (sWd c (cfW w o) x) (1 - sd) i with
          | true =>
            have hfin : (fo, b) = (o, false) := hfo.symm.trans (cfFin_bar hgn hb)
            simp only [Prod.mk.injEq] at hfin
            obtain ⟨rfl, rfl⟩ := hfin
            exact CodeC.of_run (fr := cfFr c N w L fo i sd n (k : Int) (t :: f :: f :: bDs 3)) Ec0ok (cf_bar c N w L i sd n k fo) (pcs_app (hgq false hg) (by rw [hx, e4]; exact bar_yes hws hsd hb)) hnx (zNs fo) (.inr ⟨by simp, .inr ⟨rfl, rfl⟩⟩)
          | false =>
            obtain ⟨j, hj, hjq⟩ := bar_way hws hsd hb
            have hbn : ¬ barI (sWd c (cfW w o) x) (1 - sd) i = true := by rw [hb]; decide
            have eq1 : q1 c N (cfW w o) L i sd k = putS c (cfW w o) x (withI (sWd c (cfW w o) x) (1 - sd) i) := by
              rw [q1_eq hNo hsd (by rw [hx]; exact c4.1), hx]
            have eq2 : q2 c N (cfW w o) L i sd k = cfTwo c (cfW w o) i sd x := by
              rw [q2_eq hNo hsd (by rw [hx]; exact c4.1) b4.1, hx]
            have hw1 : WfW (putS c (cfW w o) x (withI (sWd c (cfW w o) x) (1 - sd) i)) := hwo.putS x (withI_rng hws _ _)
            have hl1 : ((putS c (cfW w o) x (withI (sWd c (cfW w o) x) (1 - sd) i)).length : Int) = c.len := by rw [putS_len]; exact hlw
            have hN1 : N = (putS c (cfW w o) x (withI (sWd c (cfW w o) x) (1 - sd) i)).length := by rw [putS_len]; exact hNo
            have hlq : ∀ p ∈ lQ c N (cfW w o) L i sd k, p := by
              unfold lQ
              rw [eq1, hx, e4]
              refine List.forall_mem_cons.2 ⟨hws, pcs_app (pQ_ok hr hlw (by rw [List.length_take]; omega) hNo c4.1 c4.2) (pcs_app (aQ_ok hr hl1 hN1 b4.1 b4.2) (List.forall_mem_cons.2 ⟨?_, pQ_ok hr hl1 (by rw [List.length_take]; omega) hN1 b4.1 b4.2⟩))⟩
              have := hw1.sWd (c := c) i
              unfold sWd at this
              rw [getW_in b4.1] at this
              rw [iI_eq]
              exact this
            have hall := pcs_app (hgq false hg) (pcs_app (show ∀ p ∈ bQ (sI c (cfW w o) 4 (xI L k)) i sd j, p by rw [hx, e4]; exact hjq) hlq)
            have hstep : cfFin c i sd n w (L.drop (k + 1)) (some (cfTwo c (cfW w o) i sd x)) = (fo, b) := (cfFin_lay hgn hbn).symm.trans hfo
            have hinv : (cfTwo c (cfW w o) i sd x).length = w.length ∧ WfW (cfTwo c (cfW w o) i sd x) := ⟨by rw [cfTwo_len]; exact hlo, cfTwo_wf hwo i sd x⟩
            cases o with
            | none => exact CodeC.of_run (fr := cfFr c N w L none i sd n (k : Int) (t :: f :: f :: bDs j)) Ec0ok (cf_layA c N w L i sd n k [] j hj) hall hnx (cfz5 _ _) (.inl ⟨rfl, (k + 1, some (cfTwo c w i sd x)), by rw [hw, show q2 c N w L i sd k = cfTwo c w i sd x from eq2], ⟨hlt, hinv.1, hinv.2, hstep⟩, by simp only; omega⟩)
            | some w' => exact CodeC.of_run (fr := cfFr c N w L (some w') i sd n (k : Int) (t :: f :: f :: bDs j)) Ec0ok (cf_layB c N w L w' i sd n k [] j hj) hall hnx (cfz5 _ _) (.inl ⟨rfl, (k + 1, some (cfTwo c w' i sd x)), by rw [hw, show q2 c N w' L i sd k = cfTwo c w' i sd x from eq2], ⟨hlt, hinv.1, hinv.2, hstep⟩, by simp only; omega⟩)
    · have e : k = L.length := by omega
      subst e
      rw [List.drop_length] at hfo
      have hfin : (fo, b) = (o, true) := by
        rw [← hfo]
        cases o <;> rfl
      simp only [Prod.mk.injEq] at hfin
      obtain ⟨rfl, rfl⟩ := hfin
      exact CodeC.of_run (fr := cfFr c N w L fo i sd n (L.length : Int) [f]) Ec0ok (cf_end c N w L i sd n L.length fo) (pcs_of ⟨decide_eq_false (by omega), trivial⟩) hnx (zNs fo) (.inr ⟨by simp, .inl ⟨rfl, rfl, rfl⟩⟩)
  · have hnx : 4 ≤ cfNx fo := by cases fo <;> simp [cfNx]
    rintro ex fr (⟨rfl, rfl, rfl⟩ | ⟨rfl, rfl⟩)
    · exact KC.of_exec Ec0ok (cf_out c N w L fo) (pcs_of trivial) hnx (zNs fo) (KC.done (cf_ends c w L N true fo))
    · exact KC.of_exec Ec0ok (cf_ret c N w L fo b) (pcs_of trivial) hnx (zNs fo) (KC.done (cf_ends c w L N b fo))
end Go.Proofs.YtocfhiafegkfkaaGreat.Ct
namespace Go.Proofs.YtocfhiafegkfkaaGreat.Ct
open Go Go.Proofs Go.Proofs.YtocfhiafegkfkaaGreat.Ev
open Go.RowKit

abbrev brF : FuncId := 24
def brI (c : Cfg) (w : List Int) (h : Int) : Int := if ofOk h c.s = true then fltI (sWd c w (tkS h)) h [2] else 2
def brArgs (c : Cfg) (n off cap : Nat) (h : Int) : List Value := [c.v, .slice (some ⟨0, off, none⟩) n cap, .int .u64 h]
def brHp (w : List Int) (off : Nat) : Hp := ⟨[(0, .view off (.ints .u64 w u64T))], 1, []⟩
abbrev oI (off : Nat) (x : Int) : Nat := addN off (mulN x.toNat 1) - off
abbrev brS (c : Cfg) (h : Int) : Int := if ofOk h c.s = true then tkS h else 0
abbrev brG (c : Cfg) (h : Int) : Int := if ofOk h c.s = true then tkG h else 0
abbrev brW (c : Cfg) (w : List Int) (off : Nat) (h : Int) : Int := w.getD (oI off (cellIx c 4 (brS c h))) 0
def brQ (c : Cfg) (w : List Int) (off : Nat) (h : Int) : List Prop := [Wd h, (!ofOk h c.s) = false, c.Right, 0 ≤ cellIx c 4 (brS c h), cellIx c 4 (brS c h) < (w.length : Int), off ≤ addN off (mulN (cellIx c 4 (brS c h)).toNat 1), oI off (cellIx c 4 (brS c h)) < w.length, Wd (brW c w off h)]
open Dec in
section
variable (c : Cfg) (w : List Int) (off cap : Nat) (h : Int)
theorem br_no : callR Em3 12 brF (brArgs c w.length off cap h) (brHp w off) [t] [0] = some (.int .i64 2, brHp w off, [Wd h, (!ofOk h c.s) = true]) := by kernel_rfl
theorem br_g : callR Em3 12 brF (brArgs c w.length off cap h) (brHp w off) [f, t, l] [0] = some (.int .i64 2, brHp w off, brQ c w off h ++ [(nuI (brW c w off h) 30 32 != brG c h) = true]) := by kernel_rfl
theorem br_s : callR Em3 12 brF (brArgs c w.length off cap h) (brHp w off) [f, f, t] [0] = some (.int .i64 2, brHp w off, brQ c w off h ++ [(nuI (brW c w off h) 30 32 != brG c h) = false, Wd (brW c w off h), decide (nuI (brW c w off h) 27 3 < 2) = true]) := by kernel_rfl
theorem br_b : callR Em3 12 brF (brArgs c w.length off cap h) (brHp w off) [f, f, f, t] [0] = some (.int .i64 3, brHp w off, brQ c w off h ++ [(nuI (brW c w off h) 30 32 != brG c h) = false, Wd (brW c w off h), decide (nuI (brW c w off h) 27 3 < 2) = false, Wd (brW c w off h), bitI (brW c w off h) 26 = true]) := by kernel_rfl
theorem br_n : callR Em3 12 brF (brArgs c w.length off cap h) (brHp w off) [f, f, f, f, t] [0] = some (.int .i64 4, brHp w off, brQ c w off h ++ [(nuI (brW c w off h) 30 32 != brG c h) = false, Wd (brW c w off h), decide (nuI (brW c w off h) 27 3 < 2) = false, Wd (brW c w off h), bitI (brW c w off h) 26 = false, Wd (brW c w off h), (nuI (brW c w off h) 27 3 != 2) = true]) := by kernel_rfl
theorem br_o : callR Em3 12 brF (brArgs c w.length off cap h) (brHp w off) [f, f, f, f, f] [0] = some (.int .i64 0, brHp w off, brQ c w off h ++ [(nuI (brW c w off h) 30 32 != brG c h) = false, Wd (brW c w off h), decide (nuI (brW c w off h) 27 3 < 2) = false, Wd (brW c w off h), bitI (brW c w off h) 26 = false, Wd (brW c w off h), (nuI (brW c w off h) 27 3 != 2) = false]) := by kernel_rfl
end
theorem z1b : ∀ k, k < 1 → ([0] : List Nat).getD k 0 = k := fun k hk => by
  match k, hk with
  | 0, _ => rfl
theorem ofOk_in {h s : Int} (ho : ofOk h s = true) : 0 ≤ tkS h ∧ tkS h < s := by
  unfold ofOk at ho
  simp only [Bool.and_eq_true, decide_eq_true_eq] at ho
  obtain ⟨⟨h1, h2⟩, _⟩ := ho
  have h3 := tkOk_iff.1 h1
  unfold tkS at h2 ⊢
  rw [if_pos h1] at h2 ⊢
  omega
theorem br_C {c : Cfg} {w : List Int} {h : Int} (off cap : Nat) (hr : c.Right) (hl : (w.length : Int) = c.len) (hw : WfW w) (hh : Wd h) : CallC Tryz.prog brF (brArgs c w.length off cap h) (brHp w off) (.int .i64 (brI c w h)) (brHp w off) := by
  unfold brI
  cases ho : ofOk h c.s with
  | false =>
    rw [if_neg (by decide)]
    exact CallC.of_call Em3ok (br_no c w off cap h) (pcs_of ⟨hh, by rw [ho]; rfl, trivial⟩) rfl z1b
  | true =>
    rw [if_pos rfl]
    obtain ⟨i0, i1⟩ := ofOk_in ho
    have b4 := ix_slot_rng hr (k := 4) (.inl rfl) i0 i1
    have eS : brS c h = tkS h := if_pos ho
    have eG : brG c h = tkG h := if_pos ho
    have eW : brW c w off h = sWd c w (tkS h) := by
      unfold brW oI sWd
      rw [eS, addN_eq, mulN_eq, getW_in b4.1]
      congr 1
      omega
    have hs : Wd (sWd c w (tkS h)) := hw.sWd _
    have hq : ∀ p ∈ brQ c w off h, p := by
      unfold brQ
      rw [eW, eS]
      exact pcs_of ⟨hh, by rw [ho]; rfl, hr, b4.1, by omega, by rw [addN_eq]; omega, by unfold oI; rw [addN_eq, mulN_eq]; omega, hs, trivial⟩
    have hn := nuI_rng (w := sWd c w (tkS h)) (a := 27) (b := 3) (by omega)
    generalize hsw : sWd c w (tkS h) = s at *
    unfold fltI
    cases h1 : (nuI s 30 32 != tkG h) with
    | true =>
      rw [if_pos rfl]
      exact CallC.of_call Em3ok (br_g c w off cap h) (pcs_app hq (pcs_of ⟨by rw [eW, eG]; exact h1, trivial⟩)) rfl z1b
    | false =>
      rw [if_neg (by decide)]
      by_cases h2 : nuI s 27 3 < 2
      · have e : (if (nuI s 27 3 == 0) = true then (2 : Int) else if (nuI s 27 3 == 1) = true then 2 else if bitI s 26 = true then 3 else if inB [2] (nuI s 27 3) = true then 0 else 4) = 2 := by
          rcases (show nuI s 27 3 = 0 ∨ nuI s 27 3 = 1 by omega) with e | e <;> rw [e] <;> rfl
        rw [e]
        exact CallC.of_call Em3ok (br_s c w off cap h) (pcs_app hq (pcs_of ⟨by rw [eW, eG]; exact h1, by rw [eW]; exact hs, by rw [eW]; exact decide_eq_true h2, trivial⟩)) rfl z1b
      · rw [show (nuI s 27 3 == 0) = false from beq_false_of_ne (by omega), show (nuI s 27 3 == 1) = false from beq_false_of_ne (by omega), if_neg (by decide), if_neg (by decide)]
        cases h3 : bitI s 26 with
        | true =>
          rw [if_pos rfl]
          exact CallC.of_call Em3ok (br_b c w off cap h) (pcs_app hq (pcs_of ⟨by rw [eW, eG]; exact h1, by rw [eW]; exact hs, by rw [eW]; exact decide_eq_false h2, by rw [eW]; exact hs, by rw [eW]; exact h3, trivial⟩)) rfl z1b
        | false =>
          rw [if_neg (by decide)]
          by_cases h4 : nuI s 27 3 = 2
          · rw [h4, show inB [2] (2 : Int) = true from rfl, if_pos rfl]
            exact CallC.of_call Em3ok (br_o c w off cap h) (pcs_app hq (pcs_of ⟨by rw [eW, eG]; exact h1, by rw [eW]; exact hs, by rw [eW]; exact decide_eq_false h2, by rw [eW]; exact hs, by rw [eW]; exact h3, by rw [eW]; exact hs, by rw [eW, h4]; rfl, trivial⟩)) rfl z1b
          · have e : inB [2] (nuI s 27 3) = false := by
              unfold inB
              simp [h4]
            rw [e, if_neg (by decide)]
            exact CallC.of_call Em3ok (br_n c w off cap h) (pcs_app hq (pcs_of ⟨by rw [eW, eG]; exact h1, by rw [eW]; exact hs, by rw [eW]; exact decide_eq_false h2, by rw [eW]; exact hs, by rw [eW]; exact h3, by rw [eW]; exact hs, by rw [eW]; exact bne_iff_ne.2 h4, trivial⟩)) rfl z1b
def gBr (args : List Value) (hp : Hp) : Option (Value × Hp × List Prop) :=
  match args with
  | [cv, .slice (some ⟨na, oa, sa⟩) n1 _, .int .u64 h] => bif !(spOk sa oa) then none else match cfgOf cv, hp.get na with
    | some c, some ba => match rowI oa ba with
      | some (.u64, la, qa) => some (.int .i64 (brI c la h), hp, [qa, n1 = la.length, c.Right ∧ (la.length : Int) = c.len ∧ WfW la ∧ Wd h])
      | _ => none
    | _, _ => none
  | _ => none
theorem gBr_ok : ∀ args hp v hp' pc, gBr args hp = some (v, hp', pc) → ∀ ds, CallOk Tryz.prog brF args hp ⟨v, hp', ds, pc⟩ := by
  intro args hp v hp' pc hg ds
  unfold gBr at hg
  split at hg
  · rename_i cv na oa sa n1 c1 h
    cases hsp : spOk sa oa
    · simp [hsp] at hg
    simp only [hsp, Bool.not_true, cond_false] at hg
    split at hg
    · rename_i c ba hc hba
      split at hg
      · rename_i la qa hra
        simp only [Option.some.injEq, Prod.mk.injEq] at hg
        obtain ⟨rfl, rfl, rfl⟩ := hg
        obtain rfl := cfgOf_some hc
        refine reads_ok (enters (fn := Tryz.f24) (by kernel_rfl) (by kernel_rfl) rfl) rfl [na] (fun hpc S ρ cargs hargs => ?_) ds
        have q1 : qa := hpc _ (by simp)
        have h1 : n1 = la.length := hpc _ (by simp)
        obtain ⟨hr, hl, hw, hh⟩ : c.Right ∧ (la.length : Int) = c.len ∧ WfW la ∧ Wd h := hpc _ (by simp)
        obtain ⟨u1, r1, rfl, hu1, hr1⟩ := hargs.cons
        obtain ⟨u2, r2, rfl, hu2, hr2⟩ := hr1.cons
        obtain ⟨u3, r3, rfl, hu3, hr3⟩ := hr2.cons
        obtain rfl := hr3.nil
        obtain ⟨k2, rfl⟩ := slice_of hu2 hsp
        subst h1
        refine ⟨_, _, _, br_C (c := c) (w := la) (h := h) oa k2 hr hl hw hh, ?_, ?_, fun n b hb => ?_⟩
        · rw [hu1.self, hu3.self, show ren ρ c.v = c.v from rfl]
          rfl
        · intro k hk
          have hk' : k ∈ [0] := hk
          rw [List.mem_singleton.1 hk']
          exact Nat.zero_lt_succ _
        · simp only [brHp, Hp.get, lookB] at hb
          cases h0 : Nat.beq 0 n
          · simp [h0] at hb
          · simp only [h0, cond_true, Option.some.injEq] at hb
            have := beq_nat h0
            subst this
            subst hb
            refine ⟨Nat.zero_lt_succ _, rfl, ba, hba, Blk.pres_row hra, fun ρ' o hs ρ'' => ?_⟩
            have := rowI_view (ty := u64T) hra q1 la.length hs ρ''
            rw [List.take_length] at this
            exact this
      · cases hg
    · cases hg
  · cases hg
end Go.Proofs.YtocfhiafegkfkaaGreat.Ct
namespace Go.Proofs.YtocfhiafegkfkaaGreat.Ct
open Go Go.Proofs Go.Proofs.YtocfhiafegkfkaaGreat.Ev
open Go.RowKit

theorem hentCf : Enters Tryz.prog cfF := enters (fn := Tryz.f31) (by kernel_rfl) (by kernel_rfl) rfl
/-- A row of words of one's own. -/
def ownW (hp : Hp) (a a1 : Nat) : Option (List Int) :=
  match hp.get a with
  | some (.own (.ints .u64 w ty) k) => bif Nat.beq k a1 && Nat.beq ty u64T then some w else none
  | _ => none
def ownR (hp : Hp) (a a1 : Nat) : Option (List Int) :=
  match hp.get a with
  | some (.own (.ints .i64 w ty) k) => bif Nat.beq k a1 && Nat.beq ty intT then some w else none
  | _ => none
theorem ownW_some {hp : Hp} {a a1 : Nat} {w : List Int} (h : ownW hp a a1 = some w) : hp.get a = some (.own (.ints .u64 w u64T) a1) := by
  unfold ownW at h
  split at h
  · rename_i w' ty k hk
    cases hc : (Nat.beq k a1 && Nat.beq ty u64T)
    · simp [hc] at h
    · simp only [hc, cond_true, Option.some.injEq] at h
      rw [Bool.and_eq_true] at hc
      rw [hk, h, beq_nat hc.1, beq_nat hc.2]
  · cases h
theorem ownR_some {hp : Hp} {a a1 : Nat} {w : List Int} (h : ownR hp a a1 = some w) : hp.get a = some (.own (.ints .i64 w intT) a1) := by
  unfold ownR at h
  split at h
  · rename_i w' ty k hk
    cases hc : (Nat.beq k a1 && Nat.beq ty intT)
    · simp [hc] at h
    · simp only [hc, cond_true, Option.some.injEq] at h
      rw [Bool.and_eq_true] at hc
      rw [hk, h, beq_nat hc.1, beq_nat hc.2]
  · cases h
open Dec in
theorem cf0_nil {c : Cfg} {i sd : Int} {w : List Int} (h : CfOk c i sd w []) {N : Nat} (hN : N = w.length) : CallC Tryz.prog cfF (cfArgs c N i sd (.slice none 0 0)) ⟨[(0, .own (.ints .u64 w u64T) 1)], 2, []⟩ (cfT (cfS N 0 1) true) ⟨[(0, .own (.ints .u64 w u64T) 1)], 2, []⟩ := by
  have b5 := ix_slot_rng h.r (k := 5) (.inr (.inl rfl)) h.i0 h.i1
  exact CallC.of_call Ec0ok (cf_nil c N w i sd) (aQ_ok h.r h.len hN b5.1 b5.2) rfl (fun k hk => by
    have hk' : k < 2 := hk
    match k, hk' with
    | 0, _ => rfl
    | 1, _ => rfl)
theorem cf0_C {c : Cfg} {i sd : Int} {w L : List Int} (h : CfOk c i sd w L) {N : Nat} (hN : N = w.length) (hf : cfl c i sd (snWd c w i) w L = false) :
    CallC Tryz.prog cfF (cfArgs c N i sd (cfS L.length 2 3)) (cfHp w L) (cfT (cfS N 0 1) (cfs c i sd (snWd c w i) w L).2) (cfHp w L) :=
  cf_C (fo := none) h hN (by unfold cfFin; rw [if_neg (by rw [hf]; decide)])
theorem cf1_C {c : Cfg} {i sd : Int} {w L : List Int} (h : CfOk c i sd w L) {N : Nat} (hN : N = w.length) (hf : cfl c i sd (snWd c w i) w L = true) :
    CallC Tryz.prog cfF (cfArgs c N i sd (cfS L.length 2 3)) (cfHp w L) (cfT (cfS N 4 5) (cfs c i sd (snWd c w i) w L).2) (cfHpB w L (cfs c i sd (snWd c w i) w L).1) :=
  cf_C (fo := some (cfs c i sd (snWd c w i) w L).1) h hN (by unfold cfFin; rw [if_pos hf])
def gC0 (args : List Value) (hp : Hp) : Option (Value × Hp × List Prop) :=
  match args with
  | [cv, .slice (some ⟨a, 0, some a1⟩) n 0, .int .i64 i, .int .i64 sd, .slice none 0 0] => match cfgOf cv, ownW hp a a1 with
    | some c, some w => bif nodupB [a, a1] then some (cfT (cfS n a a1) true, hp, [n = w.length, CfOk c i sd w []]) else none
    | _, _ => none
  | [cv, .slice (some ⟨a, 0, some a1⟩) n 0, .int .i64 i, .int .i64 sd, .slice (some ⟨b, 0, some b1⟩) m 0] => match cfgOf cv, ownW hp a a1, ownR hp b b1 with
    | some c, some w, some L => bif nodupB [a, a1, b, b1] then some (cfT (cfS n a a1) (cfs c i sd (snWd c w i) w L).2, hp, [n = w.length, m = L.length, CfOk c i sd w L, cfl c i sd (snWd c w i) w L = false]) else none
    | _, _, _ => none
  | _ => none
def gC1 (args : List Value) (hp : Hp) : Option (Value × Hp × List Prop) :=
  match args with
  | [cv, .slice (some ⟨a, 0, some a1⟩) n 0, .int .i64 i, .int .i64 sd, .slice (some ⟨b, 0, some b1⟩) m 0] => match cfgOf cv, ownW hp a a1, ownR hp b b1 with
    | some c, some w, some L => bif nodupB [a, a1, b, b1] then some (cfT (cfS n hp.next (hp.next + 1)) (cfs c i sd (snWd c w i) w L).2, ⟨(hp.next, .own (.ints .u64 (cfs c i sd (snWd c w i) w L).1 u64T) (hp.next + 1)) :: delB [hp.next] hp.blks, hp.next + 2, hp.log⟩, [n = w.length, m = L.length, CfOk c i sd w L, cfl c i sd (snWd c w i) w L = true]) else none
    | _, _, _ => none
  | _ => none
theorem tellCf (c : Cfg) (N m : Nat) (i sd : Int) (w L : List Int) : allLt 4 (tellers (cfArgs c N i sd (cfS m 2 3)) (cfHp w L)) = true ∧ allHas (tellers (cfArgs c N i sd (cfS m 2 3)) (cfHp w L)) (upTo 4) = true := by
  constructor <;> simp [tellers, nmL, nm, nmA, cfArgs, cfHp, cfS, Cfg.v, Cfg.cells, tellers.tellB, allLt, allHas, has, upTo, Blk.nm, Nat.blt, Nat.beq]
theorem tellCf0 (c : Cfg) (N : Nat) (i sd : Int) (w : List Int) : allLt 2 (tellers (cfArgs c N i sd (.slice none 0 0)) ⟨[(0, .own (.ints .u64 w u64T) 1)], 2, []⟩) = true ∧ allHas (tellers (cfArgs c N i sd (.slice none 0 0)) ⟨[(0, .own (.ints .u64 w u64T) 1)], 2, []⟩) (upTo 2) = true := by
  constructor <;> simp [tellers, nmL, nm, nmA, cfArgs, cfS, Cfg.v, Cfg.cells, tellers.tellB, allLt, allHas, has, upTo, Blk.nm, Nat.blt, Nat.beq]
theorem gC0_ok : ∀ args hp v hp' pc, gC0 args hp = some (v, hp', pc) → ∀ ds, CallOk Tryz.prog cfF args hp ⟨v, hp', ds, pc⟩ := by
  intro args hp v hp' pc hg ds
  unfold gC0 at hg
  split at hg
  · rename_i cv a a1 n i sd
    split at hg
    · rename_i c w hc hw
      cases hnd : nodupB [a, a1]
      · simp [hnd] at hg
      simp only [hnd, cond_true, Option.some.injEq, Prod.mk.injEq] at hg
      obtain ⟨rfl, rfl, rfl⟩ := hg
      obtain rfl := cfgOf_some hc
      obtain ⟨t1, t2⟩ := tellCf0 c n i sd w
      have hl := CallC.lift hentCf (pc := [n = w.length, CfOk c i sd w []]) (fun hp => cf0_nil (hp _ (by simp)) (hp _ (by simp))) [a, a1] [] (Nat.le_refl _) rfl t1 t2 hnd rfl
        ⟨.inr rfl, trivial⟩ (hp := hp) (args := [c.v, cfS n a a1, .int .i64 i, .int .i64 sd, .slice none 0 0]) rfl ⟨ownW_some hw, trivial⟩ ds
      have e : hp.lay [a, a1] 2 ⟨[(0, .own (.ints .u64 w u64T) 1)], 2, []⟩ [] = hp := by simp [Hp.lay, pick', layB, mapN, delB_nil, below, has]
      rw [e] at hl
      exact hl
    · cases hg
  · rename_i cv a a1 n i sd b b1 m
    split at hg
    · rename_i c w L hc hw hL
      cases hnd : nodupB [a, a1, b, b1]
      · simp [hnd] at hg
      simp only [hnd, cond_true, Option.some.injEq, Prod.mk.injEq] at hg
      obtain ⟨rfl, rfl, rfl⟩ := hg
      obtain rfl := cfgOf_some hc
      obtain ⟨t1, t2⟩ := tellCf c n m i sd w L
      have hl := CallC.lift hentCf (args0 := cfArgs c n i sd (cfS m 2 3)) (pc := [n = w.length, m = L.length, CfOk c i sd w L, cfl c i sd (snWd c w i) w L = false]) (fun hp => by
          have e : m = L.length := hp _ (by simp)
          rw [e]
          exact cf0_C (hp _ (by simp)) (hp _ (by simp)) (hp _ (by simp))) [a, a1, b, b1] [] (Nat.le_refl _) rfl t1 t2 hnd rfl
        ⟨.inr rfl, .inr rfl, trivial⟩ (hp := hp) (args := [c.v, cfS n a a1, .int .i64 i, .int .i64 sd, cfS m b b1]) rfl ⟨ownW_some hw, ownR_some hL, trivial⟩ ds
      have e : hp.lay [a, a1, b, b1] (cfHp w L).next (cfHp w L) [] = hp := by simp [Hp.lay, pick', layB, mapN, delB_nil, below, cfHp, has]
      rw [e] at hl
      exact hl
    · cases hg
  · cases hg
theorem gC1_ok : ∀ args hp v hp' pc, gC1 args hp = some (v, hp', pc) → ∀ ds, CallOk Tryz.prog cfF args hp ⟨v, hp', ds, pc⟩ := by
  intro args hp v hp' pc hg ds
  unfold gC1 at hg
  split at hg
  · rename_i cv a a1 n i sd b b1 m
    split at hg
    · rename_i c w L hc hw hL
      cases hnd : nodupB [a, a1, b, b1]
      · simp [hnd] at hg
      simp only [hnd, cond_true, Option.some.injEq, Prod.mk.injEq] at hg
      obtain ⟨rfl, rfl, rfl⟩ := hg
      obtain rfl := cfgOf_some hc
      obtain ⟨t1, t2⟩ := tellCf c n m i sd w L
      exact CallC.lift hentCf (args0 := cfArgs c n i sd (cfS m 2 3)) (hp0 := cfHp w L) (out0 := cfHpB w L (cfs c i sd (snWd c w i) w L).1) (v0 := cfT (cfS n 4 5) (cfs c i sd (snWd c w i) w L).2) (pc := [n = w.length, m = L.length, CfOk c i sd w L, cfl c i sd (snWd c w i) w L = true]) (fun hp => by
          have e : m = L.length := hp _ (by simp)
          rw [e]
          exact cf1_C (hp _ (by simp)) (hp _ (by simp)) (hp _ (by simp))) [a, a1, b, b1] [4] (show 4 ≤ 6 by omega) rfl t1 t2 hnd rfl
        ⟨.inr rfl, .inr rfl, trivial⟩ (hp := hp) (args := [c.v, cfS n a a1, .int .i64 i, .int .i64 sd, cfS m b b1]) rfl ⟨ownW_some hw, ownR_some hL, trivial⟩ ds
    · cases hg
  · cases hg
end Go.Proofs.YtocfhiafegkfkaaGreat.Ct
