/- What 'HelpTwo' comes to, of any input: it returns true and changes nothing that was there. -/
import Derived.Test.YtcpkieahnkfpoaaCtMix
namespace Go.Proofs.Ytcpkieahnkfpoaa.HelpTwoDone
open Go Go.Proofs Go.Proofs.Ytcpkieahnkfpoaa.Ev Go.Proofs.Ytcpkieahnkfpoaa.Ct
open Go.RowKit

noncomputable abbrev fn : Func := Try.f18
abbrev fid : FuncId := 18
inductive Bk where
  | nil
  | row (of2 cap : Nat) (L : List Bool)
def Bk.sv (n : Nat) : Bk → Value
  | .nil => .slice none 0 0
  | .row of2 cap L => .slice (some ⟨n, of2, none⟩) L.length cap
def Bk.blk (n : Nat) : Bk → List (Nat × Blk)
  | .nil => []
  | .row of2 _ L => [(n, .view of2 (.bools L 4))]
def Bk.len : Bk → Nat
  | .nil => 0
  | .row _ _ L => L.length
def bHp (l : List Int) (off : Nat) (bk : Bk) : Hp := ⟨(0, .view off (.ints .u64 l u64T)) :: bk.blk 1, 2, []⟩
def zv (w : Int) (sv : Value) : List Value := [.int .u64 w, sv]
def args (c : Cfg) (a : Option Addr) (n cap : Nat) (w : Int) (sv : Value) : List Value := [c.v, .slice a n cap, .agg ⟨zv w sv⟩]
def kd (b : Bool) : Hk := if b then .num else .fin
def bl (l : List Int) (off : Nat) (bk : Bk) (w : Int) (m o : Mm) (ka : Hk) (xa : Int) (kb : Hk) (xb : Int) (b : Bool) : List (Nat × Blk) :=
  (0, .view off (.ints .u64 l u64T)) :: (bk.blk 1 ++ [(2, .cells (m.cells 3) memT), (3, .ints .u64 m.w u64T), (4, .cells (o.cells 5) memT), (5, .ints .u64 o.w u64T), (6, .cells (hpr w ka xa) hlT), (7, .cells (hpr w kb xb) hlT), (8, .cells (hpr w (kd b) 0) hlT)])
def fr1 (l : List Int) (off : Nat) (bk : Bk) (w : Int) (m o : Mm) (ka : Hk) (xa : Int) (kb : Hk) (xb : Int) (b : Bool) (i : Int) (ds : List Dec) : Fr := mkFr 146 [(7, .pointer (some ⟨2, 0, none⟩)), (10, .pointer (some ⟨4, 0, none⟩)), (13, .pointer (some ⟨6, 0, none⟩)), (14, .pointer (some ⟨7, 0, none⟩)), (15, .pointer (some ⟨8, 0, none⟩)), (91, bk.sv 1), (92, .int .i64 bk.len), (93, .int .i64 i)] (bl l off bk w m o ka xa kb xb b) 9 [] ds
def frM (l : List Int) (off : Nat) (bk : Bk) (w : Int) (m o : Mm) (ka : Hk) (xa : Int) (kb : Hk) (xb : Int) (b : Bool) (ds : List Dec) : Fr := mkFr 146 [(7, .pointer (some ⟨2, 0, none⟩)), (10, .pointer (some ⟨4, 0, none⟩)), (13, .pointer (some ⟨6, 0, none⟩)), (14, .pointer (some ⟨7, 0, none⟩)), (15, .pointer (some ⟨8, 0, none⟩))] (bl l off bk w m o ka xa kb xb b) 9 [] ds
def fr2 (l : List Int) (off : Nat) (bk : Bk) (w sa sb sd : Int) (NX NY : Nat) (wx wy : List Int) (i : Int) (ds : List Dec) : Fr := mkFr 146 [(13, .pointer (some ⟨2, 0, none⟩)), (14, .pointer (some ⟨3, 0, none⟩)), (15, .pointer (some ⟨4, 0, none⟩)), (18, .slice (some ⟨5, 0, none⟩) NX NX), (19, .slice (some ⟨6, 0, none⟩) NY NY), (119, .int .i64 NY), (120, .int .i64 i)]
  ((0, .view off (.ints .u64 l u64T)) :: (bk.blk 1 ++ [(2, .cells (hpr w .fin sa) hlT), (3, .cells (hpr w .fin sb) hlT), (4, .cells (hpr w .fin sd) hlT), (5, .ints .u64 wx u64T), (6, .ints .u64 wy u64T)])) 7 [] ds
def frX (l : List Int) (off : Nat) (bk : Bk) (w sa sb sd : Int) (ds : List Dec) : Fr := mkFr 146 [(13, .pointer (some ⟨2, 0, none⟩)), (14, .pointer (some ⟨3, 0, none⟩)), (15, .pointer (some ⟨4, 0, none⟩))]
  ((0, .view off (.ints .u64 l u64T)) :: (bk.blk 1 ++ [(2, .cells (hpr w .fin sa) hlT), (3, .cells (hpr w .fin sb) hlT), (4, .cells (hpr w .fin sd) hlT)])) 5 [] ds
def frE (l : List Int) (off : Nat) (bk : Bk) : Fr := mkFr 146 [(6, .bool true)] (bHp l off bk).blks 2 [] []
abbrev lp1 : List Nat := [1, 1, 1, 1, 1, 0, 1, 0, 0]
abbrev lp2 : List Nat := [1, 1, 1, 1, 1, 1, 1, 1, 1, 1, 0, 1, 0, 0]
noncomputable abbrev K1 : List Kt := [.blk 0, .code (bd fn [1, 1, 1, 1, 1, 1])]
noncomputable abbrev K2 : List Kt := [.blk 2, .code (bd fn [1, 1, 1, 1, 1, 1, 1, 1, 1, 1, 1])]
def jv (off i : Nat) : Nat := addN off (mulN i 1) - off
theorem jv_eq (off i : Nat) : jv off i = i := by unfold jv; rw [addN_eq, mulN_eq]; omega
def q0 (c : Cfg) (l : List Int) (off : Nat) : Prop := c.Right ∧ (l.length : Int) = c.len ∧ l.length = l.length ∧ off = off
def Bk.big : Bk → List Prop
  | .nil => []
  | .row _ _ L => [decide ((L.length : Int) > 100) = false]
def e0 (l : List Int) (off : Nat) : List Prop := [((l.length : Int) == 0) = false, (0 : Int) ≤ 0, (0 : Int) < (l.length : Int), off ≤ addN off (mulN 0 1), jv off 0 < l.length]
abbrev lv1 : List Nat := [7, 10, 13, 14, 15, 91, 92, 93]
abbrev id9 : List Nat := [0, 1, 2, 3, 4, 5, 6, 7, 8]
open Dec in
section
variable (c : Cfg) (l : List Int) (off cap : Nat) (bk : Bk) (w : Int)
noncomputable abbrev start (ds : List Dec) : Fr := ⟨args c (some ⟨0, off, none⟩) l.length cap w (bk.sv 1) ++ List.replicate 143 undef, bHp l off bk, ds, []⟩
abbrev dsB : Bk → Dec
  | .nil => Dec.l
  | .row _ _ _ => f
theorem ht_t : execR E33 12 .normal [.code (bd fn [])] [0, 1, 4, 5, 9, 10, 14, 15, 16] lv1 2 [] (start c l off cap bk w [t, t, t, Dec.l, Dec.l, Dec.l, Dec.l, dsB bk, f, f]) = some (.normal, .code (.loop (bd fn lp1)) :: K1, fr1 l off bk w (newM c l) (newM c l) .num 0 .num 0 true 0 [],
    [q0 c l off, q0 c l off, decide (pendB w ≥ 0) = true, decide (pendB w ≥ 0) = true, decide (pendB w ≥ 0) = true] ++ (bk.big ++ (e0 l off ++ [(l.getD (jv off 0) 0 != w) = false]))) := by cases bk <;> kernel_rfl
theorem ht_f : execR E33 12 .normal [.code (bd fn [])] [0, 1, 4, 5, 9, 10, 14, 15, 16] lv1 2 [] (start c l off cap bk w [f, f, f, Dec.l, Dec.l, Dec.l, Dec.l, dsB bk, f, f]) = some (.normal, .code (.loop (bd fn lp1)) :: K1, fr1 l off bk w (newM c l) (newM c l) .fin 0 .fin 0 false 0 [],
    [q0 c l off, q0 c l off, decide (pendB w ≥ 0) = false, decide (pendB w ≥ 0) = false, decide (pendB w ≥ 0) = false] ++ (bk.big ++ (e0 l off ++ [(l.getD (jv off 0) 0 != w) = false]))) := by cases bk <;> kernel_rfl
abbrev M2 (w : Int) (k : Hk) (x : Int) (m : Mm) : Mm := (hRun w 50 0 k x m).2.2.2
abbrev S2 (w : Int) (k : Hk) (x : Int) (m : Mm) : Int := (hRun w 50 0 k x m).2.2.1
abbrev K3 (w : Int) (k : Hk) (x : Int) (m : Mm) : Hk := (hRun w 50 0 k x m).2.1
variable (m o : Mm) (ka kb : Hk) (xa xb : Int) (b : Bool) (i : Nat) (of2 cap2 : Nat) (L : List Bool)
def ld (of2 : Nat) (L : List Bool) (i : Nat) (v : Bool) : List Prop := [decide ((i : Int) < (L.length : Int)) = true, 0 ≤ (i : Int), (i : Int) < (L.length : Int), of2 ≤ addN of2 (mulN i 1), jv of2 i < L.length, L.getD (jv of2 i) false = v]
theorem a_num : run E33 12 (bd fn lp1) id9 lv1 2 [] (fr1 l off (.row of2 cap2 L) w m o .num xa kb xb b (i : Int) ([t, t] ++ List.replicate 6 Dec.l)) = some (.normal, fr1 l off (.row of2 cap2 L) w (hNum w m) o .look (xa) kb xb b (w64 ((i : Int) + 1)) [], ld of2 L i true ++ [m.ok]) := by cases kb <;> cases b <;> kernel_rfl
theorem a_lkt : run E33 12 (bd fn lp1) id9 lv1 2 [] (fr1 l off (.row of2 cap2 L) w m o .look xa kb xb b (i : Int) ([t, t] ++ [Dec.l, t])) = some (.normal, fr1 l off (.row of2 cap2 L) w (hLook w m) o .lay (lookV w m) kb xb b (w64 ((i : Int) + 1)) [], ld of2 L i true ++ [m.ok, (stB (lookV w m) == 3) = true]) := by cases kb <;> cases b <;> kernel_rfl
theorem a_lkf : run E33 12 (bd fn lp1) id9 lv1 2 [] (fr1 l off (.row of2 cap2 L) w m o .look xa kb xb b (i : Int) ([t, t] ++ [Dec.l, f])) = some (.normal, fr1 l off (.row of2 cap2 L) w (hLook w m) o .set (lookV w m) kb xb b (w64 ((i : Int) + 1)) [], ld of2 L i true ++ [m.ok, (stB (lookV w m) == 3) = false]) := by cases kb <;> cases b <;> kernel_rfl
theorem a_lyt : run E33 12 (bd fn lp1) id9 lv1 2 [] (fr1 l off (.row of2 cap2 L) w m o .lay xa kb xb b (i : Int) ([t, t] ++ [Dec.l, t])) = some (.normal, fr1 l off (.row of2 cap2 L) w (hLay w xa m) o .set (xa) kb xb b (w64 ((i : Int) + 1)) [], ld of2 L i true ++ [m.ok, dnS m 4 (pendB w) xa = true]) := by cases kb <;> cases b <;> kernel_rfl
theorem a_lyf : run E33 12 (bd fn lp1) id9 lv1 2 [] (fr1 l off (.row of2 cap2 L) w m o .lay xa kb xb b (i : Int) ([t, t] ++ [Dec.l, f])) = some (.normal, fr1 l off (.row of2 cap2 L) w (hLay w xa m) o .look (xa) kb xb b (w64 ((i : Int) + 1)) [], ld of2 L i true ++ [m.ok, dnS m 4 (pendB w) xa = false]) := by cases kb <;> cases b <;> kernel_rfl
theorem a_set : run E33 12 (bd fn lp1) id9 lv1 2 [] (fr1 l off (.row of2 cap2 L) w m o .set xa kb xb b (i : Int) ([t, t] ++ List.replicate 6 Dec.l)) = some (.normal, fr1 l off (.row of2 cap2 L) w (hSet w m) o .fin (xa) kb xb b (w64 ((i : Int) + 1)) [], ld of2 L i true ++ [m.ok]) := by cases kb <;> cases b <;> kernel_rfl
theorem a_fin : run E33 12 (bd fn lp1) id9 lv1 2 [] (fr1 l off (.row of2 cap2 L) w m o .fin xa kb xb b (i : Int) ([t, t] ++ List.replicate 6 Dec.l)) = some (.normal, fr1 l off (.row of2 cap2 L) w (m) o .fin (xa) kb xb b (w64 ((i : Int) + 1)) [], ld of2 L i true ++ []) := by cases kb <;> cases b <;> kernel_rfl
theorem b_num : run E33 12 (bd fn lp1) id9 lv1 2 [] (fr1 l off (.row of2 cap2 L) w m o ka xa .num xb b (i : Int) ([t, f] ++ List.replicate 6 Dec.l)) = some (.normal, fr1 l off (.row of2 cap2 L) w (hNum w m) o ka xa .look (xb) b (w64 ((i : Int) + 1)) [], ld of2 L i false ++ [m.ok]) := by cases ka <;> cases b <;> kernel_rfl
theorem b_lkt : run E33 12 (bd fn lp1) id9 lv1 2 [] (fr1 l off (.row of2 cap2 L) w m o ka xa .look xb b (i : Int) ([t, f] ++ [Dec.l, t])) = some (.normal, fr1 l off (.row of2 cap2 L) w (hLook w m) o ka xa .lay (lookV w m) b (w64 ((i : Int) + 1)) [], ld of2 L i false ++ [m.ok, (stB (lookV w m) == 3) = true]) := by cases ka <;> cases b <;> kernel_rfl
theorem b_lkf : run E33 12 (bd fn lp1) id9 lv1 2 [] (fr1 l off (.row of2 cap2 L) w m o ka xa .look xb b (i : Int) ([t, f] ++ [Dec.l, f])) = some (.normal, fr1 l off (.row of2 cap2 L) w (hLook w m) o ka xa .set (lookV w m) b (w64 ((i : Int) + 1)) [], ld of2 L i false ++ [m.ok, (stB (lookV w m) == 3) = false]) := by cases ka <;> cases b <;> kernel_rfl
theorem b_lyt : run E33 12 (bd fn lp1) id9 lv1 2 [] (fr1 l off (.row of2 cap2 L) w m o ka xa .lay xb b (i : Int) ([t, f] ++ [Dec.l, t])) = some (.normal, fr1 l off (.row of2 cap2 L) w (hLay w xb m) o ka xa .set (xb) b (w64 ((i : Int) + 1)) [], ld of2 L i false ++ [m.ok, dnS m 4 (pendB w) xb = true]) := by cases ka <;> cases b <;> kernel_rfl
theorem b_lyf : run E33 12 (bd fn lp1) id9 lv1 2 [] (fr1 l off (.row of2 cap2 L) w m o ka xa .lay xb b (i : Int) ([t, f] ++ [Dec.l, f])) = some (.normal, fr1 l off (.row of2 cap2 L) w (hLay w xb m) o ka xa .look (xb) b (w64 ((i : Int) + 1)) [], ld of2 L i false ++ [m.ok, dnS m 4 (pendB w) xb = false]) := by cases ka <;> cases b <;> kernel_rfl
theorem b_set : run E33 12 (bd fn lp1) id9 lv1 2 [] (fr1 l off (.row of2 cap2 L) w m o ka xa .set xb b (i : Int) ([t, f] ++ List.replicate 6 Dec.l)) = some (.normal, fr1 l off (.row of2 cap2 L) w (hSet w m) o ka xa .fin (xb) b (w64 ((i : Int) + 1)) [], ld of2 L i false ++ [m.ok]) := by cases ka <;> cases b <;> kernel_rfl
theorem b_fin : run E33 12 (bd fn lp1) id9 lv1 2 [] (fr1 l off (.row of2 cap2 L) w m o ka xa .fin xb b (i : Int) ([t, f] ++ List.replicate 6 Dec.l)) = some (.normal, fr1 l off (.row of2 cap2 L) w (m) o ka xa .fin (xb) b (w64 ((i : Int) + 1)) [], ld of2 L i false ++ []) := by cases ka <;> cases b <;> kernel_rfl
theorem ht_1e : run E33 12 (bd fn lp1) id9 [7, 10, 13, 14, 15] 2 [] (fr1 l off bk w m o ka xa kb xb b (i : Int) [f]) = some (.exit 0, frM l off bk w m o ka xa kb xb b [], [decide ((i : Int) < (bk.len : Int)) = false]) := by cases bk <;> cases ka <;> cases kb <;> cases b <;> kernel_rfl
theorem ht_2 (sa sb sd : Int) (wx wy : List Int) : run E33 12 (bd fn lp2) [0, 1, 2, 3, 4, 5, 6] [13, 14, 15, 18, 19, 119, 120] 2 [] (fr2 l off bk w sa sb sd l.length l.length wx wy (i : Int) [t, f]) = some (.normal, fr2 l off bk w sa sb sd l.length l.length wx wy (w64 ((i : Int) + 1)) [], [decide ((i : Int) < (l.length : Int)) = true, 0 ≤ (i : Int), (i : Int) < (l.length : Int), i < wx.length, 0 ≤ (i : Int), (i : Int) < (l.length : Int), i < wy.length, (wx.getD i 0 != wy.getD i 0) = false]) := by cases bk <;> kernel_rfl
theorem ht_2e (sa sb sd : Int) (wx wy : List Int) : run E33 12 (bd fn lp2) [0, 1, 2, 3, 4] [13, 14, 15] 2 [] (fr2 l off bk w sa sb sd l.length l.length wx wy (i : Int) [f]) = some (.exit 2, frX l off bk w sa sb sd [], [decide ((i : Int) < (l.length : Int)) = false]) := by cases bk <;> kernel_rfl
theorem ht_out (sa sb sd : Int) : execR E33 12 (.exit 2) K2 [0, 1] [6] 2 [] (frX l off bk w sa sb sd [Dec.l, Dec.l, Dec.l]) = some (.ret, [], frE l off bk, []) := by cases bk <;> kernel_rfl
abbrev enP (w : Int) (k : Hk) (x : Int) (m : Mm) : Prop := m.ok ∧ seqB w = seqB w ∧ pendB w = pendB w ∧ K3 w k x m = .fin
theorem ht_12 : execR E33 12 (.exit 0) K1 [0, 1, 6, 7, 8, 9, 10] [13, 14, 15, 18, 19, 119, 120] 2 [] (frM l off bk w m o ka xa kb xb b []) = some (.normal, .code (.loop (bd fn lp2)) :: K2, fr2 l off bk w (S2 w ka xa m) (S2 w kb xb (M2 w ka xa m)) (S2 w (kd b) 0 o) (M2 w kb xb (M2 w ka xa m)).N (M2 w (kd b) 0 o).N (M2 w kb xb (M2 w ka xa m)).w (M2 w (kd b) 0 o).w 0 [],
    [enP w ka xa m, enP w kb xb (M2 w ka xa m), enP w (kd b) 0 o, (M2 w kb xb (M2 w ka xa m)).ok, (M2 w (kd b) 0 o).ok]) := by cases bk <;> cases ka <;> cases kb <;> cases b <;> kernel_rfl
abbrev A : List Value := args c (some ⟨0, off, none⟩) l.length cap w (bk.sv 1)
theorem long_t : callR E33 12 fid (A c l off cap (.row of2 cap2 L) w) (bHp l off (.row of2 cap2 L)) ([t, t, t, Dec.l, Dec.l, Dec.l, Dec.l, t] ++ List.replicate 10 Dec.l) [0, 1] = some (.bool true, bHp l off (.row of2 cap2 L), [q0 c l off, q0 c l off, decide (pendB w ≥ 0) = true, decide (pendB w ≥ 0) = true, decide (pendB w ≥ 0) = true, decide ((L.length : Int) > 100) = true]) := by kernel_rfl
theorem long_f : callR E33 12 fid (A c l off cap (.row of2 cap2 L) w) (bHp l off (.row of2 cap2 L)) ([f, f, f, Dec.l, Dec.l, Dec.l, Dec.l, t] ++ List.replicate 10 Dec.l) [0, 1] = some (.bool true, bHp l off (.row of2 cap2 L), [q0 c l off, q0 c l off, decide (pendB w ≥ 0) = false, decide (pendB w ≥ 0) = false, decide (pendB w ≥ 0) = false, decide ((L.length : Int) > 100) = true]) := by kernel_rfl
theorem hd_t : callR E33 12 fid (A c l off cap bk w) (bHp l off bk) ([t, t, t, Dec.l, Dec.l, Dec.l, Dec.l, dsB bk, f, t] ++ List.replicate 10 Dec.l) [0, 1] = some (.bool true, bHp l off bk, [q0 c l off, q0 c l off, decide (pendB w ≥ 0) = true, decide (pendB w ≥ 0) = true, decide (pendB w ≥ 0) = true] ++ (bk.big ++ (e0 l off ++ [(l.getD (jv off 0) 0 != w) = true]))) := by cases bk <;> kernel_rfl
theorem hd_f : callR E33 12 fid (A c l off cap bk w) (bHp l off bk) ([f, f, f, Dec.l, Dec.l, Dec.l, Dec.l, dsB bk, f, t] ++ List.replicate 10 Dec.l) [0, 1] = some (.bool true, bHp l off bk, [q0 c l off, q0 c l off, decide (pendB w ≥ 0) = false, decide (pendB w ≥ 0) = false, decide (pendB w ≥ 0) = false] ++ (bk.big ++ (e0 l off ++ [(l.getD (jv off 0) 0 != w) = true]))) := by cases bk <;> kernel_rfl
theorem nr_t (a : Option Addr) (n : Nat) : told (doCall E32 20 fid (args c a n cap w (bk.sv 1)) ⟨[], 2, []⟩ ([t, Dec.l, t, Dec.l, t, t, t] ++ List.replicate 20 Dec.l)) = some (.bool true, [(!rightB c) = true, (!rightB c) = true, decide (pendB w ≥ 0) = true, decide (pendB w ≥ 0) = true, decide (pendB w ≥ 0) = true]) := by cases bk <;> kernel_rfl
theorem nr_f (a : Option Addr) (n : Nat) : told (doCall E32 20 fid (args c a n cap w (bk.sv 1)) ⟨[], 2, []⟩ ([t, Dec.l, t, Dec.l, f, f, f] ++ List.replicate 20 Dec.l)) = some (.bool true, [(!rightB c) = true, (!rightB c) = true, decide (pendB w ≥ 0) = false, decide (pendB w ≥ 0) = false, decide (pendB w ≥ 0) = false]) := by cases bk <;> kernel_rfl
theorem nl_t (a : Option Addr) (n : Nat) : told (doCall E32 20 fid (args c a n cap w (bk.sv 1)) ⟨[], 2, []⟩ ([f, t, f, t, t, t, t] ++ List.replicate 20 Dec.l)) = some (.bool true, [(!rightB c) = false, c.Right, ((n : Int) != c.len) = true, (!rightB c) = false, c.Right, ((n : Int) != c.len) = true, decide (pendB w ≥ 0) = true, decide (pendB w ≥ 0) = true, decide (pendB w ≥ 0) = true]) := by cases bk <;> kernel_rfl
theorem nl_f (a : Option Addr) (n : Nat) : told (doCall E32 20 fid (args c a n cap w (bk.sv 1)) ⟨[], 2, []⟩ ([f, t, f, t, f, f, f] ++ List.replicate 20 Dec.l)) = some (.bool true, [(!rightB c) = false, c.Right, ((n : Int) != c.len) = true, (!rightB c) = false, c.Right, ((n : Int) != c.len) = true, decide (pendB w ≥ 0) = false, decide (pendB w ≥ 0) = false, decide (pendB w ≥ 0) = false]) := by cases bk <;> kernel_rfl
end
end Go.Proofs.Ytcpkieahnkfpoaa.HelpTwoDone
