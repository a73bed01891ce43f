/- A write: what each path of its step comes to. -/
import Derived.Test.YtocfhiafegkfkaaGreatCtWriteA
namespace Go.Proofs.YtocfhiafegkfkaaGreat.Ct
open Go Go.Proofs Go.Proofs.YtocfhiafegkfkaaGreat.Ev
open Go.RowKit

theorem wrStepV_nm (k : Nat) : ∀ n ∈ nm (wrStepV k), n < 15 := by
  unfold wrStepV
  split <;> simp [bndV, nm, nmA, nmL]
theorem wrLvV_nm (k q : Nat) : ∀ n ∈ nm (wrLvV k q), n < 15 := by
  unfold wrLvV
  split <;> simp [nm]
theorem shV_nm {b c d len k n a : Nat} (hb : b < 15) (hc : c < 15) (hd : d < 15) : ∀ x ∈ nm (shV b c d len k n a), x < 15 := by
  unfold shV
  split <;> simp [nm] <;> omega
theorem wrB_nm {r : Wt} : ∀ (i : Nat) (hb : HB), wrB r i = some hb → ∀ n ∈ hb.nm, n < 15 := by
  intro i hb h n hn
  unfold wrB at h
  split at h
  · simp only [Option.some.injEq] at h
    subst h
    simp only [HB.nm, Wt.cells, nmL, nm, List.append_nil, List.nil_append, List.mem_append] at hn
    rcases hn with hn | hn | hn | hn | hn | hn | hn
    · exact wrStepV_nm _ n hn
    · have := rdEnV_nm _ n hn
      omega
    · exact shV_nm (by omega) (by omega) (by omega) n hn
    · exact shV_nm (by omega) (by omega) (by omega) n hn
    · have := rdJnV_nm _ n hn
      omega
    · have := rdOnV_nm _ n hn
      omega
    · exact wrLvV_nm _ _ n hn
  all_goals first
    | cases h
    | (split at h
       all_goals first
         | (cases h; done)
         | (simp only [Option.some.injEq] at h
            subst h
            simp [HB.nm, nmL, nm, nmA, En.cells, Jn.cells, On.cells, Lv.cells] at hn
            try omega))
theorem wrF_nm {x : Hid} (i : Nat) (hb : HB) (h : wrF i x = some hb) : allLt 15 hb.nm = true := allLt_of (wrB_nm i hb h)
theorem wrF_okX (x : Hid) (m : Mm) : okX (hidHp wrF 15 x m).blks = true := okX_opt (ns := rng 0 15) (fun i hb h => wrF_nm i hb h) rfl _ _
theorem wrF_okX0 (x : Hid) : okX (hidHp0 wrF 15 x).blks = true := by
  have := okX_opt (F := wrF) (ns := rng 0 15) (h := x) (fun i hb h => wrF_nm i hb h) (l' := []) rfl (rng 0 15) 0
  rw [List.append_nil] at this
  exact this
theorem wrF_okXo (x : Hid) (m : Mm) : okX (hidOut wrF 15 x m).blks = true := okX_opt (ns := hidN 15) (fun i hb h => wrF_nm i hb h) rfl _ _
theorem z17 {tl : List Nat} : ∀ k, k < 17 → (0 :: 1 :: 2 :: 3 :: 4 :: 5 :: 6 :: 7 :: 8 :: 9 :: 10 :: 11 :: 12 :: 13 :: 14 :: 15 :: 16 :: tl : List Nat).getD k 0 = k := fun k hk => by
  match k, hk with
  | 0, _ | 1, _ | 2, _ | 3, _ | 4, _ | 5, _ | 6, _ | 7, _ | 8, _ | 9, _ | 10, _ | 11, _ | 12, _ | 13, _ | 14, _ | 15, _ | 16, _ => rfl
  | n + 17, h => exact absurd h (by omega)
def wrOut (r : Wt) (m : Mm) (r' : Wt) (m' : Mm) : Prop := CallC Tryz.prog wrStepF (hidA 15 []) (hidHp wrF 15 r.enc m) (.tuple ⟨[]⟩) (hidOut wrF 15 r'.enc m')
theorem wrOut_keys {r' : Wt} {m' : Mm} : keysIn (hidOut wrF 15 r'.enc m').next (hidOut wrF 15 r'.enc m').blks = true := by
  refine keysIn_of (fun n hn => ?_) ?_
  · have : keys (hidOut wrF 15 r'.enc m').blks = hidN 15 ++ [15, 16] := by
      show keys (optL wrF (hidN 15) r'.enc (hidN 15) 0 ++ _) = _
      rw [keys_app, optL_keys]
      rfl
    rw [this] at hn
    show n < 31
    simp [hidN, rng] at hn
    omega
  · have : keys (hidOut wrF 15 r'.enc m').blks = hidN 15 ++ [15, 16] := by
      show keys (optL wrF (hidN 15) r'.enc (hidN 15) 0 ++ _) = _
      rw [keys_app, optL_keys]
      rfl
    rw [this]
    decide
theorem wr_new {r r' : Wt} {m m' : Mm} {hp1 : Hp} (h : CallC Tryz.prog wrStepF (hidA 15 []) (hidHp wrF 15 r.enc m).xp (.tuple ⟨[]⟩) hp1) (L : List Nat) (hbnd : allLt (hidOut wrF 15 r'.enc m').xp.next (nm (.tuple ⟨[]⟩) ++ tellers.tellB (hidOut wrF 15 r'.enc m').xp.blks) = true) (hkeys : keysIn (hidOut wrF 15 r'.enc m').xp.next (hidOut wrF 15 r'.enc m').xp.blks = true)
    (hin : laysIn hp1 (fun k => L.getD k 0) (hidOut wrF 15 r'.enc m').xp.blks) (hd : vdup L (hidOut wrF 15 r'.enc m').xp.blks = true) (hid : ∀ k, k < 17 → L.getD k 0 = k) : wrOut r m r' m' :=
  CallC.xp (CallC.ren h L rfl hbnd hkeys hin hd hid) hid_keysIn wrOut_keys (wrF_okX _ _) (wrF_okXo _ _)
/-- The heap that a path comes to. -/
def hpOf (x : Option (Value × Hp × List Prop)) : Hp := match x with
  | some (_, h, _) => h
  | none => ⟨[], 0, []⟩
abbrev nW : List Nat := [0, 1, 2, 3, 4, 5, 6, 7, 8, 9, 10, 11, 12, 13, 14, 15, 16]
noncomputable abbrev wC (E : Env) (r : Wt) (m : Mm) (ds : List Dec) (ns : List Nat) : Option (Value × Hp × List Prop) := callR E 12 wrStepF (hidA 15 []) (hidHp wrF 15 r.enc m).xp ds ns
abbrev WP (E : Env) (r : Wt) (m : Mm) (ds : List Dec) (ns : List Nat) (pc : List Prop) : Prop := wC E r m ds ns = some (.tuple ⟨[]⟩, hpOf (wC E r m ds ns), pc)
open Dec in
section
variable (key slot n w no told : Int) (rk rn ok on : Nat) (en : Et) (j : Jn) (o : On) (lv : Lv) (l r : List Int) (m : Mm)
theorem wp_e_t : WP Em3 ⟨0, 1, key, slot, n, w, no, told, 0, rk, rn, 0, ok, on, en, j, o, lv, l, r⟩ m [Dec.l, t] nW [1 = [(2 : Int)].length, T0 (enGood en.w2 m), 1 = [(2 : Int)].length, T0 (Wd (enSt en.w2 m).h), (!((enSt en.w2 m).dn || !ofOk (enSt en.w2 m).h (enMe en.w2 m).c.s)) = true] := by unfold WP; kernel_rfl
theorem wo_e_t (h : ∀ p ∈ ([1 = [(2 : Int)].length, T0 (enGood en.w2 m), 1 = [(2 : Int)].length, T0 (Wd (enSt en.w2 m).h), (!((enSt en.w2 m).dn || !ofOk (enSt en.w2 m).h (enMe en.w2 m).c.s)) = true] : List Prop), p) : wrOut ⟨0, 1, key, slot, n, w, no, told, 0, rk, rn, 0, ok, on, en, j, o, lv, l, r⟩ m ⟨0, 1, key, slot, n, w, no, told, 0, rk, rn, 0, ok, on, ((enSt en.w2 m).et), j, o, lv, l, r⟩ (enMe en.w2 m) :=
  wr_new (CallC.of_call Em3ok (wp_e_t key slot n w no told rk rn ok on en j o lv l r m) h rfl z17) (nW ++ [1, 2, 3, 4, 5, 6, 7, 8, 9, 10, 11, 12, 13, 14]) (by kernel_rfl) (by kernel_rfl) ⟨by kernel_rfl, by kernel_rfl, by kernel_rfl, by kernel_rfl, by kernel_rfl, trivial⟩ (by kernel_rfl) z17
theorem wp_e_ff : WP Em3 ⟨0, 1, key, slot, n, w, no, told, 0, rk, rn, 0, ok, on, en, j, o, lv, l, r⟩ m [Dec.l, f, f] nW [1 = [(2 : Int)].length, T0 (enGood en.w2 m), 1 = [(2 : Int)].length, T0 (Wd (enSt en.w2 m).h), (!((enSt en.w2 m).dn || !ofOk (enSt en.w2 m).h (enMe en.w2 m).c.s)) = false, 1 = [(2 : Int)].length, T0 (Wd (enSt en.w2 m).h), (errI (enSt en.w2 m) (enMe en.w2 m) != 0) = false] := by unfold WP; kernel_rfl
theorem wo_e_ff (h : ∀ p ∈ ([1 = [(2 : Int)].length, T0 (enGood en.w2 m), 1 = [(2 : Int)].length, T0 (Wd (enSt en.w2 m).h), (!((enSt en.w2 m).dn || !ofOk (enSt en.w2 m).h (enMe en.w2 m).c.s)) = false, 1 = [(2 : Int)].length, T0 (Wd (enSt en.w2 m).h), (errI (enSt en.w2 m) (enMe en.w2 m) != 0) = false] : List Prop), p) : wrOut ⟨0, 1, key, slot, n, w, no, told, 0, rk, rn, 0, ok, on, en, j, o, lv, l, r⟩ m ⟨1, 1, key, slot, n, w, (errI (enSt en.w2 m) (enMe en.w2 m)), told, 0, rk, rn, 0, ok, on, ((enSt en.w2 m).et), j, o, lv, l, r⟩ (enMe en.w2 m) :=
  wr_new (CallC.of_call Em3ok (wp_e_ff key slot n w no told rk rn ok on en j o lv l r m) h rfl z17) (nW ++ [1, 2, 3, 4, 5, 6, 7, 8, 9, 10, 11, 12, 13, 14]) (by kernel_rfl) (by kernel_rfl) ⟨by kernel_rfl, by kernel_rfl, by kernel_rfl, trivial⟩ (by kernel_rfl) z17
theorem wp_e_ft : WP Em3 ⟨0, 1, key, slot, n, w, no, told, 0, rk, rn, 0, ok, on, en, j, o, lv, l, r⟩ m [Dec.l, f, t] nW [1 = [(2 : Int)].length, T0 (enGood en.w2 m), 1 = [(2 : Int)].length, T0 (Wd (enSt en.w2 m).h), (!((enSt en.w2 m).dn || !ofOk (enSt en.w2 m).h (enMe en.w2 m).c.s)) = false, 1 = [(2 : Int)].length, T0 (Wd (enSt en.w2 m).h), (errI (enSt en.w2 m) (enMe en.w2 m) != 0) = true] := by unfold WP; kernel_rfl
theorem wo_e_ft (h : ∀ p ∈ ([1 = [(2 : Int)].length, T0 (enGood en.w2 m), 1 = [(2 : Int)].length, T0 (Wd (enSt en.w2 m).h), (!((enSt en.w2 m).dn || !ofOk (enSt en.w2 m).h (enMe en.w2 m).c.s)) = false, 1 = [(2 : Int)].length, T0 (Wd (enSt en.w2 m).h), (errI (enSt en.w2 m) (enMe en.w2 m) != 0) = true] : List Prop), p) : wrOut ⟨0, 1, key, slot, n, w, no, told, 0, rk, rn, 0, ok, on, en, j, o, lv, l, r⟩ m ⟨9, 1, key, slot, n, w, (errI (enSt en.w2 m) (enMe en.w2 m)), told, 0, rk, rn, 0, ok, on, ((enSt en.w2 m).et), j, o, lv, l, r⟩ (enMe en.w2 m) :=
  wr_new (CallC.of_call Em3ok (wp_e_ft key slot n w no told rk rn ok on en j o lv l r m) h rfl z17) (nW ++ [1, 2, 3, 4, 5, 6, 7, 8, 9, 10, 11, 12, 13, 14]) (by kernel_rfl) (by kernel_rfl) ⟨by kernel_rfl, by kernel_rfl, by kernel_rfl, trivial⟩ (by kernel_rfl) z17
theorem wp_s : WP Em3 ⟨1, 1, key, slot, n, w, no, told, 0, rk, rn, 0, ok, on, en, j, o, lv, l, r⟩ m [Dec.l] nW [m.ok] := by unfold WP; kernel_rfl
theorem wo_s (h : ∀ p ∈ ([m.ok] : List Prop), p) : wrOut ⟨1, 1, key, slot, n, w, no, told, 0, rk, rn, 0, ok, on, en, j, o, lv, l, r⟩ m ⟨2, 1, key, slot, (vAt m 5 slot), w, no, told, 0, rk, rn, 0, ok, on, en, j, o, lv, l, r⟩ (mLd m 5 slot) :=
  wr_new (CallC.of_call Em3ok (wp_s key slot n w no told rk rn ok on en j o lv l r m) h rfl z17) (nW ++ [1, 2, 3, 4, 5, 6, 7, 8, 9, 10, 11, 12, 13, 14]) (by kernel_rfl) (by kernel_rfl) ⟨by kernel_rfl, by kernel_rfl, by kernel_rfl, trivial⟩ (by kernel_rfl) z17
theorem wp_l0_g : WP (Ew true false) ⟨2, 1, key, slot, n, w, no, told, 0, rk, rn, 0, ok, on, en, j, o, lv, l, r⟩ m [Dec.l, t, f, Dec.l] (nW ++ [18, 19]) [m.ok, Wd (vAt m 8 key) ∧ (othL (vAt m 8 key) 1 slot) ≠ [], decide (((othL (vAt m 8 key) 1 slot).length : Int) > 0) = true, (((othL (vAt m 8 key) 1 slot).length : Int) == 0) = false] := by unfold WP; kernel_rfl
theorem wo_l0_g (h : ∀ p ∈ ([m.ok, Wd (vAt m 8 key) ∧ (othL (vAt m 8 key) 1 slot) ≠ [], decide (((othL (vAt m 8 key) 1 slot).length : Int) > 0) = true, (((othL (vAt m 8 key) 1 slot).length : Int) == 0) = false] : List Prop), p) : wrOut ⟨2, 1, key, slot, n, w, no, told, 0, rk, rn, 0, ok, on, en, j, o, lv, l, r⟩ m ⟨3, 1, key, slot, n, (vAt m 8 key), no, told, 1, rk, rn, 0, ok, on, en, j, o, lv, (othL (vAt m 8 key) 1 slot), r⟩ (mLd m 8 key) :=
  wr_new (CallC.of_call (Ewok true false) (wp_l0_g key slot n w no told rk rn ok on en j o lv l r m) h rfl z17) (nW ++ [1, 2, 3, 17, 18, 6, 7, 8, 9, 10, 11, 12, 13, 14]) (by kernel_rfl) (by kernel_rfl) ⟨by kernel_rfl, by kernel_rfl, by kernel_rfl, by kernel_rfl, trivial⟩ (by kernel_rfl) z17
theorem wp_l0_m : WP (Ew false false) ⟨2, 1, key, slot, n, w, no, told, 0, rk, rn, 0, ok, on, en, j, o, lv, l, r⟩ m [Dec.l, Dec.l, Dec.l, f] nW [m.ok, Wd (vAt m 8 key) ∧ (othL (vAt m 8 key) 1 slot) = [], Wd (vAt m 8 key), hasI (vAt m 8 key) 1 slot = false] := by unfold WP; kernel_rfl
theorem wo_l0_m (h : ∀ p ∈ ([m.ok, Wd (vAt m 8 key) ∧ (othL (vAt m 8 key) 1 slot) = [], Wd (vAt m 8 key), hasI (vAt m 8 key) 1 slot = false] : List Prop), p) : wrOut ⟨2, 1, key, slot, n, w, no, told, 0, rk, rn, 0, ok, on, en, j, o, lv, l, r⟩ m ⟨5, 1, key, slot, n, (vAt m 8 key), no, told, 0, rk, rn, 0, ok, on, en, j, o, lv, (othL (vAt m 8 key) 1 slot), r⟩ (mLd m 8 key) :=
  wr_new (CallC.of_call (Ewok false false) (wp_l0_m key slot n w no told rk rn ok on en j o lv l r m) h rfl z17) (nW ++ [1, 2, 3, 4, 5, 6, 7, 8, 9, 10, 11, 12, 13, 14]) (by kernel_rfl) (by kernel_rfl) ⟨by kernel_rfl, by kernel_rfl, by kernel_rfl, trivial⟩ (by kernel_rfl) z17
theorem wp_l0_n : WP (Ew false false) ⟨2, 1, key, slot, n, w, no, told, 0, rk, rn, 0, ok, on, en, j, o, lv, l, r⟩ m [Dec.l, Dec.l, Dec.l, t, Dec.l] (nW ++ [18, 19, 20]) [m.ok, Wd (vAt m 8 key) ∧ (othL (vAt m 8 key) 1 slot) = [], Wd (vAt m 8 key), hasI (vAt m 8 key) 1 slot = true, Wd (vAt m 8 key) ∧ (othL (vAt m 8 key) 0 slot) = []] := by unfold WP; kernel_rfl
theorem wo_l0_n (h : ∀ p ∈ ([m.ok, Wd (vAt m 8 key) ∧ (othL (vAt m 8 key) 1 slot) = [], Wd (vAt m 8 key), hasI (vAt m 8 key) 1 slot = true, Wd (vAt m 8 key) ∧ (othL (vAt m 8 key) 0 slot) = []] : List Prop), p) : wrOut ⟨2, 1, key, slot, n, w, no, told, 0, rk, rn, 0, ok, on, en, j, o, lv, l, r⟩ m ⟨8, 2, key, slot, n, (vAt m 8 key), no, 0, 0, rk, rn, 0, ok, on, en, j, o, ⟨slot, 0, -1, false, false⟩, (othL (vAt m 8 key) 1 slot), r⟩ (mLd m 8 key) :=
  wr_new (CallC.of_call (Ewok false false) (wp_l0_n key slot n w no told rk rn ok on en j o lv l r m) h rfl z17) (nW ++ [1, 2, 3, 4, 5, 6, 7, 8, 9, 19, 17, 18, 13, 14]) (by kernel_rfl) (by kernel_rfl) ⟨by kernel_rfl, by kernel_rfl, by kernel_rfl, by kernel_rfl, by kernel_rfl, by kernel_rfl, trivial⟩ (by kernel_rfl) z17
theorem wp_l0_o : WP (Ew false true) ⟨2, 1, key, slot, n, w, no, told, 0, rk, rn, 0, ok, on, en, j, o, lv, l, r⟩ m [Dec.l, Dec.l, Dec.l, t, f] (nW ++ [18, 19, 20]) [m.ok, Wd (vAt m 8 key) ∧ (othL (vAt m 8 key) 1 slot) = [], Wd (vAt m 8 key), hasI (vAt m 8 key) 1 slot = true, Wd (vAt m 8 key) ∧ (othL (vAt m 8 key) 0 slot) ≠ [], (((othL (vAt m 8 key) 0 slot).length : Int) == 0) = false, (0 : Int) ≤ 0, (0 : Int) < ((othL (vAt m 8 key) 0 slot).length : Int), 0 < (othL (vAt m 8 key) 0 slot).length] := by unfold WP; kernel_rfl
theorem wo_l0_o (h : ∀ p ∈ ([m.ok, Wd (vAt m 8 key) ∧ (othL (vAt m 8 key) 1 slot) = [], Wd (vAt m 8 key), hasI (vAt m 8 key) 1 slot = true, Wd (vAt m 8 key) ∧ (othL (vAt m 8 key) 0 slot) ≠ [], (((othL (vAt m 8 key) 0 slot).length : Int) == 0) = false, (0 : Int) ≤ 0, (0 : Int) < ((othL (vAt m 8 key) 0 slot).length : Int), 0 < (othL (vAt m 8 key) 0 slot).length] : List Prop), p) : wrOut ⟨2, 1, key, slot, n, w, no, told, 0, rk, rn, 0, ok, on, en, j, o, lv, l, r⟩ m ⟨6, 3, key, slot, n, (vAt m 8 key), no, told, 0, rk, rn, 1, ok, on, en, (rdJoin ((othL (vAt m 8 key) 0 slot).getD 0 0) 0 slot n), o, lv, (othL (vAt m 8 key) 1 slot), (othL (vAt m 8 key) 0 slot)⟩ (mLd m 8 key) :=
  wr_new (CallC.of_call (Ewok false true) (wp_l0_o key slot n w no told rk rn ok on en j o lv l r m) h rfl z17) (nW ++ [1, 2, 3, 4, 5, 17, 18, 19, 9, 10, 11, 12, 13, 14]) (by kernel_rfl) (by kernel_rfl) ⟨by kernel_rfl, by kernel_rfl, by kernel_rfl, by kernel_rfl, by kernel_rfl, trivial⟩ (by kernel_rfl) z17
theorem wp_l2_g : WP (Ew true false) ⟨2, 1, key, slot, n, w, no, told, 2, rk, rn, 0, ok, on, en, j, o, lv, l, r⟩ m [Dec.l, t, f, Dec.l] (nW ++ [18, 19]) [m.ok, Wd (vAt m 8 key) ∧ (othL (vAt m 8 key) 1 slot) ≠ [], decide (((othL (vAt m 8 key) 1 slot).length : Int) > 0) = true, (((othL (vAt m 8 key) 1 slot).length : Int) == 0) = false] := by unfold WP; kernel_rfl
theorem wo_l2_g (h : ∀ p ∈ ([m.ok, Wd (vAt m 8 key) ∧ (othL (vAt m 8 key) 1 slot) ≠ [], decide (((othL (vAt m 8 key) 1 slot).length : Int) > 0) = true, (((othL (vAt m 8 key) 1 slot).length : Int) == 0) = false] : List Prop), p) : wrOut ⟨2, 1, key, slot, n, w, no, told, 2, rk, rn, 0, ok, on, en, j, o, lv, l, r⟩ m ⟨3, 1, key, slot, n, (vAt m 8 key), no, told, 1, rk, rn, 0, ok, on, en, j, o, lv, (othL (vAt m 8 key) 1 slot), r⟩ (mLd m 8 key) :=
  wr_new (CallC.of_call (Ewok true false) (wp_l2_g key slot n w no told rk rn ok on en j o lv l r m) h rfl z17) (nW ++ [1, 2, 3, 17, 18, 6, 7, 8, 9, 10, 11, 12, 13, 14]) (by kernel_rfl) (by kernel_rfl) ⟨by kernel_rfl, by kernel_rfl, by kernel_rfl, by kernel_rfl, trivial⟩ (by kernel_rfl) z17
theorem wp_l2_m : WP (Ew false false) ⟨2, 1, key, slot, n, w, no, told, 2, rk, rn, 0, ok, on, en, j, o, lv, l, r⟩ m [Dec.l, Dec.l, Dec.l, f] nW [m.ok, Wd (vAt m 8 key) ∧ (othL (vAt m 8 key) 1 slot) = [], Wd (vAt m 8 key), hasI (vAt m 8 key) 1 slot = false] := by unfold WP; kernel_rfl
theorem wo_l2_m (h : ∀ p ∈ ([m.ok, Wd (vAt m 8 key) ∧ (othL (vAt m 8 key) 1 slot) = [], Wd (vAt m 8 key), hasI (vAt m 8 key) 1 slot = false] : List Prop), p) : wrOut ⟨2, 1, key, slot, n, w, no, told, 2, rk, rn, 0, ok, on, en, j, o, lv, l, r⟩ m ⟨5, 1, key, slot, n, (vAt m 8 key), no, told, 0, rk, rn, 0, ok, on, en, j, o, lv, (othL (vAt m 8 key) 1 slot), r⟩ (mLd m 8 key) :=
  wr_new (CallC.of_call (Ewok false false) (wp_l2_m key slot n w no told rk rn ok on en j o lv l r m) h rfl z17) (nW ++ [1, 2, 3, 4, 5, 6, 7, 8, 9, 10, 11, 12, 13, 14]) (by kernel_rfl) (by kernel_rfl) ⟨by kernel_rfl, by kernel_rfl, by kernel_rfl, trivial⟩ (by kernel_rfl) z17
theorem wp_l2_n : WP (Ew false false) ⟨2, 1, key, slot, n, w, no, told, 2, rk, rn, 0, ok, on, en, j, o, lv, l, r⟩ m [Dec.l, Dec.l, Dec.l, t, Dec.l] (nW ++ [18, 19, 20]) [m.ok, Wd (vAt m 8 key) ∧ (othL (vAt m 8 key) 1 slot) = [], Wd (vAt m 8 key), hasI (vAt m 8 key) 1 slot = true, Wd (vAt m 8 key) ∧ (othL (vAt m 8 key) 0 slot) = []] := by unfold WP; kernel_rfl
theorem wo_l2_n (h : ∀ p ∈ ([m.ok, Wd (vAt m 8 key) ∧ (othL (vAt m 8 key) 1 slot) = [], Wd (vAt m 8 key), hasI (vAt m 8 key) 1 slot = true, Wd (vAt m 8 key) ∧ (othL (vAt m 8 key) 0 slot) = []] : List Prop), p) : wrOut ⟨2, 1, key, slot, n, w, no, told, 2, rk, rn, 0, ok, on, en, j, o, lv, l, r⟩ m ⟨8, 2, key, slot, n, (vAt m 8 key), no, 0, 0, rk, rn, 0, ok, on, en, j, o, ⟨slot, 0, -1, false, false⟩, (othL (vAt m 8 key) 1 slot), r⟩ (mLd m 8 key) :=
  wr_new (CallC.of_call (Ewok false false) (wp_l2_n key slot n w no told rk rn ok on en j o lv l r m) h rfl z17) (nW ++ [1, 2, 3, 4, 5, 6, 7, 8, 9, 19, 17, 18, 13, 14]) (by kernel_rfl) (by kernel_rfl) ⟨by kernel_rfl, by kernel_rfl, by kernel_rfl, by kernel_rfl, by kernel_rfl, by kernel_rfl, trivial⟩ (by kernel_rfl) z17
theorem wp_l2_o : WP (Ew false true) ⟨2, 1, key, slot, n, w, no, told, 2, rk, rn, 0, ok, on, en, j, o, lv, l, r⟩ m [Dec.l, Dec.l, Dec.l, t, f] (nW ++ [18, 19, 20]) [m.ok, Wd (vAt m 8 key) ∧ (othL (vAt m 8 key) 1 slot) = [], Wd (vAt m 8 key), hasI (vAt m 8 key) 1 slot = true, Wd (vAt m 8 key) ∧ (othL (vAt m 8 key) 0 slot) ≠ [], (((othL (vAt m 8 key) 0 slot).length : Int) == 0) = false, (0 : Int) ≤ 0, (0 : Int) < ((othL (vAt m 8 key) 0 slot).length : Int), 0 < (othL (vAt m 8 key) 0 slot).length] := by unfold WP; kernel_rfl
theorem wo_l2_o (h : ∀ p ∈ ([m.ok, Wd (vAt m 8 key) ∧ (othL (vAt m 8 key) 1 slot) = [], Wd (vAt m 8 key), hasI (vAt m 8 key) 1 slot = true, Wd (vAt m 8 key) ∧ (othL (vAt m 8 key) 0 slot) ≠ [], (((othL (vAt m 8 key) 0 slot).length : Int) == 0) = false, (0 : Int) ≤ 0, (0 : Int) < ((othL (vAt m 8 key) 0 slot).length : Int), 0 < (othL (vAt m 8 key) 0 slot).length] : List Prop), p) : wrOut ⟨2, 1, key, slot, n, w, no, told, 2, rk, rn, 0, ok, on, en, j, o, lv, l, r⟩ m ⟨6, 3, key, slot, n, (vAt m 8 key), no, told, 0, rk, rn, 1, ok, on, en, (rdJoin ((othL (vAt m 8 key) 0 slot).getD 0 0) 0 slot n), o, lv, (othL (vAt m 8 key) 1 slot), (othL (vAt m 8 key) 0 slot)⟩ (mLd m 8 key) :=
  wr_new (CallC.of_call (Ewok false true) (wp_l2_o key slot n w no told rk rn ok on en j o lv l r m) h rfl z17) (nW ++ [1, 2, 3, 4, 5, 17, 18, 19, 9, 10, 11, 12, 13, 14]) (by kernel_rfl) (by kernel_rfl) ⟨by kernel_rfl, by kernel_rfl, by kernel_rfl, by kernel_rfl, by kernel_rfl, trivial⟩ (by kernel_rfl) z17
end
end Go.Proofs.YtocfhiafegkfkaaGreat.Ct
