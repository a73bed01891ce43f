/- A grace is what plain functions tell. -/
import Derived.Test.YtcpkieahnkfpoaaCtNew
namespace Go.Proofs.Ytcpkieahnkfpoaa.Ct
open Go Go.Proofs Go.Proofs.Ytcpkieahnkfpoaa.Ev
open Go.RowKit

structure Gr where
  own : Int
  at' : Int
  ret : Int
  later : Bool
abbrev grT : TypeId := 144
def Gr.cells (g : Gr) : List Value := [.int .i64 g.own, .int .i64 g.at', .int .u64 g.ret, .bool g.later]
def grL : List Value → Option Gr
  | [.int .i64 a, .int .i64 b, .int .u64 d, .bool e] => some ⟨a, b, d, e⟩
  | _ => none
theorem grL_some {l : List Value} {g : Gr} (h : grL l = some g) : l = g.cells := by
  unfold grL at h
  split at h
  · obtain rfl := Option.some.inj h; rfl
  · cases h
def grOf (hp : Hp) (k : Nat) : Option Gr :=
  match hp.get k with
  | some (.cells cs ty) => bif Nat.beq ty grT then grL cs else none
  | _ => none
theorem grOf_some {hp : Hp} {k : Nat} {g : Gr} (h : grOf hp k = some g) : hp.get k = some (.cells g.cells grT) := by
  unfold grOf at h
  split at h
  · rename_i cs ty hk
    cases hty : Nat.beq ty grT
    · simp [hty] at h
    · simp only [hty, cond_true] at h
      have e := beq_nat hty
      subst e
      rw [hk, grL_some h]
  · cases h
def goI (own a : Int) : Int := if w64 (a + 1) = own then w64 (w64 (a + 1) + 1) else w64 (a + 1)
def ltr (p ret : Int) : Bool := (p != 0) && decide (u64 (p - 1) ≤ ret)
def Gr.new (own ret : Int) : Gr := ⟨own, if 0 = own then 1 else 0, ret, false⟩
def Gr.done (g : Gr) (T : Int) : Bool := g.later || decide (g.at' ≥ T)
def Gr.step (g : Gr) (m : Mm) : Gr := if g.done m.c.t = true then g else ⟨g.own, goI g.own g.at', g.ret, ltr (getW m.w (cellIx m.c 3 g.at')) g.ret⟩
def Gr.mem (g : Gr) (m : Mm) : Mm := if g.done m.c.t = true then m else mLd m 3 g.at'
theorem Gr.mem_ok (g : Gr) {m : Mm} (h : m.ok) : (g.mem m).ok ∧ (g.mem m).c = m.c ∧ (g.mem m).w = m.w := by
  unfold Gr.mem
  split
  · exact ⟨h, rfl, rfl⟩
  · exact ⟨acc_ok h rfl, rfl, rfl⟩
def gHp (g : Gr) (m : Mm) : Hp := ⟨[(0, .cells g.cells grT), (1, .cells (m.cells 2) memT), (2, .ints .u64 m.w u64T)], 3, []⟩
abbrev gA : List Value := [.pointer (some ⟨0, 0, none⟩), .pointer (some ⟨1, 0, none⟩)]
theorem z3 {tl : List Nat} : ∀ k, k < 3 → (0 :: 1 :: 2 :: tl : List Nat).getD k 0 = k := fun k hk => by
  match k, hk with
  | 0, _ => rfl
  | 1, _ => rfl
  | 2, _ => rfl
open Dec in
section
variable (g : Gr) (m : Mm) (own ret at' : Int)
theorem ng_t : callR E15 8 43 [.int .i64 own, .int .u64 ret] ⟨[], 0, []⟩ [t] [0] = some (.pointer (some ⟨0, 0, none⟩), ⟨[(0, .cells (⟨own, 1, ret, false⟩ : Gr).cells grT)], 1, []⟩, [((0 : Int) == own) = true]) := by kernel_rfl
theorem ng_f : callR E15 8 43 [.int .i64 own, .int .u64 ret] ⟨[], 0, []⟩ [f] [0] = some (.pointer (some ⟨0, 0, none⟩), ⟨[(0, .cells (⟨own, 0, ret, false⟩ : Gr).cells grT)], 1, []⟩, [((0 : Int) == own) = false]) := by kernel_rfl
theorem gd_t : callR E15 8 46 gA (gHp g m) [t] [0, 1, 2] = some (.bool true, gHp g m, [g.later = true]) := by kernel_rfl
theorem gd_f : callR E15 8 46 gA (gHp g m) [f] [0, 1, 2] = some (.bool (decide (g.at' ≥ m.c.t)), gHp g m, [g.later = false]) := by kernel_rfl
theorem gs_l : callR E15 8 45 gA (gHp g m) [t, Dec.l] [0, 1, 2] = some (.tuple ⟨[]⟩, gHp g m, [g.later = true]) := by kernel_rfl
theorem gs_d : callR E15 8 45 gA (gHp g m) [f, t] [0, 1, 2] = some (.tuple ⟨[]⟩, gHp g m, [g.later = false, decide (g.at' ≥ m.c.t) = true]) := by kernel_rfl
theorem gs_tt : callR E15 8 45 gA (gHp g m) [f, f, t, t] [0, 1, 2] = some (.tuple ⟨[]⟩, gHp ⟨g.own, w64 (w64 (g.at' + 1) + 1), g.ret, decide (u64 (getW m.w (cellIx m.c 3 g.at') - 1) ≤ g.ret)⟩ (mLd m 3 g.at'), [g.later = false, decide (g.at' ≥ m.c.t) = false, m.ok, (getW m.w (cellIx m.c 3 g.at') != 0) = true, (w64 (g.at' + 1) == g.own) = true]) := by kernel_rfl
theorem gs_tf : callR E15 8 45 gA (gHp g m) [f, f, t, f] [0, 1, 2] = some (.tuple ⟨[]⟩, gHp ⟨g.own, w64 (g.at' + 1), g.ret, decide (u64 (getW m.w (cellIx m.c 3 g.at') - 1) ≤ g.ret)⟩ (mLd m 3 g.at'), [g.later = false, decide (g.at' ≥ m.c.t) = false, m.ok, (getW m.w (cellIx m.c 3 g.at') != 0) = true, (w64 (g.at' + 1) == g.own) = false]) := by kernel_rfl
theorem gs_ft : callR E15 8 45 gA (gHp g m) [f, f, f, t] [0, 1, 2] = some (.tuple ⟨[]⟩, gHp ⟨g.own, w64 (w64 (g.at' + 1) + 1), g.ret, false⟩ (mLd m 3 g.at'), [g.later = false, decide (g.at' ≥ m.c.t) = false, m.ok, (getW m.w (cellIx m.c 3 g.at') != 0) = false, (w64 (g.at' + 1) == g.own) = true]) := by kernel_rfl
theorem gs_ff : callR E15 8 45 gA (gHp g m) [f, f, f, f] [0, 1, 2] = some (.tuple ⟨[]⟩, gHp ⟨g.own, w64 (g.at' + 1), g.ret, false⟩ (mLd m 3 g.at'), [g.later = false, decide (g.at' ≥ m.c.t) = false, m.ok, (getW m.w (cellIx m.c 3 g.at') != 0) = false, (w64 (g.at' + 1) == g.own) = false]) := by kernel_rfl
end
theorem ng_C (own ret : Int) : CallC Try.prog 43 [.int .i64 own, .int .u64 ret] ⟨[], 0, []⟩ (.pointer (some ⟨0, 0, none⟩)) ⟨[(0, .cells (Gr.new own ret).cells grT)], 1, []⟩ := by
  by_cases h : (0 : Int) = own
  · have e : Gr.new own ret = ⟨own, 1, ret, false⟩ := by unfold Gr.new; rw [if_pos h]
    rw [e]
    exact CallC.of_call E15ok (ng_t own ret) (pcs_of ⟨beq_iff_eq.2 h, trivial⟩) rfl (fun k hk => absurd hk (Nat.not_lt_zero k))
  · have e : Gr.new own ret = ⟨own, 0, ret, false⟩ := by unfold Gr.new; rw [if_neg h]
    rw [e]
    exact CallC.of_call E15ok (ng_f own ret) (pcs_of ⟨beq_eq_false_iff_ne.2 h, trivial⟩) rfl (fun k hk => absurd hk (Nat.not_lt_zero k))
theorem gd_C (g : Gr) (m : Mm) : CallC Try.prog 46 gA (gHp g m) (.bool (g.done m.c.t)) (gHp g m) := by
  cases h : g.later
  · have e : g.done m.c.t = decide (g.at' ≥ m.c.t) := by unfold Gr.done; rw [h]; rfl
    rw [e]
    exact CallC.of_call E15ok (gd_f g m) (pcs_of ⟨h, trivial⟩) rfl z3
  · have e : g.done m.c.t = true := by unfold Gr.done; rw [h]; rfl
    rw [e]
    exact CallC.of_call E15ok (gd_t g m) (pcs_of ⟨h, trivial⟩) rfl z3
theorem gs_C (g : Gr) {m : Mm} (hok : m.ok) : CallC Try.prog 45 gA (gHp g m) (.tuple ⟨[]⟩) (gHp (g.step m) (g.mem m)) := by
  by_cases hd : g.done m.c.t = true
  · unfold Gr.step Gr.mem
    rw [if_pos hd, if_pos hd]
    cases h : g.later
    · have e : decide (g.at' ≥ m.c.t) = true := by
        unfold Gr.done at hd
        rwa [h, Bool.false_or] at hd
      exact CallC.of_call E15ok (gs_d g m) (pcs_of ⟨h, e, trivial⟩) rfl z3
    · exact CallC.of_call E15ok (gs_l g m) (pcs_of ⟨h, trivial⟩) rfl z3
  · unfold Gr.step Gr.mem
    rw [if_neg hd, if_neg hd]
    have hd' : g.later = false ∧ decide (g.at' ≥ m.c.t) = false := by
      unfold Gr.done at hd
      rw [Bool.not_eq_true, Bool.or_eq_false_iff] at hd
      exact hd
    obtain ⟨h1, h2⟩ := hd'
    unfold goI ltr
    by_cases hp : getW m.w (cellIx m.c 3 g.at') = 0
    · have e1 : (getW m.w (cellIx m.c 3 g.at') != 0) = false := by rw [hp]; rfl
      rw [e1, Bool.false_and]
      by_cases ho : w64 (g.at' + 1) = g.own
      · rw [if_pos ho]
        exact CallC.of_call E15ok (gs_ft g m) (pcs_of ⟨h1, h2, hok, e1, beq_iff_eq.2 ho, trivial⟩) rfl z3
      · rw [if_neg ho]
        exact CallC.of_call E15ok (gs_ff g m) (pcs_of ⟨h1, h2, hok, e1, beq_eq_false_iff_ne.2 ho, trivial⟩) rfl z3
    · have e1 : (getW m.w (cellIx m.c 3 g.at') != 0) = true := bne_iff_ne.2 hp
      rw [e1, Bool.true_and]
      by_cases ho : w64 (g.at' + 1) = g.own
      · rw [if_pos ho]
        exact CallC.of_call E15ok (gs_tt g m) (pcs_of ⟨h1, h2, hok, e1, beq_iff_eq.2 ho, trivial⟩) rfl z3
      · rw [if_neg ho]
        exact CallC.of_call E15ok (gs_tf g m) (pcs_of ⟨h1, h2, hok, e1, beq_eq_false_iff_ne.2 ho, trivial⟩) rfl z3
def gNg (args : List Value) (hp : Hp) : Option (Value × Hp × List Prop) :=
  match args with
  | [.int .i64 own, .int .u64 ret] => some (.pointer (some ⟨hp.next, 0, none⟩), ⟨(hp.next, .cells (Gr.new own ret).cells grT) :: delB [hp.next] hp.blks, hp.next + 1, hp.log⟩, [])
  | _ => none
theorem gNg_ok : ∀ args hp v hp' pc, gNg args hp = some (v, hp', pc) → ∀ ds, CallOk Try.prog 43 args hp ⟨v, hp', ds, pc⟩ := by
  intro args hp v hp' pc hg ds
  unfold gNg at hg
  split at hg
  · rename_i own ret
    simp only [Option.some.injEq, Prod.mk.injEq] at hg
    obtain ⟨rfl, rfl, rfl⟩ := hg
    exact CallC.lift (enters (fn := Try.f43) (by kernel_rfl) (by kernel_rfl) rfl) (fun _ => ng_C own ret) [] [0] (Nat.zero_le _) rfl rfl rfl rfl rfl trivial (hp := hp) (args := [.int .i64 own, .int .u64 ret]) rfl trivial ds
  · cases hg
theorem gTell1 (g : Gr) (m : Mm) : allLt 3 (tellers gA (gHp g m)) = true := by simp [tellers, nmL, nm, gHp, tellers.tellB, allLt, Blk.nm, Mm.cells, Cfg.cells, Tc.cells, Gr.cells, Nat.blt]
theorem gTell2 (g : Gr) (m : Mm) : allHas (tellers gA (gHp g m)) (upTo 3) = true := by simp [tellers, nmL, nm, gHp, tellers.tellB, allHas, has, upTo, Blk.nm, Mm.cells, Cfg.cells, Tc.cells, Gr.cells, Nat.beq]
def gGd (args : List Value) (hp : Hp) : Option (Value × Hp × List Prop) :=
  match args with
  | [.pointer (some ⟨gk, 0, none⟩), .pointer (some ⟨k, 0, none⟩)] => match grOf hp gk, memOf hp k with
    | some g, some (wn, m) => bif nodupB [gk, k, wn] then some (.bool (g.done m.c.t), hp, []) else none
    | _, _ => none
  | _ => none
theorem gGd_ok : ∀ args hp v hp' pc, gGd args hp = some (v, hp', pc) → ∀ ds, CallOk Try.prog 46 args hp ⟨v, hp', ds, pc⟩ := by
  intro args hp v hp' pc hg ds
  unfold gGd at hg
  split at hg
  · rename_i gk k
    split at hg
    · rename_i g wn m hgr hm
      cases hnd : nodupB [gk, k, wn]
      · simp [hnd] at hg
      simp only [hnd, cond_true, Option.some.injEq, Prod.mk.injEq] at hg
      obtain ⟨rfl, rfl, rfl⟩ := hg
      obtain ⟨h1, h2, h3⟩ := memOf_some hm
      have hl := CallC.lift (enters (fn := Try.f46) (by kernel_rfl) (by kernel_rfl) rfl) (pc := []) (fun _ => gd_C g m) [gk, k, wn] [] (Nat.le_refl _) rfl (gTell1 g m) (gTell2 g m) hnd rfl
        ⟨.inr rfl, .inr rfl, .inr rfl, trivial⟩ (hp := hp) (args := [.pointer (some ⟨gk, 0, none⟩), .pointer (some ⟨k, 0, none⟩)]) rfl ⟨grOf_some hgr, h1, h2, trivial⟩ ds
      have e : hp.lay [gk, k, wn] (gHp g m).next (gHp g m) [] = hp := by simp [Hp.lay, pick', layB, mapN, delB_nil, below, gHp, has]
      rw [e] at hl
      exact hl
    · cases hg
  · cases hg
def gGs (args : List Value) (hp : Hp) : Option (Value × Hp × List Prop) :=
  match args with
  | [.pointer (some ⟨gk, 0, none⟩), .pointer (some ⟨k, 0, none⟩)] => match grOf hp gk, memOf hp k with
    | some g, some (wn, m) => bif nodupB [gk, k, wn] then some (.tuple ⟨[]⟩, ⟨(gk, .cells (g.step m).cells grT) :: (k, .cells ((g.mem m).cells wn) memT) :: (wn, .ints .u64 (g.mem m).w u64T) :: delB [gk, k, wn] hp.blks, hp.next, gk :: k :: wn :: hp.log⟩, [m.ok]) else none
    | _, _ => none
  | _ => none
theorem gGs_ok : ∀ args hp v hp' pc, gGs args hp = some (v, hp', pc) → ∀ ds, CallOk Try.prog 45 args hp ⟨v, hp', ds, pc⟩ := by
  intro args hp v hp' pc hg ds
  unfold gGs at hg
  split at hg
  · rename_i gk k
    split at hg
    · rename_i g wn m hgr hm
      cases hnd : nodupB [gk, k, wn]
      · simp [hnd] at hg
      simp only [hnd, cond_true, Option.some.injEq, Prod.mk.injEq] at hg
      obtain ⟨rfl, rfl, rfl⟩ := hg
      obtain ⟨h1, h2, h3⟩ := memOf_some hm
      exact CallC.lift (enters (fn := Try.f45) (by kernel_rfl) (by kernel_rfl) rfl) (pc := [m.ok]) (fun hp => gs_C g (hd1 hp)) [gk, k, wn] [0, 1, 2] (Nat.le_refl _) rfl (gTell1 g m) (gTell2 g m) hnd rfl
        ⟨.inl (by simp), .inl (by simp), .inl (by simp), trivial⟩ (hp := hp) (args := [.pointer (some ⟨gk, 0, none⟩), .pointer (some ⟨k, 0, none⟩)]) rfl ⟨grOf_some hgr, h1, h2, trivial⟩ ds
    · cases hg
  · cases hg
noncomputable def E18 : Env := ((E15.add 43 gNg).add 46 gGd).add 45 gGs
theorem E18ok : EnvOk E18 := ((E15ok.add gNg_ok).add gGd_ok).add gGs_ok
end Go.Proofs.Ytcpkieahnkfpoaa.Ct
