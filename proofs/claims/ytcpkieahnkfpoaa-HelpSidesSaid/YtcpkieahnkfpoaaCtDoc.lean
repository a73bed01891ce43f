/- Contracts of the document's words of a status, and of the Tally. -/
import Derived.Test.YtcpkieahnkfpoaaCtGraced
import Derived.Test.YtcpkieahnkfpoaaCtMove
namespace Go.Proofs.Ytcpkieahnkfpoaa.Ct
open Go Go.Proofs Go.Proofs.Ytcpkieahnkfpoaa.Ev
open Go.RowKit

structure Dg where
  own : Int
  ret : Int
  passed : Int
  later : Bool
def Dg.cells (d : Dg) : List Value := [.int .i64 d.own, .int .u64 d.ret, .int .i64 d.passed, .bool d.later]
def dgL : List Value → Option Dg
  | [.int .i64 a, .int .u64 b, .int .i64 e, .bool f] => some ⟨a, b, e, f⟩
  | _ => none
theorem dgL_some {l : List Value} {d : Dg} (h : dgL l = some d) : l = d.cells := by
  unfold dgL at h
  split at h
  · obtain rfl := Option.some.inj h; rfl
  · cases h
def nxI (own p : Int) : Int := if p = own then w64 (p + 1) else p
def Dg.nx (d : Dg) : Int := nxI d.own d.passed
def Dg.done (d : Dg) (T : Int) : Bool := d.later || decide (d.nx ≥ T)
def ltd (p ret : Int) : Bool := decide (p > 0) && decide (u64 (p - 1) ≤ ret)
def Dg.step (d : Dg) (m : Mm) : Dg := if d.done m.c.t = true then d else ⟨d.own, d.ret, w64 (d.nx + 1), ltd (getW m.w (cellIx m.c 3 d.nx)) d.ret⟩
def Dg.mem (d : Dg) (m : Mm) : Mm := if d.done m.c.t = true then m else mLd m 3 d.nx
open Dec in
section
variable (d : Dg) (T : Int) (m : Mm)
theorem dd_l : callR E19 8 56 [.agg ⟨d.cells⟩, .int .i64 T] ⟨[], 0, []⟩ [t] [] = some (.bool true, ⟨[], 0, []⟩, [d.later = true]) := by kernel_rfl
theorem dd_tt : callR E19 8 56 [.agg ⟨d.cells⟩, .int .i64 T] ⟨[], 0, []⟩ [f, t, t] [] = some (.bool (decide (T ≥ T)), ⟨[], 0, []⟩, [d.later = false, (d.passed == d.own) = true, decide (w64 (d.passed + 1) > T) = true]) := by kernel_rfl
theorem dd_tf : callR E19 8 56 [.agg ⟨d.cells⟩, .int .i64 T] ⟨[], 0, []⟩ [f, t, f] [] = some (.bool (decide (w64 (d.passed + 1) ≥ T)), ⟨[], 0, []⟩, [d.later = false, (d.passed == d.own) = true, decide (w64 (d.passed + 1) > T) = false]) := by kernel_rfl
theorem dd_ft : callR E19 8 56 [.agg ⟨d.cells⟩, .int .i64 T] ⟨[], 0, []⟩ [f, f, t] [] = some (.bool (decide (T ≥ T)), ⟨[], 0, []⟩, [d.later = false, (d.passed == d.own) = false, decide (d.passed > T) = true]) := by kernel_rfl
theorem dd_ff : callR E19 8 56 [.agg ⟨d.cells⟩, .int .i64 T] ⟨[], 0, []⟩ [f, f, f] [] = some (.bool (decide (d.passed ≥ T)), ⟨[], 0, []⟩, [d.later = false, (d.passed == d.own) = false, decide (d.passed > T) = false]) := by kernel_rfl
end
theorem dd_C (d : Dg) (T : Int) : CallC Try.prog 56 [.agg ⟨d.cells⟩, .int .i64 T] ⟨[], 0, []⟩ (.bool (d.done T)) ⟨[], 0, []⟩ := by
  cases hl : d.later
  · have e : d.done T = decide (d.nx ≥ T) := by unfold Dg.done; rw [hl]; rfl
    rw [e]
    unfold Dg.nx nxI
    by_cases ho : d.passed = d.own
    · rw [if_pos ho]
      by_cases ht : w64 (d.passed + 1) > T
      · have := path E19ok 8 (dd_tt d T) (pcs_of ⟨hl, beq_iff_eq.2 ho, decide_eq_true ht, trivial⟩) rfl
        rw [decide_eq_true (show T ≥ T from Int.le_refl _)] at this
        rw [decide_eq_true (show w64 (d.passed + 1) ≥ T by omega)]
        exact this
      · exact path E19ok 8 (dd_tf d T) (pcs_of ⟨hl, beq_iff_eq.2 ho, decide_eq_false ht, trivial⟩) rfl
    · rw [if_neg ho]
      by_cases ht : d.passed > T
      · have := path E19ok 8 (dd_ft d T) (pcs_of ⟨hl, beq_eq_false_iff_ne.2 ho, decide_eq_true ht, trivial⟩) rfl
        rw [decide_eq_true (show T ≥ T from Int.le_refl _)] at this
        rw [decide_eq_true (show d.passed ≥ T by omega)]
        exact this
      · exact path E19ok 8 (dd_ff d T) (pcs_of ⟨hl, beq_eq_false_iff_ne.2 ho, decide_eq_false ht, trivial⟩) rfl
  · have e : d.done T = true := by unfold Dg.done; rw [hl]; rfl
    rw [e]
    exact path E19ok 8 (dd_l d T) (pcs_of ⟨hl, trivial⟩) rfl
def gDd (args : List Value) (hp : Hp) : Option (Value × Hp × List Prop) :=
  match args with
  | [.agg ⟨l⟩, .int .i64 T] => match dgL l with
    | some d => some (.bool (d.done T), hp, [])
    | none => none
  | _ => none
theorem gDd_ok : ∀ args hp v hp' pc, gDd args hp = some (v, hp', pc) → ∀ ds, CallOk Try.prog 56 args hp ⟨v, hp', ds, pc⟩ := by
  intro args hp v hp' pc hg ds
  unfold gDd at hg
  split at hg
  · rename_i l T
    split at hg
    · rename_i d hd
      simp only [Option.some.injEq, Prod.mk.injEq] at hg
      obtain ⟨rfl, rfl, rfl⟩ := hg
      rw [dgL_some hd]
      exact CallC.pure (enters (fn := Try.f56) (by kernel_rfl) (by kernel_rfl) rfl) (fun _ => dd_C d T) rfl rfl hp ds
    · cases hg
  · cases hg
noncomputable def E27a : Env := E19.add 56 gDd
theorem E27aok : EnvOk E27a := E19ok.add gDd_ok
/-! A step -/
abbrev akArgs (d : Dg) (m : Mm) : List Value := [.agg ⟨d.cells⟩, .agg ⟨m.rcells 0 1⟩]
def akV (d : Dg) (m : Mm) (a b : Nat) : Value := .tuple ⟨[.agg ⟨d.cells⟩, .agg ⟨m.rcells a b⟩]⟩
theorem akV_rn (d : Dg) (m : Mm) (σ : Nat → Nat) : rn σ (akV d m 2 3) = akV d m (σ 2) (σ 3) := rfl
theorem akV_nm (d : Dg) (m : Mm) : ∀ k ∈ nm (akV d m 2 3), k < 4 := fun k hk => by
  simp [akV, nm, nmA, nmL, Mm.rcells, Cfg.cells, Tc.cells, Dg.cells] at hk
  omega
def rVw (m : Mm) (w : List Int) : Hp := ⟨[(0, .view 0 (.ints .u64 m.w u64T)), (2, .view 0 (.ints .u64 w u64T))], 4, []⟩
theorem r_vw {f : FuncId} {args : List Value} {m m' : Mm} {V : Nat → Nat → Value} (hV : ∀ σ, rn σ (V 2 3) = V (σ 2) (σ 3)) (hn : ∀ k ∈ nm (V 2 3), k < 4) (h : CallC Try.prog f args (rHp m) (V 2 3) (rVw m m'.w)) : CallC Try.prog f args (rHp m) (V 2 3) (rOut m m') := by
  refine CallC.alias h (rHp_isV m) [0, 1, 2, 3] (fun k hk => ?_) (hV fun k => [0, 1, 2, 3].getD k 0).symm hn fun n b hb => ?_
  · match k, hk with
    | 0, _ => rfl
    | 1, _ => rfl
  · rcases rOut_get hb with ⟨rfl, rfl⟩ | ⟨rfl, rfl⟩
    · exact ⟨by show 2 < 4; omega, rfl, .view 0 (.ints .u64 m'.w u64T), rfl, fun ρ o ho ρ'' => view_view ρ o ho ρ''⟩
    · exact ⟨by show 0 < 4; omega, rfl, .view 0 (.ints .u64 m.w u64T), rfl, fun ρ o ho ρ'' => view_view ρ o ho ρ''⟩
open Dec in
section
variable (d : Dg) (m : Mm)
theorem ak_d : callR E27a 8 57 (akArgs d m) (rHp m) [t] [0, 1] = some (akV d m 0 1, rHp m, [d.done m.c.t = true]) := by kernel_rfl
theorem ak_tt : callR E27a 8 57 (akArgs d m) (rHp m) [f, t, f, t] [0, 1, 7, 8] = some (akV ⟨d.own, d.ret, w64 (w64 (d.passed + 1) + 1), decide (u64 (getW m.w (cellIx m.c 3 (w64 (d.passed + 1))) - 1) ≤ d.ret)⟩ (mLd m 3 (w64 (d.passed + 1))) 2 3, rVw m m.w, [d.done m.c.t = false, (d.passed == d.own) = true, decide (w64 (d.passed + 1) > m.c.t) = false, m.ok ∧ m.c.Right, decide (getW m.w (cellIx m.c 3 (w64 (d.passed + 1))) > 0) = true]) := by kernel_rfl
theorem ak_tf : callR E27a 8 57 (akArgs d m) (rHp m) [f, t, f, f] [0, 1, 7, 8] = some (akV ⟨d.own, d.ret, w64 (w64 (d.passed + 1) + 1), false⟩ (mLd m 3 (w64 (d.passed + 1))) 2 3, rVw m m.w, [d.done m.c.t = false, (d.passed == d.own) = true, decide (w64 (d.passed + 1) > m.c.t) = false, m.ok ∧ m.c.Right, decide (getW m.w (cellIx m.c 3 (w64 (d.passed + 1))) > 0) = false]) := by kernel_rfl
theorem ak_ft : callR E27a 8 57 (akArgs d m) (rHp m) [f, f, f, t] [0, 1, 7, 8] = some (akV ⟨d.own, d.ret, w64 (d.passed + 1), decide (u64 (getW m.w (cellIx m.c 3 d.passed) - 1) ≤ d.ret)⟩ (mLd m 3 d.passed) 2 3, rVw m m.w, [d.done m.c.t = false, (d.passed == d.own) = false, decide (d.passed > m.c.t) = false, m.ok ∧ m.c.Right, decide (getW m.w (cellIx m.c 3 d.passed) > 0) = true]) := by kernel_rfl
theorem ak_ff : callR E27a 8 57 (akArgs d m) (rHp m) [f, f, f, f] [0, 1, 7, 8] = some (akV ⟨d.own, d.ret, w64 (d.passed + 1), false⟩ (mLd m 3 d.passed) 2 3, rVw m m.w, [d.done m.c.t = false, (d.passed == d.own) = false, decide (d.passed > m.c.t) = false, m.ok ∧ m.c.Right, decide (getW m.w (cellIx m.c 3 d.passed) > 0) = false]) := by kernel_rfl
end
theorem ak_C (d : Dg) {m : Mm} (hok : m.ok) (hr : m.c.Right) : CallC Try.prog 57 (akArgs d m) (rHp m) (akV (d.step m) (d.mem m) 2 3) (rOut m (d.mem m)) := by
  by_cases hd : d.done m.c.t = true
  · unfold Dg.step Dg.mem
    rw [if_pos hd, if_pos hd]
    exact r_same (V := akV d m) rfl (akV_rn _ _) (akV_nm _ _) (CallC.of_call E27aok (ak_d d m) (pcs_of ⟨hd, trivial⟩) rfl z2L)
  · unfold Dg.step Dg.mem
    rw [if_neg hd, if_neg hd]
    have hd' : d.done m.c.t = false := by simpa using hd
    have hlt : ¬ d.nx > m.c.t := by
      unfold Dg.done at hd'
      rw [Bool.or_eq_false_iff, decide_eq_false_iff_not] at hd'
      omega
    unfold ltd
    by_cases ho : d.passed = d.own
    · have en : d.nx = w64 (d.passed + 1) := by unfold Dg.nx nxI; rw [if_pos ho]
      rw [en] at hlt ⊢
      by_cases hp : getW m.w (cellIx m.c 3 (w64 (d.passed + 1))) > 0
      · rw [decide_eq_true hp, Bool.true_and]
        exact r_vw (V := akV _ _) (akV_rn _ _) (akV_nm _ _) (CallC.of_call E27aok (ak_tt d m) (pcs_of ⟨hd', beq_iff_eq.2 ho, decide_eq_false hlt, ⟨hok, hr⟩, decide_eq_true hp, trivial⟩) rfl z2L)
      · rw [decide_eq_false hp, Bool.false_and]
        exact r_vw (V := akV _ _) (akV_rn _ _) (akV_nm _ _) (CallC.of_call E27aok (ak_tf d m) (pcs_of ⟨hd', beq_iff_eq.2 ho, decide_eq_false hlt, ⟨hok, hr⟩, decide_eq_false hp, trivial⟩) rfl z2L)
    · have en : d.nx = d.passed := by unfold Dg.nx nxI; rw [if_neg ho]
      rw [en] at hlt ⊢
      by_cases hp : getW m.w (cellIx m.c 3 d.passed) > 0
      · rw [decide_eq_true hp, Bool.true_and]
        exact r_vw (V := akV _ _) (akV_rn _ _) (akV_nm _ _) (CallC.of_call E27aok (ak_ft d m) (pcs_of ⟨hd', beq_eq_false_iff_ne.2 ho, decide_eq_false hlt, ⟨hok, hr⟩, decide_eq_true hp, trivial⟩) rfl z2L)
      · rw [decide_eq_false hp, Bool.false_and]
        exact r_vw (V := akV _ _) (akV_rn _ _) (akV_nm _ _) (CallC.of_call E27aok (ak_ff d m) (pcs_of ⟨hd', beq_eq_false_iff_ne.2 ho, decide_eq_false hlt, ⟨hok, hr⟩, decide_eq_false hp, trivial⟩) rfl z2L)
def gAk (args : List Value) (hp : Hp) : Option (Value × Hp × List Prop) :=
  match args with
  | [.agg ⟨l⟩, r] => match dgL l, refOf hp r with
    | some d, some (_, _, m) => some (akV (d.step m) (d.mem m) hp.next (hp.next + 1), refPut hp (d.mem m), [m.ok ∧ m.c.Right])
    | _, _ => none
  | _ => none
theorem gAk_ok : ∀ args hp v hp' pc, gAk args hp = some (v, hp', pc) → ∀ ds, CallOk Try.prog 57 args hp ⟨v, hp', ds, pc⟩ := by
  intro args hp v hp' pc hg ds
  unfold gAk at hg
  split at hg
  · rename_i l r
    split at hg
    · rename_i d rn cn m hd hq
      simp only [Option.some.injEq, Prod.mk.injEq] at hg
      obtain ⟨rfl, rfl, rfl⟩ := hg
      rw [dgL_some hd]
      obtain ⟨rfl, h2, h3⟩ := refOf_some hq
      have hl := CallC.lift (enters (fn := Try.f57) (by kernel_rfl) (by kernel_rfl) rfl) (pc := [m.ok ∧ m.c.Right]) (fun h => ak_C d (hd1 h).1 (hd1 h).2) [rn, cn] [2] (by show 2 ≤ 4; omega) rfl (by simp [tellers, nmL, nm, nmA, rHp, tellers.tellB, allLt, Blk.nm, Mm.rcells, Cfg.cells, Tc.cells, Dg.cells, Nat.blt]) (by simp [tellers, nmL, nm, nmA, rHp, tellers.tellB, allHas, has, upTo, Blk.nm, Mm.rcells, Cfg.cells, Tc.cells, Dg.cells, Nat.beq]) (nodup2 h3) rfl
        ⟨.inr rfl, trivial⟩ (hp := hp) (args := [.agg ⟨d.cells⟩, .agg ⟨m.rcells rn cn⟩]) rfl ⟨h2, trivial⟩ ds
      exact hl
    · cases hg
  · cases hg
noncomputable def E27 : Env := E27a.add 57 gAk
theorem E27ok : EnvOk E27 := E27aok.add gAk_ok
noncomputable def E28 : Env := E27.add 22 gOfW
theorem E28ok : EnvOk E28 := E27ok.add gOfW_ok
/-- The program's grace, and the document's, are where the other one is. -/
structure RelG (g : Gr) (d : Dg) : Prop where
  own : g.own = d.own
  ret : g.ret = d.ret
  later : g.later = d.later
  at' : g.at' = d.nx
theorem RelG.new (own ret : Int) : RelG (Gr.new own ret) ⟨own, ret, 0, false⟩ := by
  refine ⟨rfl, rfl, rfl, ?_⟩
  show (if 0 = own then (1 : Int) else 0) = nxI own 0
  unfold nxI
  split
  · rw [w64_in (by omega) (by omega)]; rfl
  · rfl
theorem RelG.done {g : Gr} {d : Dg} (h : RelG g d) (T : Int) : d.done T = g.done T := by
  unfold Dg.done Gr.done
  rw [h.later, h.at']
theorem RelG.step {g : Gr} {d : Dg} (h : RelG g d) (m q : Mm) (hc : q.c = m.c) (hw : q.w = m.w) (hp : ∀ i, 0 ≤ getW m.w i) : RelG (g.step m) (d.step q) := by
  unfold Gr.step Dg.step
  rw [hc, h.done]
  by_cases hd : g.done m.c.t = true
  · rw [if_pos hd, if_pos hd]
    exact h
  · rw [if_neg hd, if_neg hd]
    refine ⟨h.own, h.ret, ?_, ?_⟩
    · show ltr (getW m.w (cellIx m.c 3 g.at')) g.ret = ltd (getW q.w (cellIx m.c 3 d.nx)) d.ret
      rw [hw, h.at', h.ret]
      have := hp (cellIx m.c 3 d.nx)
      unfold ltr ltd
      generalize getW m.w (cellIx m.c 3 d.nx) = p at *
      by_cases e : p = 0
      · subst e; rfl
      · rw [bne_iff_ne.2 e, decide_eq_true (show p > 0 by omega)]
    · show goI g.own g.at' = nxI d.own (w64 (d.nx + 1))
      unfold goI nxI
      rw [h.own, h.at']
theorem RelG.mem {g : Gr} {d : Dg} (h : RelG g d) (m : Mm) : d.mem m.doc = (g.mem m).doc := by
  unfold Gr.mem Dg.mem
  have hd := h.done m.c.t
  by_cases e : g.done m.c.t = true
  · rw [if_pos e, if_pos (show d.done m.doc.c.t = true from hd.trans e)]
  · rw [if_neg e, if_neg (show ¬ d.done m.doc.c.t = true from fun x => e (hd.symm.trans x)), h.at']
    rfl
end Go.Proofs.Ytcpkieahnkfpoaa.Ct
namespace Go.Proofs.Ytcpkieahnkfpoaa.Ct
open Go Go.Proofs Go.Proofs.Ytcpkieahnkfpoaa.Ev
open Go.RowKit

theorem law_play2 {E E' : Env} (hE : EnvOk E) (hP : E.P = E'.P) {n : Nat} {f : FuncId} {c : Cfg} {v : Value} {l : List Int} {ks : List IntKind} {zs : List Int} {sv : Value} {rows : List (List Int)} {w : World} (hl : RowIn .u64 w v l) (hs : RowR pkK w sv rows)
    (hin : c.Right → (l.length : Int) = c.len → ∀ off cap (pk : Pk), (pk = .nil ∨ ∃ of2 cap2, pk = .row of2 cap2 rows) → ∃ hp1, CallC E'.P f [c.v, .slice (some ⟨0, off, none⟩) l.length cap, .agg ⟨rowV ks zs ++ [pk.sv 1]⟩] (plHp l off pk) (.bool true) hp1)
    (hno : ¬ c.Right → ∀ a m cap (pk : Pk), ∃ ds pc, told (doCall E n f [c.v, .slice a m cap, .agg ⟨rowV ks zs ++ [pk.sv 1]⟩] ⟨[], 2, []⟩ ds) = some (.bool true, pc) ∧ ∀ p ∈ pc, p)
    (hlen : c.Right → ∀ a (m cap : Nat) (pk : Pk), (m : Int) ≠ c.len → ∃ ds pc, told (doCall E n f [c.v, .slice a m cap, .agg ⟨rowV ks zs ++ [pk.sv 1]⟩] ⟨[], 2, []⟩ ds) = some (.bool true, pc) ∧ ∀ p ∈ pc, p) :
    Calls E'.P f #[c.v, v, .agg ⟨rowV ks zs ++ [sv]⟩] w fun e w1 => e = .returned (.bool true) ∧ Below w.heap.size w w1 := by
  by_cases h : c.Right ∧ (l.length : Int) = c.len
  · obtain ⟨hr, hlen⟩ := h
    have hcl := Cfg.len_in hr
    rcases hl with ⟨_, rfl⟩ | ⟨b, off, cap, rfl, hcell, _, hblk⟩
    · simp at hlen
      omega
    · rcases hs with ⟨rfl, rfl⟩ | ⟨b2, of2, cap2, rfl, hcell2, _, hblk2⟩
      · obtain ⟨hp1, hC⟩ := hin hr hlen off cap .nil (.inl rfl)
        have hargs : VRL (fun k => k < 2) (fun _ => b) [c.v, .slice (some ⟨0, off, none⟩) l.length cap, .agg ⟨rowV ks zs ++ [.slice none 0 0]⟩] [c.v, .slice (some ⟨b, off, none⟩) l.length cap, .agg ⟨rowV ks zs ++ [.slice none 0 0]⟩] := fun ρ' ha => by
          have e0 : ρ' 0 = b := ha 0 (by omega)
          simp [Cfg.ren_v, ren, renA, renL_map, renAddr, e0, rowV_nm]
        exact calls_of_C hC rfl view_isV hargs (HR_row2 (ρ := fun _ => b) Nat.zero_lt_two hcell hblk)
      · obtain ⟨hp1, hC⟩ := hin hr hlen off cap (.row of2 cap2 rows) (.inr ⟨of2, cap2, rfl⟩)
        let ρ : Nat → Nat := fun k => if k = 0 then b else b2
        have hargs : VRL (fun k => k < 2) ρ [c.v, .slice (some ⟨0, off, none⟩) l.length cap, .agg ⟨rowV ks zs ++ [.slice (some ⟨1, of2, none⟩) rows.length cap2]⟩] [c.v, .slice (some ⟨b, off, none⟩) l.length cap, .agg ⟨rowV ks zs ++ [.slice (some ⟨b2, of2, none⟩) rows.length cap2]⟩] := fun ρ' ha => by
          have e0 : ρ' 0 = b := ha 0 (by omega)
          have e1 : ρ' 1 = b2 := ha 1 (by omega)
          simp [Cfg.ren_v, ren, renA, renL_map, renAddr, e0, e1, rowV_nm]
        exact calls_of_C hC rfl (two_isV rfl rfl) hargs (HR_two rfl rfl (sat_ints hcell hblk) (sat_recs hcell2 hblk2))
  · obtain ⟨a, cap, hv⟩ := row_any hl
    obtain ⟨pk, b2, hv2⟩ : ∃ (pk : Pk) (b2 : Nat), ∀ ρ' : Nat → Nat, ρ' 1 = b2 → ren ρ' (pk.sv 1) = sv := by
      rcases hs with ⟨rfl, rfl⟩ | ⟨b, off, cap, rfl, _, _⟩
      · exact ⟨.nil, 0, fun _ _ => rfl⟩
      · exact ⟨.row off cap rows, b, fun ρ' h => by simp [Pk.sv, ren, renAddr, h]⟩
    let ρ : Nat → Nat := fun k => if k = 0 then (a.map Addr.block).getD 0 else b2
    have hargs : VRL (fun k => k < 2) ρ [c.v, .slice (anyB 0 a) l.length cap, .agg ⟨rowV ks zs ++ [pk.sv 1]⟩] [c.v, v, .agg ⟨rowV ks zs ++ [sv]⟩] := fun ρ' ha => by
      have e0 : ρ' 0 = (a.map Addr.block).getD 0 := ha 0 (by omega)
      have e1 : ρ' 1 = b2 := ha 1 (by omega)
      rw [hv]
      simp only [List.map_cons, List.map_nil, Cfg.ren_v, anyB_rel 0 a ρ' _ _ e0, ren_agg, List.map_append, rowV_nm, hv2 ρ' e1]
    rw [← hP]
    by_cases hr : c.Right
    · have hlen' : (l.length : Int) ≠ c.len := fun e => h ⟨hr, e⟩
      obtain ⟨ds, pc, h1, h2⟩ := hlen hr (anyB 0 a) l.length cap pk hlen'
      exact true_of_path hE h1 h2 none_isV hargs (HR_none _ 2)
    · obtain ⟨ds, pc, h1, h2⟩ := hno hr (anyB 0 a) l.length cap pk
      exact true_of_path hE h1 h2 none_isV hargs (HR_none _ 2)

theorem fldR_get (rows : List (List Int)) : ∀ (q i : Nat), ((fldR rows q).getD i []).getD 0 0 = (rows.getD i []).getD q 0
  | 0, i => rfl
  | q + 1, i => by
    have ih := fldR_tail rows q i
    exact ih
where
  fldR_tail (rows : List (List Int)) : ∀ (q i : Nat), ((fldR rows (q + 1)).getD i []).getD 0 0 = (rows.getD i []).getD (q + 1) 0 := fun q i => by
    have key : ∀ (q i : Nat), (fldR rows q).getD i [] = (rows.getD i []).drop q := fun q => by
      induction q with
      | zero => intro i; rfl
      | succ q ih =>
        intro i
        show ((fldR rows q).map List.tail).getD i [] = _
        rw [List.getD_eq_getElem?_getD, List.getElem?_map]
        have := ih i
        rw [List.getD_eq_getElem?_getD] at this
        cases hg : (fldR rows q)[i]? with
        | none =>
          rw [hg] at this
          have e : (rows.getD i []).drop q = [] := this.symm
          show [] = (rows.getD i []).drop (q + 1)
          rw [← List.tail_drop, e]
          rfl
        | some r =>
          rw [hg] at this
          have e : r = (rows.getD i []).drop q := this
          show r.tail = _
          rw [e, List.tail_drop]
    rw [key, List.getD_eq_getElem?_getD, List.getElem?_drop, List.getD_eq_getElem?_getD]
    rfl
/-- The pokes' words are words. -/
def Pk.good : Pk → Prop
  | .nil => True
  | .row _ _ rows => ∀ r ∈ rows, 0 ≤ r.getD 3 0 ∧ r.getD 3 0 ≤ 18446744073709551615
theorem good_of {w : World} {sv : Value} {rows : List (List Int)} (hs : RowR pkK w sv rows) {pk : Pk} (h : pk = .nil ∨ ∃ of2 cap2, pk = .row of2 cap2 rows) : pk.good := by
  rcases h with rfl | ⟨of2, cap2, rfl⟩
  · trivial
  · rcases hs with ⟨_, rfl⟩ | ⟨_, _, _, _, _, hr, _⟩
    · intro r hr; cases hr
    · exact fun r h => bounds_u64 ((hr r h).2 3 (by decide))
theorem pv_good {rows : List (List Int)} (h : ∀ r ∈ rows, 0 ≤ r.getD 3 0 ∧ r.getD 3 0 ≤ 18446744073709551615) (of2 i : Nat) : 0 ≤ pv rows of2 i 3 ∧ pv rows of2 i 3 ≤ 18446744073709551615 := by
  unfold pv
  rw [fldR_get, List.getD_eq_getElem?_getD (l := rows)]
  cases hg : rows[pl4 of2 i / 4]? with
  | none => exact ⟨Int.le_refl _, by show (0 : Int) ≤ _; omega⟩
  | some r => exact h r (List.mem_of_getElem? hg)
theorem pokeFrom_wf {rows : List (List Int)} (h : ∀ r ∈ rows, 0 ≤ r.getD 3 0 ∧ r.getD 3 0 ≤ 18446744073709551615) (of2 : Nat) (step : Int) : ∀ (k i : Nat) (m : Mm), WfW m.w → WfW (pokeFrom rows of2 step k i m).w
  | 0, _, _, hm => hm
  | k + 1, i, m, hm => by
    unfold pokeFrom
    split
    · exact pokeFrom_wf h of2 step k (i + 1) _ (hm.setW _ (pv_good h of2 i).1 (pv_good h of2 i).2)
    · exact pokeFrom_wf h of2 step k (i + 1) m hm
theorem Pk.do_wf {pk : Pk} (h : pk.good) (step : Int) {m : Mm} (hm : WfW m.w) : WfW (pk.do step m).w := by
  cases pk with
  | nil => exact hm
  | row of2 cap2 rows => exact pokeFrom_wf h of2 step _ _ m hm
end Go.Proofs.Ytcpkieahnkfpoaa.Ct
namespace Go.Proofs.Ytcpkieahnkfpoaa.Ct
open Go Go.Proofs Go.Proofs.Ytcpkieahnkfpoaa.Ev
open Go.RowKit

abbrev Wd (w : Int) : Prop := 0 ≤ w ∧ w ≤ 18446744073709551615
theorem un3_C {w : Int} (h : Wd w) : CallC Try.prog 72 [.int .u64 w] ⟨[], 0, []⟩ (utB w) ⟨[], 0, []⟩ := by
  have := un03_C h.1 h.2
  rw [← seqB_eq] at this
  exact this
theorem se3_C {w : Int} (h : Wd w) : CallC Try.prog 67 [.int .u64 w] ⟨[], 0, []⟩ (.int .u64 (setB w)) ⟨[], 0, []⟩ := by
  obtain ⟨h0, h1⟩ := h
  have := path E22ok 12 (se_path w) (by simp) rfl
  rw [Int.tmod_eq_emod_of_nonneg h0, w_u64 (by omega) (by omega), ← setB_eq h0 h1] at this
  exact this
theorem st1_C {w : Int} (h : Wd w) : CallC Try.prog 63 [.int .u64 w] ⟨[], 0, []⟩ (.int .i64 (stB w)) ⟨[], 0, []⟩ := by
  rw [stB_eq h.1 h.2]
  exact st01_C h.1 h.2
theorem bs1_C {w : Int} (h : Wd w) : CallC Try.prog 65 [.int .u64 w] ⟨[], 0, []⟩ (.bool (bsB w)) ⟨[], 0, []⟩ := by
  obtain ⟨h0, h1⟩ := h
  have := path E22ok 12 (bs_path w) (by simp) rfl
  rw [tdiv_nn h0, w_u64 (n := w / 67108864) (by omega) (by omega), Int.tmod_eq_emod_of_nonneg (by omega), ← bsB_eq h0 h1] at this
  exact this
def gX1 (args : List Value) (hp : Hp) : Option (Value × Hp × List Prop) :=
  match args with
  | [.int .u64 w] => some (utB w, hp, [Wd w])
  | _ => none
theorem gX1_ok : ∀ args hp v hp' pc, gX1 args hp = some (v, hp', pc) → ∀ ds, CallOk Try.prog 72 args hp ⟨v, hp', ds, pc⟩ := by
  intro args hp v hp' pc hg ds
  unfold gX1 at hg
  split at hg
  · rename_i w
    simp only [Option.some.injEq, Prod.mk.injEq] at hg
    obtain ⟨rfl, rfl, rfl⟩ := hg
    exact CallC.pure (enters (fn := Try.f72) (by kernel_rfl) (by kernel_rfl) rfl) (fun h => un3_C (hd1 h)) rfl rfl hp ds
  · cases hg
def gX2 (args : List Value) (hp : Hp) : Option (Value × Hp × List Prop) :=
  match args with
  | [.int .u64 w] => some (.int .u64 (setB w), hp, [Wd w])
  | _ => none
theorem gX2_ok : ∀ args hp v hp' pc, gX2 args hp = some (v, hp', pc) → ∀ ds, CallOk Try.prog 67 args hp ⟨v, hp', ds, pc⟩ := by
  intro args hp v hp' pc hg ds
  unfold gX2 at hg
  split at hg
  · rename_i w
    simp only [Option.some.injEq, Prod.mk.injEq] at hg
    obtain ⟨rfl, rfl, rfl⟩ := hg
    exact CallC.pure (enters (fn := Try.f67) (by kernel_rfl) (by kernel_rfl) rfl) (fun h => se3_C (hd1 h)) rfl rfl hp ds
  · cases hg
def gX3 (args : List Value) (hp : Hp) : Option (Value × Hp × List Prop) :=
  match args with
  | [.int .u64 w] => some (.int .i64 (stB w), hp, [Wd w])
  | _ => none
theorem gX3_ok : ∀ args hp v hp' pc, gX3 args hp = some (v, hp', pc) → ∀ ds, CallOk Try.prog 63 args hp ⟨v, hp', ds, pc⟩ := by
  intro args hp v hp' pc hg ds
  unfold gX3 at hg
  split at hg
  · rename_i w
    simp only [Option.some.injEq, Prod.mk.injEq] at hg
    obtain ⟨rfl, rfl, rfl⟩ := hg
    exact CallC.pure (enters (fn := Try.f63) (by kernel_rfl) (by kernel_rfl) rfl) (fun h => st1_C (hd1 h)) rfl rfl hp ds
  · cases hg
def gX4 (args : List Value) (hp : Hp) : Option (Value × Hp × List Prop) :=
  match args with
  | [.int .u64 w] => some (.bool (bsB w), hp, [Wd w])
  | _ => none
theorem gX4_ok : ∀ args hp v hp' pc, gX4 args hp = some (v, hp', pc) → ∀ ds, CallOk Try.prog 65 args hp ⟨v, hp', ds, pc⟩ := by
  intro args hp v hp' pc hg ds
  unfold gX4 at hg
  split at hg
  · rename_i w
    simp only [Option.some.injEq, Prod.mk.injEq] at hg
    obtain ⟨rfl, rfl, rfl⟩ := hg
    exact CallC.pure (enters (fn := Try.f65) (by kernel_rfl) (by kernel_rfl) rfl) (fun h => bs1_C (hd1 h)) rfl rfl hp ds
  · cases hg
def gX5 (args : List Value) (hp : Hp) : Option (Value × Hp × List Prop) :=
  match args with
  | [.int .u64 w, .int .i64 4, .bool b] => some (.int .u64 (mvB w b), hp, [Wd w])
  | _ => none
theorem gX5_ok : ∀ args hp v hp' pc, gX5 args hp = some (v, hp', pc) → ∀ ds, CallOk Try.prog 64 args hp ⟨v, hp', ds, pc⟩ := by
  intro args hp v hp' pc hg ds
  unfold gX5 at hg
  split at hg
  · rename_i w b
    simp only [Option.some.injEq, Prod.mk.injEq] at hg
    obtain ⟨rfl, rfl, rfl⟩ := hg
    exact CallC.pure (enters (fn := Try.f64) (by kernel_rfl) (by kernel_rfl) rfl) (fun h => mv01_C (hd1 h).1 (hd1 h).2 b) rfl rfl hp ds
  · cases hg
noncomputable def E29 : Env := ((((E22.add 72 gX1).add 67 gX2).add 63 gX3).add 65 gX4).add 64 gX5
theorem E29ok : EnvOk E29 := ((((E22ok.add gX1_ok).add gX2_ok).add gX3_ok).add gX4_ok).add gX5_ok
noncomputable def E30 : Env := E29.add 22 gOfW
theorem E30ok : EnvOk E30 := E29ok.add gOfW_ok
noncomputable def E31 : Env := E29.add 38 gNw
theorem E31ok : EnvOk E31 := E29ok.add gNw_ok
theorem u64_rng (x : Int) : Wd (u64 x) := by
  unfold u64
  rw [IntKind.wrap_u64]
  exact ⟨by omega, by omega⟩
theorem WfW.swpW {l : List Int} (h : WfW l) (i o : Int) {v : Int} (hv : Wd v) : WfW (swpW l i o v) := by
  unfold Ct.swpW
  split
  · exact h.setW _ hv.1 hv.2
  · exact h
theorem mvB_rng (w : Int) (b : Bool) : Wd (mvB w b) := u64_rng _
theorem setB_rng (w : Int) : Wd (setB w) := u64_rng _
theorem seqB_rng {w : Int} (h : Wd w) : Wd (seqB w) := by
  rw [seqB_eq]
  exact ⟨by have := h.1; omega, by have := h.1; have := h.2; omega⟩
end Go.Proofs.Ytcpkieahnkfpoaa.Ct
