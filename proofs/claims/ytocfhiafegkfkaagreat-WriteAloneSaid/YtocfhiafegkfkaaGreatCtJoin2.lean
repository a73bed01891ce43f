/- The laying of one's own end, and the document's. -/
import Derived.Test.YtocfhiafegkfkaaGreatCtJoin
namespace Go.Proofs.YtocfhiafegkfkaaGreat.Ct
open Go Go.Proofs Go.Proofs.YtocfhiafegkfkaaGreat.Ev
open Go.RowKit

/-- The number that a call was handed at its end. -/
def numOf : List Value → Nat
  | [.int .i64 n] => n.toNat
  | _ => 0
noncomputable def E48 : Env := (E47.add jStepF gJ).add jDocF gJd
theorem E48ok : EnvOk E48 := (E47ok.add gJ_ok).add gJd_ok
/-! One's own end -/
structure On where
  sl : Int
  sd : Int
  by' : Int
  s : Int
  lk : Bool
  dn : Bool
def On.cells (_ : Nat) (o : On) : List Value := [.int .i64 o.sl, .int .i64 o.sd, .int .i64 o.by', .int .u64 o.s, .bool o.lk, .bool o.dn]
def On.dcells (o : On) : List Value := [.int .i64 o.sl, .int .i64 o.sd, .int .i64 o.by', .bool o.lk, .int .u64 o.s, .bool o.dn]
def onL (_ : Nat) : List Value → Option On
  | [.int .i64 a, .int .i64 b, .int .i64 c, .int .u64 d, .bool e, .bool f] => some ⟨a, b, c, d, e, f⟩
  | _ => none
def onD : List Value → Option On
  | [.int .i64 a, .int .i64 b, .int .i64 c, .bool e, .int .u64 d, .bool f] => some ⟨a, b, c, d, e, f⟩
  | _ => none
def oO : Obj On := ⟨201, On.cells, onL⟩
theorem oO_ok : oO.Ok := by
  refine ⟨fun n l s h => ?_, .inl fun s => rfl, fun s σ => rfl⟩
  have h' : onL n l = some s := h
  unfold onL at h'
  split at h'
  · obtain rfl := Option.some.inj h'; rfl
  · cases h'
theorem onD_some (l : List Value) (o : On) (h : onD l = some o) : l = o.dcells := by
  unfold onD at h
  split at h
  · obtain rfl := Option.some.inj h; rfl
  · cases h
def oVal (o : On) (m : Mm) : Int := getW m.w (cellIx m.c 4 o.sl)
def oSt (o : On) (m : Mm) : On :=
  if o.dn = true then o
  else if o.lk = true then ⟨o.sl, o.sd, o.by', o.s, false, dnS m 4 o.sl o.s⟩
  else ⟨o.sl, o.sd, o.by', oVal o m, true, withI (oVal o m) o.sd o.by' == oVal o m⟩
def oMe (o : On) (m : Mm) : Mm :=
  if o.dn = true then m
  else if o.lk = true then mSw m 4 o.sl o.s (withI o.s o.sd o.by')
  else mLd m 4 o.sl
def oGood (o : On) (m : Mm) : Prop := m.ok ∧ WfW m.w ∧ Wd o.s
abbrev oStepF : FuncId := 181
abbrev oDocF : FuncId := 85
open Dec in
section
variable (sl sd by' s : Int) (lk : Bool) (m : Mm)
theorem ow_d : callR E48 12 oStepF (objA []) (objHp oO ⟨sl, sd, by', s, lk, true⟩ m) [Dec.l] [0, 1, 2] = some (.tuple ⟨[]⟩, objHp oO ⟨sl, sd, by', s, lk, true⟩ m, []) := by kernel_rfl
theorem ow_l : callR E48 12 oStepF (objA []) (objHp oO ⟨sl, sd, by', s, true, false⟩ m) [Dec.l, Dec.l] [0, 1, 2] = some (.tuple ⟨[]⟩, objHp oO ⟨sl, sd, by', s, false, dnS m 4 sl s⟩ (mSw m 4 sl s (withI s sd by')), [Wd s, m.ok]) := by kernel_rfl
theorem ow_k : callR E48 12 oStepF (objA []) (objHp oO ⟨sl, sd, by', s, false, false⟩ m) [Dec.l, Dec.l] [0, 1, 2] = some (.tuple ⟨[]⟩, objHp oO ⟨sl, sd, by', getW m.w (cellIx m.c 4 sl), true, withI (getW m.w (cellIx m.c 4 sl)) sd by' == getW m.w (cellIx m.c 4 sl)⟩ (mLd m 4 sl), [m.ok, Wd (getW m.w (cellIx m.c 4 sl))]) := by kernel_rfl
theorem og_d : callR E48 12 oDocF (docA On.dcells ⟨sl, sd, by', s, lk, true⟩ m) (rHp m) [Dec.l] [0, 1] = some (docV (On.dcells ⟨sl, sd, by', s, lk, true⟩) m 0 1, rHp m, []) := by kernel_rfl
theorem og_l : callR E48 12 oDocF (docA On.dcells ⟨sl, sd, by', s, true, false⟩ m) (rHp m) [Dec.l, Dec.l] [0, 1, 6, 7] = some (docV (On.dcells ⟨sl, sd, by', s, false, dnS m 4 sl s⟩) (mSw m 4 sl s (withI s sd by')) 2 3, rVw' m (mSw m 4 sl s (withI s sd by')).w, [Wd s, m.ok ∧ m.c.Right]) := by kernel_rfl
theorem og_k : callR E48 12 oDocF (docA On.dcells ⟨sl, sd, by', s, false, false⟩ m) (rHp m) [Dec.l, Dec.l] [0, 1, 6, 7] = some (docV (On.dcells ⟨sl, sd, by', getW m.w (cellIx m.c 4 sl), true, withI (getW m.w (cellIx m.c 4 sl)) sd by' == getW m.w (cellIx m.c 4 sl)⟩) (mLd m 4 sl) 2 3, rVw' m m.w, [m.ok ∧ m.c.Right, Wd (getW m.w (cellIx m.c 4 sl))]) := by kernel_rfl
end
theorem oStep_C (o : On) (m : Mm) (h : oGood o m) : CallC Tryz.prog oStepF (objA []) (objHp oO o m) (.tuple ⟨[]⟩) (objHp oO (oSt o m) (oMe o m)) := by
  obtain ⟨sl, sd, by', s, lk, dn⟩ := o
  obtain ⟨ho, hw, hs⟩ := h
  have hv : Wd (getW m.w (cellIx m.c 4 sl)) := hw.getW _
  cases dn
  · cases lk
    · exact CallC.of_call E48ok (ow_k sl sd by' s m) (pcs_of ⟨ho, hv, trivial⟩) rfl z3
    · exact CallC.of_call E48ok (ow_l sl sd by' s m) (pcs_of ⟨hs, ho, trivial⟩) rfl z3
  · exact CallC.of_call E48ok (ow_d sl sd by' s lk m) (pcs_of trivial) rfl z3
theorem oDoc_C (o : On) (m : Mm) (h : oGood o m ∧ m.c.Right) : CallC Tryz.prog oDocF (docA On.dcells o m) (rHp m) (docV (On.dcells (oSt o m)) (oMe o m) 2 3) (rOut m (oMe o m)) := by
  obtain ⟨sl, sd, by', s, lk, dn⟩ := o
  obtain ⟨⟨ho, hw, hs⟩, hri⟩ := h
  have hv : Wd (getW m.w (cellIx m.c 4 sl)) := hw.getW _
  cases dn
  · cases lk
    · exact r_vw' (V := docV _ _) (docV_rn rfl _) (docV_nm rfl _) (CallC.of_call E48ok (og_k sl sd by' s m) (pcs_of ⟨⟨ho, hri⟩, hv, trivial⟩) rfl z2L)
    · exact r_vw' (V := docV _ _) (docV_rn rfl _) (docV_nm rfl _) (CallC.of_call E48ok (og_l sl sd by' s m) (pcs_of ⟨hs, ⟨ho, hri⟩, trivial⟩) rfl z2L)
  · exact r_same (V := docV _ m) rfl (docV_rn rfl m) (docV_nm rfl m) (CallC.of_call E48ok (og_d sl sd by' s lk m) (pcs_of trivial) rfl z2L)
theorem oMe_ok {o : On} {m : Mm} (h : oGood o m) : (oMe o m).ok ∧ (oMe o m).c = m.c ∧ WfW (oMe o m).w := by
  obtain ⟨ho, hw, hs⟩ := h
  unfold oMe
  split
  · exact ⟨ho, rfl, hw⟩
  · split
    · exact ⟨acc_ok ho (swpW_len _ _ _ _), rfl, hw.swpW _ _ (withI_rng hs _ _)⟩
    · exact ⟨acc_ok ho rfl, rfl, hw⟩
theorem oSt_s {o : On} {m : Mm} (h : oGood o m) : Wd (oSt o m).s := by
  obtain ⟨ho, hw, hs⟩ := h
  have hv : Wd (oVal o m) := hw.getW _
  unfold oSt
  split
  · exact hs
  · split
    · exact hs
    · exact hv
theorem oStep_good {o : On} {m : Mm} (h : oGood o m) : oGood (oSt o m) (oMe o m) := ⟨(oMe_ok h).1, (oMe_ok h).2.2, oSt_s h⟩
abbrev gO : List Value → Hp → Option (Value × Hp × List Prop) := gObj oO (fun _ _ _ => .tuple ⟨[]⟩) (fun j m _ => oSt j m) (fun j m _ => oMe j m) (fun j m rest => rest = [] ∧ oGood j m)
theorem gO_ok : ∀ args hp v hp' pc, gO args hp = some (v, hp', pc) → ∀ ds, CallOk Tryz.prog oStepF args hp ⟨v, hp', ds, pc⟩ :=
  gObj_ok oO_ok (enters (fn := Tryz.f181) (by kernel_rfl) (by kernel_rfl) rfl) (fun _ _ _ => rfl) fun j m rest h => by
    obtain ⟨rfl, h⟩ := h
    exact oStep_C j m h
abbrev gOd : List Value → Hp → Option (Value × Hp × List Prop) := gDoc onD On.dcells oSt oMe (fun o m => oGood o m ∧ m.c.Right)
theorem gOd_ok : ∀ args hp v hp' pc, gOd args hp = some (v, hp', pc) → ∀ ds, CallOk Tryz.prog oDocF args hp ⟨v, hp', ds, pc⟩ :=
  gDoc_ok onD_some (fun _ => rfl) (enters (fn := Tryz.f85) (by kernel_rfl) (by kernel_rfl) rfl) oDoc_C
noncomputable def E49 : Env := (E48.add oStepF gO).add oDocF gOd
theorem E49ok : EnvOk E49 := (E48ok.add gO_ok).add gOd_ok
end Go.Proofs.YtocfhiafegkfkaaGreat.Ct
