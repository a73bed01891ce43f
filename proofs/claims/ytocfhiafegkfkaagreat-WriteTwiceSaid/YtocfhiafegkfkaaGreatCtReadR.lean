/- A read, on to the end. -/
import Derived.Test.YtocfhiafegkfkaaGreatCtRead
namespace Go.Proofs.YtocfhiafegkfkaaGreat.Ct
open Go Go.Proofs Go.Proofs.YtocfhiafegkfkaaGreat.Ev
open Go.RowKit

def rdRun : Nat → Nat → Rd → Mm → Nat × Rd × Mm
  | 0, i, o, m => (i, o, m)
  | n + 1, i, o, m => if o.dn = true then (i, o, m) else rdRun n (i + 1) (rdSt o m) (rdMe o m)
theorem rdRun_good : ∀ (n i : Nat) (o : Rd) (m : Mm), rdGood o m → rdGood (rdRun n i o m).2.1 (rdRun n i o m).2.2
  | 0, _, _, _, h => h
  | n + 1, i, o, m, h => by
    unfold rdRun
    split
    · exact h
    · exact rdRun_good n (i + 1) _ _ (rdStep_good h)
abbrev rdP (ns : List Nat) (o : Rd) : Prop := isHid rdF ns o.enc (bl rdF ns o.enc ns 0)
abbrev qAsk (o : Rd) : Prop := ([] : List Value) = [] ∧ isRd o.enc ∧ o.good
abbrev qGo (o : Rd) (m : Mm) : Prop := ([] : List Value) = [] ∧ isRd o.enc ∧ rdGood o m
theorem isRd_enc (o : Rd) : isRd o.enc := rfl
theorem qAsk_ok {o : Rd} (h : o.good) : qAsk o := ⟨rfl, isRd_enc o, h⟩
theorem qGo_ok {o : Rd} {m : Mm} (h : rdGood o m) : qGo o m := ⟨rfl, isRd_enc o, h⟩
theorem zW_wf (c : Cfg) : WfW (zW c) := fun x hx => by
  unfold zW at hx
  rw [List.mem_replicate] at hx
  rw [hx.2]
  exact ⟨by decide, by decide⟩
theorem rdP_ok (ns : List Nat) (o : Rd) : rdP ns o := rfl
abbrev isNew (c : Cfg) (h key : Int) : Prop := ∃ c' h' k', ([Cfg.v c, .int .u64 h, .int .i64 key] : List Value) = [Cfg.v c', .int .u64 h', .int .i64 k'] ∧ Wd h'
theorem isNew_ok (c : Cfg) {h : Int} (hh : Wd h) (key : Int) : isNew c h key := ⟨c, h, key, rfl, hh⟩
end Go.Proofs.YtocfhiafegkfkaaGreat.Ct
