/- A beginning: what it holds, and its steps, told by plain functions. -/
import Derived.Test.YtjkohcdgjlaobaaCtMake
import Derived.Test.YtjkohcdgjlaobaaCtHid
import Derived.Test.YtjkohcdgjlaobaaCtNew
import Derived.Test.YtjkohcdgjlaobaaCtPlay
namespace Go.Proofs.Ytjkohcdgjlaobaa.Ct
open Go Go.Proofs Go.Proofs.Ytjkohcdgjlaobaa.Ev
open Go.RowKit

/-- Where it is (0 look, 1 take, 2 tally, 3 help, 4 note, 5 start, 6 full, 7 done), where its help is (0 none, 1 number, 2 look, 3 lay, 4 settle, 5 done), what it holds, and tells. -/
structure Op where
  ph : Nat
  ap : Nat
  slot : Int
  s : Int
  seq : Int
  aw : Int
  av : Int
  e : Int
  h : Int
  n : Int
def Op.enc (o : Op) : Hid := ⟨[(o.ph : Int), (o.ap : Int), o.slot, o.s, o.seq, o.aw, o.av, o.e, o.h, o.n], [], []⟩
def Op.dec (x : Hid) : Op := ⟨(x.z.getD 0 0).toNat, (x.z.getD 1 0).toNat, x.z.getD 2 0, x.z.getD 3 0, x.z.getD 4 0, x.z.getD 5 0, x.z.getD 6 0, x.z.getD 7 0, x.z.getD 8 0, x.z.getD 9 0⟩
abbrev opT : TypeId := 85
abbrev hpT : TypeId := 144
def bndV (f : FuncId) : Value := .func (.func f) ⟨[pt0]⟩ ⟨[]⟩
def opStep : Nat → Value
  | 0 => bndV 37
  | 1 => bndV 63
  | 2 => bndV 75
  | 3 => bndV 84
  | 4 => bndV 82
  | 5 => bndV 85
  | _ => .nilFunc
def hpStep : Nat → Value
  | 1 => .func (.func 86) ⟨[]⟩ ⟨[]⟩
  | 2 => .func (.func 91) ⟨[]⟩ ⟨[]⟩
  | 3 => .func (.func 94) ⟨[]⟩ ⟨[]⟩
  | 4 => .func (.func 93) ⟨[]⟩ ⟨[]⟩
  | _ => .nilFunc
def aidV : Nat → Value
  | 0 => .pointer none
  | _ + 1 => .pointer (some ⟨2, 0, none⟩)
def hpB (o : Op) : Nat → Option HB
  | 0 => none
  | k + 1 => some (.cells [hpStep (k + 1), .int .u64 o.aw, .int .u64 o.av, .int .u64 (seqB o.aw), .int .i64 (pendB o.aw)] hpT)
def opB (o : Op) : Nat → Option HB
  | 0 => some (.cells [opStep o.ph, .func (.func 58) ⟨[]⟩ ⟨[.pointer (some ⟨1, 0, none⟩)]⟩, .int .i64 o.slot, .int .u64 o.s, .int .u64 o.seq, aidV o.ap, .int .i64 o.e, .int .u64 o.h, .int .u64 o.n] opT)
  | 1 => some (.cells [.int .i64 o.slot] 3)
  | 2 => hpB o o.ap
  | _ => none
def opF : HF := fun i x => opB (.dec x) i
/-- Whether a slot of a status may be got. -/
def freeI (v g : Int) : Bool := nuI v 27 3 == 0 && !decide (nuI v 30 32 > g)
def opGo (o : Op) (sl : Int) : Op := if w64 (o.slot + 1) ≥ sl then ⟨6, o.ap, w64 (o.slot + 1), o.s, o.seq, o.aw, o.av, 6, o.h, o.n⟩ else ⟨0, o.ap, w64 (o.slot + 1), o.s, o.seq, o.aw, o.av, o.e, o.h, o.n⟩
abbrev vSt (m : Mm) (n : Int) : Int := getW m.w (cellIx m.c 4 n)
abbrev vTl (m : Mm) : Int := getW m.w (cellIx m.c 1 0)
def opHelp (o : Op) (m : Mm) : Op := match o.ap with
  | 1 => ⟨3, 2, o.slot, o.s, o.seq, o.aw, o.av, o.e, o.h, o.n⟩
  | 2 => ⟨3, if (nuI (vSt m (pendB o.aw)) 27 3 == 3) = true then 3 else 4, o.slot, o.s, o.seq, o.aw, vSt m (pendB o.aw), o.e, o.h, o.n⟩
  | 3 => ⟨3, if dnS m 4 (pendB o.aw) o.av = true then 4 else 2, o.slot, o.s, o.seq, o.aw, o.av, o.e, o.h, o.n⟩
  | _ => ⟨2, 5, o.slot, o.s, o.seq, o.aw, o.av, o.e, o.h, o.n⟩
def opSt (o : Op) (m : Mm) : Op := match o.ph with
  | 0 => if freeI (vSt m o.slot) m.c.g = true then ⟨1, o.ap, o.slot, vSt m o.slot, o.seq, o.aw, o.av, o.e, o.h, o.n⟩ else opGo ⟨o.ph, o.ap, o.slot, vSt m o.slot, o.seq, o.aw, o.av, o.e, o.h, o.n⟩ m.c.s
  | 1 => if dnS m 4 o.slot o.s = true then ⟨2, o.ap, o.slot, o.s, o.seq, o.aw, o.av, o.e, o.h, o.n⟩ else opGo o m.c.s
  | 2 => if decide (pendB (vTl m) ≥ 0) = true then ⟨3, 1, o.slot, o.s, seqB (vTl m), vTl m, 0, o.e, o.h, o.n⟩ else ⟨4, o.ap, o.slot, o.s, seqB (vTl m), o.aw, o.av, o.e, o.h, o.n⟩
  | 3 => opHelp o m
  | 4 => ⟨5, o.ap, o.slot, o.s, o.seq, o.aw, o.av, o.e, o.h, o.n⟩
  | 5 => ⟨7, o.ap, o.slot, o.s, o.seq, o.aw, o.av, 0, mkT o.slot (nuI o.s 30 32), o.seq⟩
  | _ => o
def opHme (o : Op) (m : Mm) : Mm := match o.ap with
  | 1 => mSw m 6 (pendB o.aw) 0 (seqB o.aw)
  | 2 => mLd m 4 (pendB o.aw)
  | 3 => mSw m 4 (pendB o.aw) o.av (mvI o.av 4 (bitI o.av 26))
  | _ => mSw m 1 0 o.aw (setB o.aw)
def opMe (o : Op) (m : Mm) : Mm := match o.ph with
  | 0 => mLd m 4 o.slot
  | 1 => mSw m 4 o.slot o.s (mvI o.s 1 false)
  | 2 => mLd m 1 0
  | 3 => opHme o m
  | 4 => mSt m 5 o.slot o.seq
  | 5 => mSt m 4 o.slot (mvI o.s 2 false)
  | _ => m
abbrev opStepF : FuncId := 23
end Go.Proofs.Ytjkohcdgjlaobaa.Ct
