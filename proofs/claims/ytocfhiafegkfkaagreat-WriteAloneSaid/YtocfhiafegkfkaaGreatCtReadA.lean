/- A read: what it holds, and its steps, told by plain functions. -/
import Derived.Test.YtocfhiafegkfkaaGreatCtOthers2
import Derived.Test.YtocfhiafegkfkaaGreatCtHid
import Derived.Test.YtocfhiafegkfkaaGreatCtNew
import Derived.Test.YtocfhiafegkfkaaGreatCtPlay
namespace Go.Proofs.YtocfhiafegkfkaaGreat.Ct
open Go Go.Proofs Go.Proofs.YtocfhiafegkfkaaGreat.Ev
open Go.RowKit

/-- An entering of the one state 2, without its row. -/
structure Et where
  sl : Int
  s : Int
  h : Int
  tk : Bool
  dn : Bool
  no : Int
  wd : Int
abbrev row2 : Rw := .row true [2]
def Et.w2 (e : Et) : En := ⟨e.sl, e.s, e.h, row2, e.tk, e.dn, e.no, e.wd⟩
def _root_.Go.Proofs.YtocfhiafegkfkaaGreat.Ct.En.et (e : En) : Et := ⟨e.sl, e.s, e.h, e.tk, e.dn, e.no, e.wd⟩
/-- Where it is (0 enter, 1 snapshot, 2 look, 3 mark, 4 join, 5 own, 6 leave, 7 done), what it has had (0 nothing, 1 an entering, 2 its others, 3 a join, 4 an own end), what it holds, and tells. -/
structure Rd where
  ph : Nat
  q : Nat
  key : Int
  slot : Int
  n : Int
  w : Int
  oth : Int
  no : Int
  told : Int
  at' : Int
  en : Et
  j : Jn
  o : On
  lv : Lv
  l : List Int
def Rd.enc (r : Rd) : Hid := ⟨[(r.ph : Int), (r.q : Int), r.key, r.slot, r.n, r.w, r.oth, r.no, r.told, r.at', r.en.sl, r.en.s, r.en.h, r.en.no, r.en.wd, r.j.sl, r.j.sd, r.j.by', r.j.s, (r.j.fn : Int), r.j.sn, r.j.r, r.o.sl, r.o.sd, r.o.by', r.o.s, r.lv.sl, r.lv.s, r.lv.st], r.l, [], [r.en.tk, r.en.dn, r.o.lk, r.o.dn, r.lv.lk, r.lv.dn]⟩
def hz (x : Hid) (i : Nat) : Int := x.z.getD i 0
def hb (x : Hid) (i : Nat) : Bool := x.b.getD i false
def Rd.dec (x : Hid) : Rd := ⟨(hz x 0).toNat, (hz x 1).toNat, hz x 2, hz x 3, hz x 4, hz x 5, hz x 6, hz x 7, hz x 8, hz x 9, ⟨hz x 10, hz x 11, hz x 12, hb x 0, hb x 1, hz x 13, hz x 14⟩, ⟨hz x 15, hz x 16, hz x 17, hz x 18, (hz x 19).toNat, hz x 20, hz x 21⟩, ⟨hz x 22, hz x 23, hz x 24, hz x 25, hb x 2, hb x 3⟩, ⟨hz x 26, hz x 27, hz x 28, hb x 4, hb x 5⟩, x.l⟩
abbrev rdT : TypeId := 143
def bndV (f : FuncId) : Value := .func (.func f) ⟨[pt0]⟩ ⟨[]⟩
abbrev ptN (n : Nat) : Value := .pointer (some ⟨n, 0, none⟩)
def rdStepV : Nat → Value
  | 0 => bndV 94
  | 1 => bndV 113
  | 2 => bndV 127
  | 3 => bndV 138
  | 4 => bndV 164
  | 5 => bndV 176
  | 6 => .func (.func 171) ⟨[]⟩ ⟨[ptN 11, ptN 12]⟩
  | _ => .nilFunc
def rdEnV : Nat → Value
  | 0 => .pointer none
  | _ + 1 => ptN 1
def rdNxV : Nat → Value
  | 0 => .nilFunc
  | 1 => .nilFunc
  | _ + 2 => .func (.func 155) ⟨[]⟩ ⟨[ptN 4, ptN 5]⟩
def rdJnV : Nat → Value
  | 0 | 1 | 2 => .pointer none
  | _ + 3 => ptN 8
def rdOnV : Nat → Value
  | 0 | 1 | 2 | 3 => .pointer none
  | _ + 4 => ptN 9
def rdLvV : Nat → Nat → Value
  | 6, _ => ptN 10
  | 7, 0 => .pointer none
  | 7, 1 => .pointer none
  | 7, _ + 2 => ptN 10
  | _, _ => .pointer none
def Rd.cells (r : Rd) : List Value := [rdStepV r.ph, .int .i64 r.key, .int .i64 r.slot, .int .u64 r.n, .int .u64 r.w, rdEnV r.q, rdNxV r.q, .int .i64 r.oth, rdJnV r.q, rdOnV r.q, rdLvV r.ph r.q, .int .i64 r.no]
/-- What stands in a block, where it is told. -/
def rdB (r : Rd) : Nat → Option HB
  | 0 => some (.cells r.cells rdT)
  | 1 => match r.ph with
    | 0 => some (.cells (En.cells (.slice (some ⟨2, 0, some 3⟩) 1 0) r.en.w2) enT)
    | _ => none
  | 2 => match r.ph with
    | 0 => some (.own .i64 [2] intT 3)
    | _ => none
  | 4 => match r.ph with
    | 4 | 5 => some (.cells [.int .i64 r.at'] intT)
    | _ => none
  | 5 => match r.ph with
    | 4 | 5 => some (.cells [.slice (some ⟨6, 0, some 7⟩) r.l.length 0] 58)
    | _ => none
  | 6 => match r.ph with
    | 4 | 5 => some (.own .i64 r.l intT 7)
    | _ => none
  | 8 => match r.ph with
    | 4 => some (.cells (Jn.cells 8 r.j) 196)
    | _ => none
  | 9 => match r.ph with
    | 5 => some (.cells (On.cells 9 r.o) 201)
    | _ => none
  | 10 => match r.ph with
    | 6 => some (.cells (Lv.cells 10 r.lv) 199)
    | _ => none
  | 11 => match r.ph with
    | 6 => some (.cells [pt0] 85)
    | _ => none
  | 12 => match r.ph with
    | 6 => some (.cells [.int .i64 r.told] 35)
    | _ => none
  | _ => none
def rdF : HF := fun i x => rdB (.dec x) i
/-! Its steps -/
abbrev vAt (m : Mm) (k n : Int) : Int := getW m.w (cellIx m.c k n)
def Rd.ends (r : Rd) (st e : Int) : Rd := ⟨6, r.q, r.key, r.slot, r.n, r.w, r.oth, r.no, e, r.at', r.en, r.j, r.o, ⟨r.slot, 0, st, false, false⟩, r.l⟩
def q3 : Nat → Nat
  | 2 => 3
  | k => k
/-- The join with another one. -/
def rdJoin (sl sd by' sn : Int) : Jn := ⟨sl, sd, by', 0, lookF, sn, 0⟩
def Rd.goes (r : Rd) : Rd := if decide (w64 (r.at' + 1) ≥ (r.l.length : Int)) = true then Rd.ends r (-1) 0
  else ⟨4, q3 r.q, r.key, r.slot, r.n, r.w, r.l.getD (w64 (r.at' + 1)).toNat 0, r.no, r.told, w64 (r.at' + 1), r.en, rdJoin (r.l.getD (w64 (r.at' + 1)).toNat 0) 1 r.slot r.n, r.o, r.lv, r.l⟩
def Rd.found (r : Rd) : Rd := if othL r.w 1 r.slot = [] then Rd.ends ⟨r.ph, 2, r.key, r.slot, r.n, r.w, r.oth, r.no, r.told, r.at', r.en, r.j, r.o, r.lv, r.l⟩ (-1) 0
  else ⟨4, 3, r.key, r.slot, r.n, r.w, (othL r.w 1 r.slot).getD 0 0, r.no, r.told, 0, r.en, rdJoin ((othL r.w 1 r.slot).getD 0 0) 1 r.slot r.n, r.o, r.lv, othL r.w 1 r.slot⟩
def rdEnter (r : Rd) (e : En) (m : Mm) : Rd :=
  if (e.dn || !ofOk e.h m.c.s) = true then ⟨if (errI e m != 0) = true then 7 else 1, 1, r.key, r.slot, r.n, r.w, r.oth, errI e m, r.told, r.at', e.et, r.j, r.o, r.lv, r.l⟩
  else ⟨0, 1, r.key, r.slot, r.n, r.w, r.oth, r.no, r.told, r.at', e.et, r.j, r.o, r.lv, r.l⟩
def rdJoined (r : Rd) (j : Jn) : Rd :=
  if (j.r == 2) = true then ⟨5, 4, r.key, r.slot, r.n, r.w, r.oth, r.no, r.told, r.at', r.en, j, ⟨r.slot, 0, r.oth, 0, false, false⟩, r.lv, r.l⟩
  else if (j.r == 1) = true then Rd.goes ⟨r.ph, r.q, r.key, r.slot, r.n, r.w, r.oth, r.no, r.told, r.at', r.en, j, r.o, r.lv, r.l⟩
  else if (j.r == 3) = true then Rd.ends ⟨r.ph, r.q, r.key, r.slot, r.n, r.w, r.oth, r.no, r.told, r.at', r.en, j, r.o, r.lv, r.l⟩ 5 7
  else ⟨r.ph, r.q, r.key, r.slot, r.n, r.w, r.oth, r.no, r.told, r.at', r.en, j, r.o, r.lv, r.l⟩
def rdOwned (r : Rd) (o : On) : Rd :=
  if o.dn = true then Rd.goes ⟨r.ph, r.q, r.key, r.slot, r.n, r.w, r.oth, r.no, r.told, r.at', r.en, r.j, o, r.lv, r.l⟩
  else ⟨r.ph, r.q, r.key, r.slot, r.n, r.w, r.oth, r.no, r.told, r.at', r.en, r.j, o, r.lv, r.l⟩
def rdLeft (r : Rd) (v : Lv) : Rd :=
  if v.dn = true then ⟨7, r.q, r.key, r.slot, r.n, r.w, r.oth, r.told, r.told, r.at', r.en, r.j, r.o, v, r.l⟩
  else ⟨r.ph, r.q, r.key, r.slot, r.n, r.w, r.oth, r.no, r.told, r.at', r.en, r.j, r.o, v, r.l⟩
def Rd.atW (r : Rd) (ph : Nat) (w : Int) : Rd := ⟨ph, r.q, r.key, r.slot, r.n, w, r.oth, r.no, r.told, r.at', r.en, r.j, r.o, r.lv, r.l⟩
def rdSt (r : Rd) (m : Mm) : Rd := match r.ph with
  | 0 => rdEnter r (enSt r.en.w2 m) (enMe r.en.w2 m)
  | 1 => ⟨2, r.q, r.key, r.slot, vAt m 5 r.slot, r.w, r.oth, r.no, r.told, r.at', r.en, r.j, r.o, r.lv, r.l⟩
  | 2 => if hasI (vAt m 8 r.key) 0 r.slot = true then Rd.found (r.atW 2 (vAt m 8 r.key)) else r.atW 3 (vAt m 8 r.key)
  | 3 => if dnS m 8 r.key r.w = true then Rd.found r else r.atW 2 r.w
  | 4 => rdJoined r (jSt r.j m)
  | 5 => rdOwned r (oSt r.o m)
  | 6 => rdLeft r (lSt r.lv m)
  | _ => r
def rdMe (r : Rd) (m : Mm) : Mm := match r.ph with
  | 0 => enMe r.en.w2 m
  | 1 => mLd m 5 r.slot
  | 2 => mLd m 8 r.key
  | 3 => mSw m 8 r.key r.w (withI r.w 0 r.slot)
  | 4 => jMe r.j m
  | 5 => oMe r.o m
  | 6 => lMe r.lv m
  | _ => m
abbrev rdStepF : FuncId := 44
abbrev rdDoneF : FuncId := 46
abbrev rdErrF : FuncId := 47
abbrev rdNewF : FuncId := 42
def Rd.dn (r : Rd) : Bool := Nat.beq r.ph 7
/-- One that is made: an error of its own (e), or none. -/
def rdNew (h slot key e : Int) : Rd := ⟨if e = 0 then 0 else 7, if e = 0 then 1 else 0, key, slot, 0, 0, 0, e, 0, 0, ⟨tkS h, 0, h, false, false, 0, 0⟩, ⟨0, 0, 0, 0, lookF, 0, 0⟩, ⟨0, 0, 0, 0, false, false⟩, ⟨0, 0, 0, false, false⟩, []⟩
def rdNewE (c : Cfg) (h key : Int) : Int := if key < 0 then 5 else if key ≥ c.k then 5 else if ofOk h c.s = true then 0 else 2
def rdOf (c : Cfg) (h key : Int) : Rd := rdNew h (if ofOk h c.s = true then tkS h else 0) key (rdNewE c h key)
end Go.Proofs.YtocfhiafegkfkaaGreat.Ct
