/- A write: what it holds, and its steps, told by plain functions. -/
import Derived.Test.YtocfhiafegkfkaaGreatCtRdM
namespace Go.Proofs.YtocfhiafegkfkaaGreat.Ct
open Go Go.Proofs Go.Proofs.YtocfhiafegkfkaaGreat.Ev
open Go.RowKit

/-- Where it is (0 enter, 1 snapshot, 2 look, 3 rival, 4 number, 5 mark, 6 join, 7 own, 8 leave, 9 done), what it has had (0 nothing, 1 an entering, 2 a leaving, 3 a join, 4 an own end), what it holds, and tells. Of its rivals, and of its others: 0 none, 1 a row, 2 a row from behind a place, and how many. -/
structure Wt where
  ph : Nat
  q : Nat
  key : Int
  slot : Int
  n : Int
  w : Int
  no : Int
  told : Int
  ra : Nat
  rk : Nat
  rn : Nat
  oa : Nat
  ok : Nat
  on : Nat
  en : Et
  j : Jn
  o : On
  lv : Lv
  l : List Int
  r : List Int
def Wt.enc (r : Wt) : Hid := ⟨[(r.ph : Int), (r.q : Int), r.key, r.slot, r.n, r.w, r.no, r.told, (r.ra : Int), (r.rk : Int), (r.rn : Int), (r.oa : Int), (r.ok : Int), (r.on : Int), r.en.sl, r.en.s, r.en.h, r.en.no, r.en.wd, r.j.sl, r.j.sd, r.j.by', r.j.s, (r.j.fn : Int), r.j.sn, r.j.r, r.o.sl, r.o.sd, r.o.by', r.o.s, r.lv.sl, r.lv.s, r.lv.st], r.l, r.r, [r.en.tk, r.en.dn, r.o.lk, r.o.dn, r.lv.lk, r.lv.dn]⟩
def Wt.dec (x : Hid) : Wt := ⟨(hz x 0).toNat, (hz x 1).toNat, hz x 2, hz x 3, hz x 4, hz x 5, hz x 6, hz x 7, (hz x 8).toNat, (hz x 9).toNat, (hz x 10).toNat, (hz x 11).toNat, (hz x 12).toNat, (hz x 13).toNat, ⟨hz x 14, hz x 15, hz x 16, hb x 0, hb x 1, hz x 17, hz x 18⟩, ⟨hz x 19, hz x 20, hz x 21, hz x 22, (hz x 23).toNat, hz x 24, hz x 25⟩, ⟨hz x 26, hz x 27, hz x 28, hz x 29, hb x 2, hb x 3⟩, ⟨hz x 30, hz x 31, hz x 32, hb x 4, hb x 5⟩, x.l, x.r⟩
abbrev wrT : TypeId := 96
def wrStepV : Nat → Value
  | 0 => bndV 55
  | 1 => bndV 103
  | 2 => bndV 122
  | 3 => bndV 150
  | 4 => bndV 159
  | 5 => bndV 151
  | 6 => bndV 170
  | 7 => bndV 177
  | 8 => .func (.func 166) ⟨[]⟩ ⟨[ptN 11, ptN 12]⟩
  | _ => .nilFunc
def wrLvV : Nat → Nat → Value
  | 8, _ => ptN 10
  | 9, 0 => .pointer none
  | 9, 1 => .pointer none
  | 9, _ + 2 => ptN 10
  | _, _ => .pointer none
/-- A row, as it is held: its names, its length, how it stands. -/
def shV (b c d len k n : Nat) : Nat → Value
  | 0 => .slice none 0 0
  | 1 => .slice (some ⟨b, 0, some c⟩) len 0
  | _ + 2 => .slice (some ⟨b, k + 1, some d⟩) n n
def Wt.cells (r : Wt) : List Value := [wrStepV r.ph, .int .i64 r.key, .int .i64 r.slot, .int .u64 r.n, .int .u64 r.w, rdEnV r.q, shV 4 5 13 r.l.length r.rk r.rn r.ra, shV 6 7 14 r.r.length r.ok r.on r.oa, rdJnV r.q, rdOnV r.q, wrLvV r.ph r.q, .int .i64 r.no]
/-- What stands in a block, where it is told. -/
def wrB (r : Wt) : Nat → Option HB
  | 0 => some (.cells r.cells wrT)
  | 1 => match r.ph with
    | 0 => some (.cells (En.cells (.slice (some ⟨2, 0, some 3⟩) 1 0) r.en.w2) enT)
    | _ => none
  | 2 => match r.ph with
    | 0 => some (.own .i64 [2] intT 3)
    | _ => none
  | 4 => match r.ph with
    | 3 | 4 => some (.own .i64 r.l intT 5)
    | _ => none
  | 6 => match r.ph with
    | 6 | 7 => some (.own .i64 r.r intT 7)
    | _ => none
  | 8 => match r.ph with
    | 6 => some (.cells (Jn.cells 8 r.j) 196)
    | _ => none
  | 9 => match r.ph with
    | 7 => some (.cells (On.cells 9 r.o) 201)
    | _ => none
  | 10 => match r.ph with
    | 8 => some (.cells (Lv.cells 10 r.lv) 199)
    | _ => none
  | 11 => match r.ph with
    | 8 => some (.cells [pt0] 29)
    | _ => none
  | 12 => match r.ph with
    | 8 => some (.cells [.int .i64 r.told] 35)
    | _ => none
  | _ => none
def wrF : HF := fun i x => wrB (.dec x) i
/-! Its steps -/
/-- Where a row's first one stands; how many there are. -/
def offS (k : Nat) : Nat → Nat
  | 0 => 0
  | 1 => 0
  | _ + 2 => k + 1
def lenS (len n : Nat) : Nat → Nat
  | 0 => 0
  | 1 => len
  | _ + 2 => n
def nxtS (k : Nat) : Nat → Nat
  | 0 => 0
  | 1 => 0
  | _ + 2 => k + 1
def qe : Nat → Nat
  | 1 => 2
  | k => k
def qj : Nat → Nat
  | 1 => 3
  | 2 => 3
  | k => k
def Wt.ends (r : Wt) (st e : Int) : Wt := ⟨8, qe r.q, r.key, r.slot, r.n, r.w, r.no, e, r.ra, r.rk, r.rn, r.oa, r.ok, r.on, r.en, r.j, r.o, ⟨r.slot, 0, st, false, false⟩, r.l, r.r⟩
/-- At another place. -/
def Wt.goto (r : Wt) (ph : Nat) : Wt := ⟨ph, r.q, r.key, r.slot, r.n, r.w, r.no, r.told, r.ra, r.rk, r.rn, r.oa, r.ok, r.on, r.en, r.j, r.o, r.lv, r.l, r.r⟩
abbrev rdO (r : Wt) : List Int := othL r.w 0 r.slot
def Wt.found (r : Wt) : Wt := if rdO r = [] then Wt.ends ⟨r.ph, r.q, r.key, r.slot, r.n, r.w, r.no, r.told, r.ra, r.rk, r.rn, 0, r.ok, r.on, r.en, r.j, r.o, r.lv, r.l, r.r⟩ (-1) 0
  else ⟨6, qj r.q, r.key, r.slot, r.n, r.w, r.no, r.told, r.ra, r.rk, r.rn, 1, r.ok, r.on, r.en, rdJoin ((rdO r).getD 0 0) 0 r.slot r.n, r.o, r.lv, r.l, rdO r⟩
/-- None of the rivals is left. -/
def Wt.clear (r : Wt) : Wt := if hasI r.w 1 r.slot = true then r.found else r.goto 5
def Wt.goes (r : Wt) : Wt := if lenS r.l.length r.rn r.ra = 0 then r.clear else r.goto 3
def Wt.passes (r : Wt) : Wt := Wt.goes ⟨r.ph, r.q, r.key, r.slot, r.n, r.w, r.no, r.told, 2, nxtS r.rk r.ra, lenS r.l.length r.rn r.ra - 1, r.oa, r.ok, r.on, r.en, r.j, r.o, r.lv, r.l, r.r⟩
def Wt.head (r : Wt) : Int := r.l.getD (offS r.rk r.ra) 0
def Wt.other (r : Wt) : Int := r.r.getD (offS r.ok r.oa) 0
/-- On to the next of the others. -/
def Wt.next (r : Wt) : Wt := if lenS r.r.length r.on r.oa - 1 = 0 then Wt.ends ⟨r.ph, r.q, r.key, r.slot, r.n, r.w, r.no, r.told, r.ra, r.rk, r.rn, 2, nxtS r.ok r.oa, lenS r.r.length r.on r.oa - 1, r.en, r.j, r.o, r.lv, r.l, r.r⟩ (-1) 0
  else ⟨6, r.q, r.key, r.slot, r.n, r.w, r.no, r.told, r.ra, r.rk, r.rn, 2, nxtS r.ok r.oa, lenS r.r.length r.on r.oa - 1, r.en, rdJoin (r.r.getD (nxtS r.ok r.oa + 1) 0) 0 r.slot r.n, r.o, r.lv, r.l, r.r⟩
def wrEnter (r : Wt) (e : En) (m : Mm) : Wt :=
  if (e.dn || !ofOk e.h m.c.s) = true then ⟨if (errI e m != 0) = true then 9 else 1, 1, r.key, r.slot, r.n, r.w, errI e m, r.told, r.ra, r.rk, r.rn, r.oa, r.ok, r.on, e.et, r.j, r.o, r.lv, r.l, r.r⟩
  else ⟨0, 1, r.key, r.slot, r.n, r.w, r.no, r.told, r.ra, r.rk, r.rn, r.oa, r.ok, r.on, e.et, r.j, r.o, r.lv, r.l, r.r⟩
def wrLook (r : Wt) (v : Int) : Wt := Wt.goes ⟨r.ph, r.q, r.key, r.slot, r.n, v, r.no, r.told, if othL v 1 r.slot = [] then 0 else 1, r.rk, r.rn, r.oa, r.ok, r.on, r.en, r.j, r.o, r.lv, othL v 1 r.slot, r.r⟩
def wrRival (r : Wt) (s : Int) : Wt :=
  if (nuI s 27 3 == 2) = true then r.ends 5 8
  else if (nuI s 27 3 == 3) = true then r.ends 5 8
  else if (nuI s 27 3 == 4) = true then r.goto 4
  else r.passes
def wrJoined (r : Wt) (j : Jn) : Wt :=
  if (j.r == 2) = true then ⟨7, 4, r.key, r.slot, r.n, r.w, r.no, r.told, r.ra, r.rk, r.rn, r.oa, r.ok, r.on, r.en, j, ⟨r.slot, 1, r.other, 0, false, false⟩, r.lv, r.l, r.r⟩
  else if (j.r == 1) = true then Wt.next ⟨r.ph, r.q, r.key, r.slot, r.n, r.w, r.no, r.told, r.ra, r.rk, r.rn, r.oa, r.ok, r.on, r.en, j, r.o, r.lv, r.l, r.r⟩
  else if (j.r == 3) = true then Wt.ends ⟨r.ph, r.q, r.key, r.slot, r.n, r.w, r.no, r.told, r.ra, r.rk, r.rn, r.oa, r.ok, r.on, r.en, j, r.o, r.lv, r.l, r.r⟩ 5 7
  else ⟨r.ph, r.q, r.key, r.slot, r.n, r.w, r.no, r.told, r.ra, r.rk, r.rn, r.oa, r.ok, r.on, r.en, j, r.o, r.lv, r.l, r.r⟩
def wrOwned (r : Wt) (o : On) : Wt :=
  if o.dn = true then Wt.next ⟨r.ph, r.q, r.key, r.slot, r.n, r.w, r.no, r.told, r.ra, r.rk, r.rn, r.oa, r.ok, r.on, r.en, r.j, o, r.lv, r.l, r.r⟩
  else ⟨r.ph, r.q, r.key, r.slot, r.n, r.w, r.no, r.told, r.ra, r.rk, r.rn, r.oa, r.ok, r.on, r.en, r.j, o, r.lv, r.l, r.r⟩
def wrLeft (r : Wt) (v : Lv) : Wt :=
  if v.dn = true then ⟨9, r.q, r.key, r.slot, r.n, r.w, r.told, r.told, r.ra, r.rk, r.rn, r.oa, r.ok, r.on, r.en, r.j, r.o, v, r.l, r.r⟩
  else ⟨r.ph, r.q, r.key, r.slot, r.n, r.w, r.no, r.told, r.ra, r.rk, r.rn, r.oa, r.ok, r.on, r.en, r.j, r.o, v, r.l, r.r⟩
def wrSt (r : Wt) (m : Mm) : Wt := match r.ph with
  | 0 => wrEnter r (enSt r.en.w2 m) (enMe r.en.w2 m)
  | 1 => ⟨2, r.q, r.key, r.slot, vAt m 5 r.slot, r.w, r.no, r.told, r.ra, r.rk, r.rn, r.oa, r.ok, r.on, r.en, r.j, r.o, r.lv, r.l, r.r⟩
  | 2 => wrLook r (vAt m 8 r.key)
  | 3 => wrRival r (vAt m 4 r.head)
  | 4 => if pastI (vAt m 6 r.head) r.n = true then r.passes else r.ends 5 8
  | 5 => if dnS m 8 r.key r.w = true then r.found else r.goto 2
  | 6 => wrJoined r (jSt r.j m)
  | 7 => wrOwned r (oSt r.o m)
  | 8 => wrLeft r (lSt r.lv m)
  | _ => r
def wrMe (r : Wt) (m : Mm) : Mm := match r.ph with
  | 0 => enMe r.en.w2 m
  | 1 => mLd m 5 r.slot
  | 2 => mLd m 8 r.key
  | 3 => mLd m 4 r.head
  | 4 => mLd m 6 r.head
  | 5 => mSw m 8 r.key r.w (withI r.w 1 r.slot)
  | 6 => jMe r.j m
  | 7 => oMe r.o m
  | 8 => lMe r.lv m
  | _ => m
abbrev wrStepF : FuncId := 15
abbrev wrDoneF : FuncId := 22
abbrev wrErrF : FuncId := 18
abbrev wrNewF : FuncId := 11
def Wt.dn (r : Wt) : Bool := Nat.beq r.ph 9
/-- One that is made. -/
def wrNew (h slot key : Int) : Wt := ⟨0, 1, key, slot, 0, 0, 0, 0, 0, 0, 0, 0, 0, 0, ⟨tkS h, 0, h, false, false, 0, 0⟩, ⟨0, 0, 0, 0, lookF, 0, 0⟩, ⟨0, 0, 0, 0, false, false⟩, ⟨0, 0, 0, false, false⟩, [], []⟩
/-- One that is not: an error. -/
def wrNot (h e : Int) : Wt := ⟨9, 0, 0, 0, 0, 0, e, 0, 0, 0, 0, 0, 0, 0, ⟨tkS h, 0, h, false, false, 0, 0⟩, ⟨0, 0, 0, 0, lookF, 0, 0⟩, ⟨0, 0, 0, 0, false, false⟩, ⟨0, 0, 0, false, false⟩, [], []⟩
def wrOf (c : Cfg) (h key : Int) : Wt := if key < 0 then wrNot h 5 else if key ≥ c.k then wrNot h 5 else if ofOk h c.s = true then wrNew h (tkS h) key else wrNot h 2
/-! The rows of a word, where it is told which of them are empty -/
def gOx (w1 w0 : Bool) (args : List Value) (hp : Hp) : Option (Value × Hp × List Prop) :=
  match args with
  | [a, .int .i64 k, s] => if k = 1 then (bif w1 then gO1 [a, .int .i64 k, s] hp else gO0 [a, .int .i64 k, s] hp) else (bif w0 then gO1 [a, .int .i64 k, s] hp else gO0 [a, .int .i64 k, s] hp)
  | _ => none
theorem gOx_ok {f : FuncId} {w1 w0 : Bool} (h0 : ∀ args hp v hp' pc, gO0 args hp = some (v, hp', pc) → ∀ ds, CallOk Tryz.prog f args hp ⟨v, hp', ds, pc⟩) (h1 : ∀ args hp v hp' pc, gO1 args hp = some (v, hp', pc) → ∀ ds, CallOk Tryz.prog f args hp ⟨v, hp', ds, pc⟩) :
    ∀ args hp v hp' pc, gOx w1 w0 args hp = some (v, hp', pc) → ∀ ds, CallOk Tryz.prog f args hp ⟨v, hp', ds, pc⟩ := by
  intro args hp v hp' pc hg ds
  unfold gOx at hg
  split at hg
  · split at hg
    · cases w1
      · exact h0 _ _ _ _ _ hg ds
      · exact h1 _ _ _ _ _ hg ds
    · cases w0
      · exact h0 _ _ _ _ _ hg ds
      · exact h1 _ _ _ _ _ hg ds
  · cases hg
noncomputable def Ew (w1 w0 : Bool) : Env := (Em3.add 135 (gOx w1 w0)).add 27 (gOx w1 w0)
theorem Ewok (w1 w0 : Bool) : EnvOk (Ew w1 w0) := (Em3ok.add (gOx_ok (gO0_ok mOent fun h => oth_C0 h) (gO1_ok mOent fun h => oth_C1 h))).add (gOx_ok (gO0_ok rOent fun h => ro_C0 h) (gO1_ok rOent fun h => ro_C1 h))
end Go.Proofs.YtocfhiafegkfkaaGreat.Ct
