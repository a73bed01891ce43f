/- The document's beginning: what it holds. -/
import Derived.Test.YtjkohcdgjlaobaaCtAl9
namespace Go.Proofs.Ytjkohcdgjlaobaa.Ct
open Go Go.Proofs Go.Proofs.Ytjkohcdgjlaobaa.Ev
open Go.RowKit

structure Od where
  slot : Int
  nx : Int
  s : Int
  seq : Int
  aw : Int
  anx : Int
  av : Int
  ad : Bool
  e : Int
  h : Int
  n : Int
  dn : Bool
def Od.cells (d : Od) : List Value := [.int .i64 d.slot, .int .i64 d.nx, .int .u64 d.s, .int .u64 d.seq, .int .u64 d.aw, .int .i64 d.anx, .int .u64 d.av, .bool d.ad, .int .i64 d.e, .int .u64 d.h, .int .u64 d.n, .bool d.dn]
def odL : List Value → Option Od
  | [.int .i64 a, .int .i64 b, .int .u64 c, .int .u64 d, .int .u64 e, .int .i64 f, .int .u64 g, .bool h, .int .i64 i, .int .u64 j, .int .u64 k, .bool l] => some ⟨a, b, c, d, e, f, g, h, i, j, k, l⟩
  | _ => none
theorem odL_some {l : List Value} {d : Od} (h : odL l = some d) : l = d.cells := by
  unfold odL at h
  split at h
  · obtain rfl := Option.some.inj h; rfl
  · cases h
abbrev odF : FuncId := 28
end Go.Proofs.Ytjkohcdgjlaobaa.Ct
