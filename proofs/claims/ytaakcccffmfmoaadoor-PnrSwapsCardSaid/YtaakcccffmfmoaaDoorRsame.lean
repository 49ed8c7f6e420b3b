/- Two PNRs are alike: the document's answer. -/
import Derived.Test.YtaakcccffmfmoaaDoorRsame1
import Derived.Test.YtaakcccffmfmoaaDoorRsame2
import Derived.Test.YtaakcccffmfmoaaDoorRsame3
namespace Go.Proofs.YtaakcccffmfmoaaDoor
set_option linter.unusedVariables false
open Go Go.RowKit
theorem rsame_any (p q : Pnr) (h g : Hd) (w : World) (lo hi lo' hi' : Nat) (hp : PAt w lo hi p h) (hq : PAt w lo' hi' q g) (hs : Small h) (hs' : Small g) (hhi : hi ≤ w.heap.size) (hhi' : hi' ≤ w.heap.size) :
    Calls Tryd.prog 26 #[.agg #[.string p.loc, .string p.off, .slice h.an h.nn h.cn, .slice h.ag h.ng h.cg, .slice h.ap h.np h.cp, .int .i64 p.tik.kind, .int .i64 p.tik.day, .int .i64 p.tik.min, .string p.rc, .slice h.ar h.nr h.cr, .slice h.ae h.ne h.ce, .bool p.queued], .agg #[.string q.loc, .string q.off, .slice g.an g.nn g.cn, .slice g.ag g.ng g.cg, .slice g.ap g.np g.cp, .int .i64 q.tik.kind, .int .i64 q.tik.day, .int .i64 q.tik.min, .string q.rc, .slice g.ar g.nr g.cr, .slice g.ae g.ne g.ce, .bool q.queued]] w (RetB w (decide (p = q))) := by
  rcases Bool.eq_false_or_eq_true (decide (p.loc = q.loc)) with v0 | v0
  case inr => exact rsame_0 p q h g w lo hi lo' hi' hp hq hs hs' hhi hhi' v0
  rcases Bool.eq_false_or_eq_true (decide (p.off = q.off)) with v1 | v1
  case inr => exact rsame_1 p q h g w lo hi lo' hi' hp hq hs hs' hhi hhi' v0 v1
  rcases Bool.eq_false_or_eq_true (decide (p.tik = q.tik)) with v2 | v2
  case inr => exact rsame_2 p q h g w lo hi lo' hi' hp hq hs hs' hhi hhi' v0 v1 v2
  rcases Bool.eq_false_or_eq_true (decide (p.rc = q.rc)) with v3 | v3
  case inr => exact rsame_3 p q h g w lo hi lo' hi' hp hq hs hs' hhi hhi' v0 v1 v2 v3
  rcases Bool.eq_false_or_eq_true (decide (p.queued = q.queued)) with v4 | v4
  case inr => exact rsame_4 p q h g w lo hi lo' hi' hp hq hs hs' hhi hhi' v0 v1 v2 v3 v4
  rcases Bool.eq_false_or_eq_true (decide (h.nn = g.nn)) with v5 | v5
  case inr => exact rsame_5 p q h g w lo hi lo' hi' hp hq hs hs' hhi hhi' v0 v1 v2 v3 v4 v5
  rcases Bool.eq_false_or_eq_true (decide (h.ng = g.ng)) with v6 | v6
  case inr => exact rsame_6 p q h g w lo hi lo' hi' hp hq hs hs' hhi hhi' v0 v1 v2 v3 v4 v5 v6
  rcases Bool.eq_false_or_eq_true (decide (h.ne = g.ne)) with v7 | v7
  case inr => exact rsame_7 p q h g w lo hi lo' hi' hp hq hs hs' hhi hhi' v0 v1 v2 v3 v4 v5 v6 v7
  rcases Bool.eq_false_or_eq_true (decide (p.phones = q.phones)) with v8 | v8
  case inr => exact rsame_8 p q h g w lo hi lo' hi' hp hq hs hs' hhi hhi' v0 v1 v2 v3 v4 v5 v6 v7 v8
  rcases Bool.eq_false_or_eq_true (decide (p.remarks = q.remarks)) with v9 | v9
  case inr => exact rsame_9 p q h g w lo hi lo' hi' hp hq hs hs' hhi hhi' v0 v1 v2 v3 v4 v5 v6 v7 v8 v9
  exact rsame_10 p q h g w lo hi lo' hi' hp hq hs hs' hhi hhi' v0 v1 v2 v3 v4 v5 v6 v7 v8 v9
end Go.Proofs.YtaakcccffmfmoaaDoor
