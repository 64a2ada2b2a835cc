/-
  Whole things as bytes: package wire's put, Put...
  Conditions: the lists lie in the world; the bytes fit.
-/
import Derived.Test.YtmbkbkfcbloafaaGreatWireR
namespace Go.Proofs.YtmbkbkfcbloafaaGreat
open Go.RowKit
set_option linter.unusedSectionVars false
set_option linter.unusedSimpArgs false
set_option linter.unusedVariables false
set_option maxRecDepth 100000
theorem Ent.okmod {w w' : World} {x : Ent} (hx : x.ok w) (h : Mod (fun _ => False) w w') : x.ok w' := ⟨hx.zxid, hx.session, hx.xid, Txn.okmod hx.t h, hx.n, hx.rd.mod h (fun _ _ h => h), fun a ha => Txn.okmod (hx.all a ha) h⟩
theorem Req.okmod {w w' : World} {x : Req} (hx : x.ok w) (h : Mod (fun _ => False) w w') : x.ok w' := ⟨Op.okmod hx.q h, hx.n, hx.rd.mod h (fun _ _ h => h), fun a ha => Op.okmod (hx.all a ha) h, hx.an, hx.ard.mod h (fun _ _ h => h), fun a ha => hx.aall a ha⟩

end Go.Proofs.YtmbkbkfcbloafaaGreat
