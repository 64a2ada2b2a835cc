/-
  Things with lists as bytes: the document's part, op, answer.
  Conditions: the lists lie in the world; the bytes fit.
-/
import Derived.Test.YtmbkbkfcbloafabWireP
namespace Go.Proofs.Ytmbkbkfcbloafab
open Go.RowKit
set_option linter.unusedSectionVars false
set_option linter.unusedSimpArgs false
set_option linter.unusedVariables false
set_option maxRecDepth 100000

theorem heap_alloc_new1 (w : World) (p : Obj) (c : Array Value) (T : TypeId) : ((w.alloc p).alloc (.cells c T)).heap[w.heap.size + 1]? = some (.cells c T (0, 0)) := by
  have := heap_alloc_new (w.alloc p) (.cells c T)
  rwa [World.size_alloc] at this
theorem heap_drewI {w : World} {n : Nat} {o : Obj} (h : w.heap[n]? = some o) : w.drew.heap[n]? = some o := h
theorem heap_drewNI {w : World} {n k : Nat} {o : Obj} (h : w.heap[n]? = some o) : (w.drewN k).heap[n]? = some o := h
theorem heap_allocI {w : World} {n : Nat} {o p : Obj} (h : w.heap[n]? = some o) : (w.alloc p).heap[n]? = some o := ((Mod.refl (fun _ => False) w).alloc p).heap h id

end Go.Proofs.Ytmbkbkfcbloafab
