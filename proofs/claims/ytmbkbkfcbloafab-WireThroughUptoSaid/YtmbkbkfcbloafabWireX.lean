/-
  Whole things taken up by the document.
  No condition: every law states its own.
-/
import Derived.Test.YtmbkbkfcbloafabWireV
namespace Go.Proofs.Ytmbkbkfcbloafab
open Go.RowKit
set_option linter.unusedSectionVars false
set_option linter.unusedSimpArgs false
set_option linter.unusedVariables false
set_option maxRecDepth 100000

theorem St.absorbN {w0 w : World} {a kb t : Thing} (ps ts l : List Thing) (h : St w0 w (a :: kb :: t :: (ps ++ grp ts :: l))) : St w0 w (a :: (ps ++ grp (ts ++ [t]) :: l)) := by
  have h1 : St w0 w (grp ts :: t :: kb :: a :: (ps ++ l)) := h.perm (by
    have e : a :: kb :: t :: (ps ++ grp ts :: l) = (a :: kb :: t :: ps) ++ ([grp ts] ++ l) := by simp
    rw [e]
    refine (List.perm_append_comm_assoc (a :: kb :: t :: ps) [grp ts] l).trans (.cons _ ?_)
    show (a :: kb :: t :: (ps ++ l)).Perm (t :: kb :: a :: (ps ++ l))
    refine (List.perm_append_comm_assoc [a, kb] [t] (ps ++ l)).trans (.cons _ (.swap _ _ _)))
  have h2 : St w0 w ((ts ++ [t]) ++ (kb :: a :: (ps ++ l))) := by rw [List.append_assoc]; exact h1.ungrp
  have h3 : St w0 w (kb :: grp (ts ++ [t]) :: a :: (ps ++ l)) := h2.regrp.swap
  have h4 := h3.tail
  refine h4.perm ?_
  have e : a :: (ps ++ grp (ts ++ [t]) :: l) = (a :: ps) ++ ([grp (ts ++ [t])] ++ l) := by simp
  rw [e]
  exact List.perm_append_comm_assoc [grp (ts ++ [t])] (a :: ps) l
theorem St.rowStartN {w0 w : World} {a : Thing} (ps l : List Thing) (h : St w0 w (a :: (ps ++ l))) (E k : Nat) : St w0 w (a :: (ps ++ sl E k none 0 0 [] :: grp [] :: l)) := by
  have h1 := h.rowStart E k
  refine h1.perm (.cons _ ?_)
  have e : ps ++ sl E k none 0 0 [] :: grp [] :: l = ps ++ ([sl E k none 0 0 [], grp []] ++ l) := by simp
  rw [e]
  exact List.perm_append_comm_assoc [_, _] ps l
theorem St.pack {w0 w : World} {a b c : Thing} (ts l : List Thing) (h : St w0 w (a :: b :: c :: grp ts :: l)) : St w0 w (a :: grp (ts ++ [b, c]) :: l) := by
  have h1 : St w0 w (grp ts :: b :: c :: a :: l) := h.perm (by
    refine (List.perm_append_comm_assoc [a, b, c] [grp ts] l).trans (.cons _ ?_)
    exact List.perm_append_comm_assoc [a] [b, c] l)
  have h2 : St w0 w ((ts ++ [b, c]) ++ (a :: l)) := by rw [List.append_assoc]; exact h1.ungrp
  exact h2.regrp.swap

/-! ### A thing and the list in it -/
def TxnW.fine (p : Txn × List Txn) : Prop := p.1.fine ∧ p.1.subsN = p.2.length ∧ (∀ a ∈ p.2, Txn.fine a) ∧ p.2.length ≤ 256
def TxnW.things (p : Txn × List Txn) : List Thing := Txn.things p.1 ++ [sl 26 8 p.1.subsA p.1.subsN p.1.subsC (p.2.flatMap Txn.cells), grp (p.2.map fun a => grp (Txn.things a))]
def TxnW.bytes (p : Txn × List Txn) : List UInt8 := p.1.bytes ++ listB Txn.bytes p.2
def qTxnW (bs : List UInt8) (s : RS) : RS := qList bs (qTxn bs) (qTxn bs s)
end Go.Proofs.Ytmbkbkfcbloafab
