/-
  Events, hellos, notes: what package wire lays them as.
  Conditions: the texts fit.
-/
import Derived.Test.YtmbkbkfcbloafaaWireA
namespace Go.Proofs.Ytmbkbkfcbloafaa
open Go.RowKit
set_option linter.unusedSectionVars false
set_option linter.unusedSimpArgs false
set_option linter.unusedVariables false
set_option maxRecDepth 100000

structure Ev where
  kind : Int
  path : ByteArray
  zxid : Int
structure He where
  session : Int
  zxid : Int
  timeout : Int
  secret : ByteArray
structure No where
  a : Int
  b : Int
  c : Int
  d : Int
  e : Int
  f : Int
def Ev.cells (x : Ev) : List Value := [.int .i64 x.kind, .string x.path, .int .i64 x.zxid]
def He.cells (x : He) : List Value := [.int .i64 x.session, .int .i64 x.zxid, .int .i64 x.timeout, .string x.secret]
def No.cells (x : No) : List Value := [.int .i64 x.a, .int .i64 x.b, .int .i64 x.c, .int .i64 x.d, .int .i64 x.e, .int .i64 x.f]
def Ev.ok (x : Ev) : Prop := i64 x.kind ∧ i64 x.zxid ∧ bfits (x.path.size + 100)
def He.ok (x : He) : Prop := i64 x.session ∧ i64 x.zxid ∧ i64 x.timeout ∧ bfits (x.secret.size + 100)
def No.ok (x : No) : Prop := i64 x.a ∧ i64 x.b ∧ i64 x.c ∧ i64 x.d ∧ i64 x.e ∧ i64 x.f

def numB (n : Int) : List UInt8 := sevens (zig n)
def txtB (s : ByteArray) : List UInt8 := sevens s.size ++ s.data.toList
theorem numB_len {n : Int} (h : i64 n) : (numB n).length ≤ 10 := by
  have h3 := zig_lt n h.1 h.2
  exact sevens_length 10 (zig n) (by omega) (by omega)
theorem txtB_len {s : ByteArray} (h : bfits s.size) : (txtB s).length ≤ s.size + 10 := by
  have := sevens_length 10 s.size (by unfold bfits at h; omega) (by omega)
  unfold txtB
  rw [List.length_append, toList_size]; omega

def Ev.bytes (x : Ev) : List UInt8 := numB x.kind ++ txtB x.path ++ numB x.zxid
def He.bytes (x : He) : List UInt8 := numsB [x.session, x.zxid, x.timeout] ++ txtB x.secret
def No.bytes (x : No) : List UInt8 := numsB [x.a, x.b, x.c, x.d, x.e, x.f]

theorem layEvent_st {w0 w : World} {l : List Thing} {pb : Nat} (h : St w0 w (wrt pb [] :: l)) (x : Ev) (hx : x.ok) :
    Calls Try.prog 28 #[.pointer (some ⟨pb, 0, none⟩), .agg x.cells.toArray] w (StPost (.tuple #[]) w0 (wrt pb x.bytes :: l)) := by
  obtain ⟨kind, path, zxid⟩ := x
  obtain ⟨h1, h2, h3⟩ := hx
  simp only [Ev.cells]
  have hS := h.box1 #[.int .i64 kind, .string path, .int .i64 zxid] 23
  have HK := Lib.hid h1
  have HZ := Lib.hid h2
  have HF := Lib.hid h3
  have hl1 := Lib.hid (numB_len h1)
  have hl2 := Lib.hid (txtB_len (h3.mono (Nat.le_add_right _ _)))
  clear h h1 h2 h3
  go_enter Try.func28, Try.ntmps28
  go_wp2_with fail
  refine (wnum_st hS 1 rfl kind HK.out (bfits_small (by simp))).mono ?_
  clear hS
  rintro e w1 ⟨rfl, hS⟩
  simp only [List.set_cons_succ, List.set_cons_zero, List.nil_append] at hS
  have c1 := blk_cell (hS.box 0 rfl) 1 (.string path) rfl
  have z1 := heap_lt (hS.box 0 rfl)
  go_wp2_with fail
  refine (wtext_st hS 1 rfl path (HF.out.mono (by have h1 := hl1.out; unfold numB at h1; (try simp only at h1 ⊢); omega))).mono ?_
  clear hS
  rintro e w2 ⟨rfl, hS⟩
  simp only [List.set_cons_succ, List.set_cons_zero] at hS
  have c2 := blk_cell (hS.box 0 rfl) 2 (.int .i64 zxid) rfl
  have z2 := heap_lt (hS.box 0 rfl)
  go_wp2_with fail
  refine (wnum_st hS 1 rfl zxid HZ.out (HF.out.mono (by have h1 := hl1.out; have h2 := hl2.out; unfold numB at h1; unfold txtB at h2; simp only [List.length_append] at h1 h2 ⊢; omega))).mono ?_
  clear hS
  rintro e w3 ⟨rfl, hS⟩
  simp only [List.set_cons_succ, List.set_cons_zero] at hS
  go_wp2
  go_end0
  exact ⟨rfl, hS.tail⟩

theorem layHello_st {w0 w : World} {l : List Thing} {pb : Nat} (h : St w0 w (wrt pb [] :: l)) (x : He) (hx : x.ok) :
    Calls Try.prog 30 #[.pointer (some ⟨pb, 0, none⟩), .agg x.cells.toArray] w (StPost (.tuple #[]) w0 (wrt pb x.bytes :: l)) := by
  obtain ⟨a, b, c, s⟩ := x
  obtain ⟨h1, h2, h3, h4⟩ := hx
  simp only [He.cells]
  have hS := ((h.box1 #[.int .i64 a, .int .i64 b, .int .i64 c, .string s] 25).slice1 #[.int .i64 a, .int .i64 b, .int .i64 c] 3 1 3 rfl (by unfold maxLen; omega))
  rw [World.size_alloc] at hS
  have hr : ∀ t ∈ [a, b, c], i64 t := by simp [h1, h2, h3]
  have HR := Lib.hid hr
  have HF := Lib.hid h4
  have hln := Lib.hid (numsB_len [a, b, c] hr)
  clear h h1 h2 h3 h4 hr
  go_enter Try.func30, Try.ntmps30
  go_wp2_with fail
  refine (numbers_st hS 2 0 rfl _ 3 3 [a, b, c] rfl (by omega) rfl HR.out (bfits_small (by simp)) (by omega)).mono ?_
  clear hS
  rintro e w1 ⟨rfl, hS⟩
  simp only [List.set_cons_succ, List.set_cons_zero, List.nil_append] at hS
  have c1 := blk_cell (hS.box 1 rfl) 3 (.string s) rfl
  have z1 := heap_lt (hS.box 1 rfl)
  go_wp2_with fail
  refine (wtext_st hS 2 rfl s (HF.out.mono (by have := hln.out; simp only [List.length_cons, List.length_nil] at this ⊢; omega))).mono ?_
  clear hS
  rintro e w2 ⟨rfl, hS⟩
  simp only [List.set_cons_succ, List.set_cons_zero] at hS
  go_wp2
  go_end0
  exact ⟨rfl, hS.tail.tail⟩

theorem layNote_st {w0 w : World} {l : List Thing} {pb : Nat} (h : St w0 w (wrt pb [] :: l)) (x : No) (hx : x.ok) :
    Calls Try.prog 32 #[.pointer (some ⟨pb, 0, none⟩), .agg x.cells.toArray] w (StPost (.tuple #[]) w0 (wrt pb x.bytes :: l)) := by
  obtain ⟨a, b, c, d, e, f⟩ := x
  obtain ⟨h1, h2, h3, h4, h5, h6⟩ := hx
  simp only [No.cells]
  have hS := ((h.box1 #[.int .i64 a, .int .i64 b, .int .i64 c, .int .i64 d, .int .i64 e, .int .i64 f] 27).slice1 #[.int .i64 a, .int .i64 b, .int .i64 c, .int .i64 d, .int .i64 e, .int .i64 f] 3 1 6 rfl (by unfold maxLen; omega))
  rw [World.size_alloc] at hS
  have hr : ∀ t ∈ [a, b, c, d, e, f], i64 t := by simp [h1, h2, h3, h4, h5, h6]
  have HR := Lib.hid hr
  clear h h1 h2 h3 h4 h5 h6 hr
  go_enter Try.func32, Try.ntmps32
  go_wp2_with fail
  refine (numbers_st hS 2 0 rfl _ 6 6 [a, b, c, d, e, f] rfl (by omega) rfl HR.out (bfits_small (by simp)) (by omega)).mono ?_
  clear hS
  rintro e w1 ⟨rfl, hS⟩
  simp only [List.set_cons_succ, List.set_cons_zero, List.nil_append] at hS
  go_wp2
  go_end0
  exact ⟨rfl, hS.tail.tail⟩
end Go.Proofs.Ytmbkbkfcbloafaa
