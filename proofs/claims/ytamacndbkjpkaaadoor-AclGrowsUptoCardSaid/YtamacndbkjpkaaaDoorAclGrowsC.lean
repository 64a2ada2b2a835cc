/-
  AclGrows, for arguments as they come in, of a bulk that the second form bounds.
  No condition.
-/
import Derived.Test.YtamacndbkjpkaaaDoorAclGrows
import Derived.Test.YtamacndbkjpkaaaDoorAclOpen
namespace Go.Proofs.YtamacndbkjpkaaaDoor
open Go.ChangeShapes Go.WideShapes Go.ChangeAt Go.RowKit Go.Deep
set_option linter.unusedVariables false

theorem bulk_one {H : Type} (d : DataW H) : 1 ≤ Rows.uptoBulk d := by
  cases d with
  | lit l => cases l <;> simp [Rows.uptoBulk]
  | nil => simp [Rows.uptoBulk]
  | ptr d => simp [Rows.uptoBulk]
  | slice elems spare => simp [Rows.uptoBulk]
  | agg parts => simp [Rows.uptoBulk]
  | iface t d => simp [Rows.uptoBulk]
  | map entries => simp [Rows.uptoBulk]
  | held h => simp [Rows.uptoBulk]
theorem bulk_length {H : Type} (l : List (DataW H)) : l.length ≤ Rows.uptoBulkAll l := by
  induction l with
  | nil => simp [Rows.uptoBulkAll]
  | cons x r ih => have := bulk_one x; simp only [Rows.uptoBulkAll, List.length_cons]; omega

section
variable {H : Type} {enc : TypeId × Value → H} {w : World} {base : Nat} {spare : Nat → Bool} {held : Bool} {base' : Nat}

theorem open_acls_bulk {v : Value} {d : DataW H} {p : List MemPlace} (k : DataW.Trod enc Tryd.prog w base spare held 22 v d p) (o : Value.okWide Tryd.prog w .any base' 22 v) :
    ∃ (a : Option Addr) (cap : Nat) (l : List ARow), v = .slice a l.length cap ∧ Rd w 2 a l.length cap (l.flatMap ARow.cells) ∧ l.length ≤ Rows.uptoBulk d := by
  obtain ⟨f, k⟩ := k
  obtain ⟨a, n, cap, rfl⟩ := okWide_slice Tryd.underlying22 o
  obtain ⟨a', cap', l, D, D', h1, hr, hx, hD, hok⟩ := open_rows cellsA (by omega) ARow.cells (fun _ => rfl) (fun p _ => p.fit) open_row Tryd.underlying22 k
  simp only [Value.cells, List.cons.injEq, Value.slice.injEq, and_true] at h1
  obtain ⟨rfl, rfl, rfl⟩ := h1
  refine ⟨a, cap, l, rfl, hr, ?_⟩
  rcases hx with ⟨_, h, _⟩ | h
  · rw [h]; exact Nat.zero_le _
  · simp only at h
    rw [h, ← hD]
    have := bulk_length D
    simp only [Rows.uptoBulk]
    omega

theorem open_strs_bulk {v : Value} {d : DataW H} {p : List MemPlace} (k : DataW.Trod enc Tryd.prog w base spare held 25 v d p) (o : Value.okWide Tryd.prog w .any base' 25 v) :
    ∃ (a : Option Addr) (cap : Nat) (l : List ByteArray), v = .slice a l.length cap ∧ Rd w 1 a l.length cap (l.flatMap strC) ∧ l.length ≤ Rows.uptoBulk d := by
  obtain ⟨f, k⟩ := k
  obtain ⟨a, n, cap, rfl⟩ := okWide_slice Tryd.underlying25 o
  obtain ⟨a', cap', l, D, D', h1, hr, hx, hD, hok⟩ := open_rows cellsS (by omega) strC (fun _ => rfl) (fun p _ => True) (fun fuel cs x hl h => by
    obtain ⟨s, rfl, _, _⟩ := DataW.trod_string Tryd.underlying9 h
    exact ⟨s, rfl, trivial⟩) Tryd.underlying25 k
  simp only [Value.cells, List.cons.injEq, Value.slice.injEq, and_true] at h1
  obtain ⟨rfl, rfl, rfl⟩ := h1
  refine ⟨a, cap, l, rfl, hr, ?_⟩
  rcases hx with ⟨_, h, _⟩ | h
  · rw [h]; exact Nat.zero_le _
  · simp only at h
    rw [h, ← hD]
    have := bulk_length D
    simp only [Rows.uptoBulk]
    omega
end

theorem aclGrows_contract {H : Type} {enc : TypeId × Value → H} (W : World) (base : Nat) (v0 : Value) (d0 : DataW H) (p0 : List MemPlace) (v1 : Value) (d1 : DataW H) (p1 : List MemPlace) (v2 : Value) (d2 : DataW H) (p2 : List MemPlace)
    (v3 : Value) (d3 : DataW H) (p3 : List MemPlace) (v4 : Value) (d4 : DataW H) (p4 : List MemPlace) (v5 : Value) (d5 : DataW H) (p5 : List MemPlace)
    (k0 : DataW.Trod enc Tryd.prog W 0 (fun _ => true) true 22 v0 d0 p0) (k1 : DataW.Trod enc Tryd.prog W 0 (fun _ => true) true 22 v1 d1 p1) (k2 : DataW.Trod enc Tryd.prog W 0 (fun _ => true) true 25 v2 d2 p2)
    (k3 : DataW.Trod enc Tryd.prog W 0 (fun _ => true) true 25 v3 d3 p3) (k4 : DataW.Trod enc Tryd.prog W 0 (fun _ => true) true 3 v4 d4 p4) (k5 : DataW.Trod enc Tryd.prog W 0 (fun _ => true) true 3 v5 d5 p5)
    (o0 : Value.okWide Tryd.prog W .any base 22 v0) (o1 : Value.okWide Tryd.prog W .any base 22 v1) (o2 : Value.okWide Tryd.prog W .any base 25 v2) (o3 : Value.okWide Tryd.prog W .any base 25 v3)
    (o4 : Value.okWide Tryd.prog W .any base 3 v4) (o5 : Value.okWide Tryd.prog W .any base 3 v5) (hT : Tab W)
    (hsz : (DataW.weightsEach Tryd.prog [22, 22, 25, 25, 3, 3] [d0, d1, d2, d3, d4, d5]).all (· ≤ reachBytes) = true) (hkk : Rows.uptoBulkAll [d0, d1, d2, d3, d4, d5] ≤ 1048576) :
    Calls Tryd.prog 6 #[v0, v1, v2, v3, v4, v5] W (CopyPost (.bool true) W) := by
  simp only [Rows.uptoBulkAll] at hkk
  obtain ⟨a, cap, l, rfl, hr, hl⟩ := open_acls_bulk k0 o0
  obtain ⟨ma, mcap, m, rfl, hmr, hm⟩ := open_acls_bulk k1 o1
  obtain ⟨ia, icap, ids, rfl, hi, hil⟩ := open_strs_bulk k2 o2
  obtain ⟨ka, kcap, more, rfl, hk, hkl⟩ := open_strs_bulk k3 o3
  obtain ⟨p, rfl, hp⟩ := open_int k4 o4
  obtain ⟨q, rfl, hq⟩ := open_int k5 o5
  exact grows_any a _ cap l ma _ mcap m ia _ icap ids ka _ kcap more p q W hT hr rfl (by omega) hmr rfl (by omega) hi rfl (by omega) hk rfl (by omega) hp.2 hq.2
end Go.Proofs.YtamacndbkjpkaaaDoor
