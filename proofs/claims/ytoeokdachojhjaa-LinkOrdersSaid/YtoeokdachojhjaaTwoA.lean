/-
  Two ends and what is between them, in memory; begins: what has come is the beginning of what was sent.
  Conditions: the net's ('Inv').
-/
import Derived.Test.YtoeokdachojhjaaOrdB
import Derived.Test.YtoeokdachojhjaaMapS
import Derived.Test.YtoeokdachojhjaaLinkL
namespace Go.Proofs.Ytoeokdachojhjaa
open Go.RowKit
set_option linter.unusedSectionVars false
set_option linter.unusedSimpArgs false
set_option linter.unusedVariables false

def Lk.wc (L : Lk) (c : Nat) : Lk := { L with cnt := c }
/-- The cells of two. -/
def twc (pb : Nat → Nat) (sa ga : Nat → Option Addr) (sc gc : Nat → Nat) (S G : Nat → List ByteArray) (pa : Option Addr) (pl pc : Nat) : Array Value :=
  #[.pointer (some ⟨pb 0, 0, none⟩), .pointer (some ⟨pb 1, 0, none⟩), .int .i64 1, .int .i64 1, .slice (sa 0) (S 0).length (sc 0), .slice (sa 1) (S 1).length (sc 1), .slice (ga 0) (G 0).length (gc 0), .slice (ga 1) (G 1).length (gc 1), .slice pa pl pc]

def tx (a : Option Addr) (c : Nat) (l : List ByteArray) : Thing := sl 9 1 a l.length c (l.map .string)

def Two (W : World) (tb : Nat) (E : Nat → Lk) (S G : Nat → List ByteArray) (P : List Pk) (w : World) : Prop :=
  ∃ (pb cn : Nat → Nat) (sa ga : Nat → Option Addr) (sc gc : Nat → Nat) (pa : Option Addr) (pc : Nat),
    St W w [bx tb (twc pb sa ga sc gc S G pa P.length pc) 32, lk (pb 0) ((E 0).wc (cn 0)), lk (pb 1) ((E 1).wc (cn 1)), tx (sa 0) (sc 0) (S 0), tx (sa 1) (sc 1) (S 1), tx (ga 0) (gc 0) (G 0), tx (ga 1) (gc 1) (G 1), sl 41 8 pa P.length pc (flat P)]

theorem two_cases {k : Nat} (h : k < 2) : k = 0 ∨ k = 1 := by omega

theorem twc_end (pb : Nat → Nat) (sa ga : Nat → Option Addr) (sc gc : Nat → Nat) (S G : Nat → List ByteArray) (pa : Option Addr) (pl pc : Nat) {k : Nat} (h : k < 2) : (twc pb sa ga sc gc S G pa pl pc)[k]? = some (.pointer (some ⟨pb k, 0, none⟩)) := by
  rcases two_cases h with rfl | rfl <;> rfl
theorem twc_sent (pb : Nat → Nat) (sa ga : Nat → Option Addr) (sc gc : Nat → Nat) (S G : Nat → List ByteArray) (pa : Option Addr) (pl pc : Nat) {k : Nat} (h : k < 2) : (twc pb sa ga sc gc S G pa pl pc)[4 + k]? = some (.slice (sa k) (S k).length (sc k)) := by
  rcases two_cases h with rfl | rfl <;> rfl
theorem twc_got (pb : Nat → Nat) (sa ga : Nat → Option Addr) (sc gc : Nat → Nat) (S G : Nat → List ByteArray) (pa : Option Addr) (pl pc : Nat) {k : Nat} (h : k < 2) : (twc pb sa ga sc gc S G pa pl pc)[6 + k]? = some (.slice (ga k) (G k).length (gc k)) := by
  rcases two_cases h with rfl | rfl <;> rfl

theorem texts_n (a b : Option Addr) (ca cb n : Nat) (xs : List ByteArray) (hn : xs.length = n) (w : World) (ha : Rd w 1 a n ca (xs.map .string)) (hb : Rd w 1 b n cb (xs.map .string)) :
    Calls Try.prog 13 #[.slice a n ca, .slice b n cb] w (DrawPost (.bool true) w) := by
  subst hn
  exact texts_yes a b ca cb xs w ha hb

set_option maxHeartbeats 4000000 in
theorem begins_two {W w : World} {tb : Nat} {E : Nat → Lk} {S G : Nat → List ByteArray} {P : List Pk} (h : Two W tb E S G P w) (hI : Inv E S G P) {k : Nat} (hk : k < 2) :
    Calls Try.prog 10 #[.pointer (some ⟨tb, 0, none⟩), .int .i64 (k : Int)] w (fun e w' => e = .returned (.bool true) ∧ Two W tb E S G P w') := by
  obtain ⟨pb, cn, sa, ga, sc, gc, pa, pc, hS⟩ := h
  have hb := hS.box 0 rfl
  have cg := blk_cell hb (6 + k) _ (twc_got pb sa ga sc gc S G pa P.length pc hk)
  have cs := blk_cell hb (4 + (1 - k)) _ (twc_sent pb sa ga sc gc S G pa P.length pc (show 1 - k < 2 by omega))
  have htb := heap_lt hb
  have hG := (hI.lk k hk)
  have hle := hG.le
  have hGr : Rd w 1 (ga k) (G k).length (gc k) ((G k).map .string) := by
    rcases two_cases hk with rfl | rfl
    · exact (hS.slice 5 rfl).rd
    · exact (hS.slice 6 rfl).rd
  have hSr : Rd w 1 (sa (1 - k)) (S (1 - k)).length (sc (1 - k)) ((S (1 - k)).map .string) := by
    rcases two_cases hk with rfl | rfl
    · exact (hS.slice 4 rfl).rd
    · exact (hS.slice 3 rfl).rd
  have hpre : ((S (1 - k)).map Value.string).take ((G k).length * 1) = (G k).map .string := by
    rw [Nat.mul_one, ← List.map_take, ← hG.pre]
  have hk0 : (0 : Int) ≤ (k : Int) := by omega
  have hk2 : (k : Int) < 2 := by omega
  have hw : IntKind.i64.wrap (1 - (k : Int)) = ((1 - k : Nat) : Int) := by
    rw [IntWalk.i64_in _ (by omega)]; omega
  have hj0 : (0 : Int) ≤ ((1 - k : Nat) : Int) := by omega
  have hj2 : ((1 - k : Nat) : Int) < 2 := by omega
  have hkn : k < 2 := hk
  have hjn : 1 - k < 2 := by omega
  have hcap := hSr.2.1
  obtain ⟨gl, hgl⟩ : ∃ gl, (G k).length = gl := ⟨_, rfl⟩
  obtain ⟨sl', hsl⟩ : ∃ sl', (S (1 - k)).length = sl' := ⟨_, rfl⟩
  rw [hgl] at cg hle hGr hpre
  rw [hsl] at cs hle hSr hcap
  have gg : decide ((sl' : Int) < (gl : Int)) = false := by simp; omega
  have HGL := Lib.hid hgl
  have HG := Lib.hid hGr
  have HSR := Lib.hid hSr
  have HP := Lib.hid hpre
  have HS := Lib.hid hS
  clear hS hb hG hI hGr hSr hpre hgl hsl
  go_enter Try.func10, Try.ntmps10
  go_wp2_with ((with_reducible refine at_list ?_); refine wpList_cutR 9 1 (by kernel_rfl) (by kernel_rfl) (by kernel_rfl) (sa (1 - k)) sl' (sc (1 - k)) _ rfl HSR.out _ _ _ rfl rfl rfl 0 gl (sc (1 - k)) (bounds_h _ _ _ _ (by omega) (by omega)) (Nat.zero_le _) hle (by omega) (Nat.le_refl _) ?_; rw [Nat.zero_mul, List.drop_zero, Nat.sub_zero, Nat.sub_zero, HP.out]; intro p' hp' ho')
  refine (texts_n (ga k) p' (gc k) (sc (1 - k)) gl (G k) HGL.out w HG.out hp').mono ?_
  rintro e w1 ⟨d, rfl, rfl⟩
  go_wp2
  go_ret
  exact ⟨rfl, pb, cn, sa, ga, sc, gc, pa, pc, HS.out.drewN d⟩
end Go.Proofs.Ytoeokdachojhjaa
