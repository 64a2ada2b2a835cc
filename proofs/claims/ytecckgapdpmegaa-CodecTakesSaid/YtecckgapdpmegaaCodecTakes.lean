/-
  CodecTakes: two readers by turns.
  No condition.
-/
import Derived.Test.YtecckgapdpmegaaCodecZ
import Derived.Test.YtecckgapdpmegaaCodecL
namespace Go.Proofs.Ytecckgapdpmegaa
open Go.ChangeShapes Go.WideShapes Go.ChangeAt Go.RowKit Go.Deep
set_option linter.unusedVariables false
set_option linter.unusedSimpArgs false

theorem St.two {w0 w : World} {a b c d : Thing} {l : List Thing} (h : St w0 w (a :: b :: c :: d :: l)) : St w0 w (c :: d :: a :: b :: l) :=
  h.perm (List.perm_append_comm_assoc [a, b] [c, d] l)

theorem takeS_ok {bs : List UInt8} {x : It} {s : RS} (h : s.ok bs.length) : (takeS bs x s).ok bs.length := by
  unfold takeS
  repeat' split
  · exact rnum_ok h
  · exact rflag_ok h
  · exact rtext_ok h
  · exact (rcount_ok h).1
  · exact h.fail 11 (.inr (.inl rfl))
  · exact rend_ok h
  · exact h

/-- What holds between the items: each reader stands where the document's stands. -/
def TkRel (W : World) (rb db qb eb : Nat) (S T : ByteArray) (wr : World) : Prop :=
  ∃ x y l, St W wr (.rd rb S.data.toList x :: drt db S x :: .rd qb T.data.toList y :: drt eb T y :: l)

theorem St.rokB {w0 w : World} {pb : Nat} {B : ByteArray} {s : RS} {l : List Thing} (h : St w0 w (.rd pb B.data.toList s :: l)) : s.ok B.size := by
  have := h.rok; rw [toList_size] at this; exact this

set_option maxRecDepth 100000 in
set_option maxHeartbeats 2000000 in
theorem takes_walk (S T : ByteArray) (hS : bfits S.size) (hT : bfits T.size) (a : Option Addr) (cap n : Nat) (l : List It) (W : World) (hr : Rd W 4 a n cap (itCells l)) (hn : l.length = n) (hok : ∀ x ∈ l, It.ok x) (hnl : n ≤ 2 ^ 63 - 1) :
    Calls Try.prog 4 #[.string S, .string T, .slice a n cap] W (AwPost W) := by
  have HR := Lib.hid hr
  have HN := Lib.hid hn
  have HS := Lib.hid hS
  have HT := Lib.hid hT
  clear hr hn hS hT
  go_enter Try.func4, Try.ntmps4
  go_wp2_with fail
  refine (awake_any W).mono ?_
  rintro e w1 ⟨rfl, hm⟩
  go_wp2_with fail
  refine (rread_st ((St.start W).mod hm) S HS.out).mono ?_
  clear hm
  rintro e w2 ⟨rb, rfl, hS⟩
  go_wp2_with fail
  refine (rread_st hS T HT.out).mono ?_
  clear hS
  rintro e w3 ⟨qb, rfl, hS⟩
  have HA := Lib.hid (St.alloc (St.alloc hS #[.string S, .int .i64 0, .int .i64 0] 37) #[.string T, .int .i64 0, .int .i64 0] 37)
  clear hS
  go_wp2
  go_loopw [12] (fun i wr => ∃ k : Nat, k ≤ n ∧ i = .int .i64 k ∧ TkRel W rb w3.heap.size qb (w3.heap.size + 1) S T wr) (fun i _ => n - (intOf i).toNat)
  case atStart =>
    refine ⟨0, by omega, rfl, ⟨0, 0⟩, ⟨0, 0⟩, [], ?_⟩
    have h := HA.out
    rw [World.size_alloc] at h
    exact h.perm ((List.perm_append_comm (l₁ := [_, _, _]) (l₂ := [_])).trans (List.Perm.cons _ (by
      refine List.Perm.trans (List.Perm.swap _ _ _) (List.Perm.cons _ (List.Perm.swap _ _ _)))))
  case round =>
    obtain ⟨k, hk, rfl, x, y, tl, hS⟩ := hrel
    by_cases hlt : k < n
    · have hkl : k < l.length := HN.out ▸ hlt
      have hx : l[k]? = some l[k] := List.getElem?_eq_getElem hkl
      obtain ⟨it, hxx⟩ : ∃ x, l[k] = x := ⟨_, rfl⟩
      rw [hxx] at hx
      have hxo : It.ok it := hok it (List.mem_of_getElem? hx)
      obtain ⟨b, o, hab, hbl, hc⟩ := (HR.out.mod hS.1 (fun _ _ h => h)).itemc hx
      subst hab
      have HC := Lib.hid hc
      have HX := Lib.hid hxo
      clear hx hxx hxo hc
      by_cases hev : k % 2 = 0
      · have ge : ((k : Int) % 2 == 0) = true := by simp; omega
        clear hev
        go_wp2_with ((with_reducible refine at_list ?_); refine wpList_load_chunk 4 _ Try.underlying29 rfl (by kernel_rfl) ⟨b, o + k * 4, none⟩ rfl it.cells rfl HC.out ?_)
        refine (take_st hS HS.out it HX.out).mono ?_
        clear hS
        rintro e w5 ⟨rfl, t', hS⟩
        go_wp2
        refine ⟨⟨k + 1, by omega, by simp, takeS S.data.toList it x, y, t' :: tl, ?_⟩, ?_⟩
        · exact hS.perm (.cons _ (.cons _ ((List.Perm.swap _ _ _).trans (.cons _ (.swap _ _ _)))))
        · simp only [intOf]; omega
      · have ge : ((k : Int) % 2 == 0) = false := by simp; omega
        clear hev
        go_wp2_with ((with_reducible refine at_list ?_); refine wpList_load_chunk 4 _ Try.underlying29 rfl (by kernel_rfl) ⟨b, o + k * 4, none⟩ rfl it.cells rfl HC.out ?_)
        refine (take_st hS.two HT.out it HX.out).mono ?_
        clear hS
        rintro e w5 ⟨rfl, t', hS⟩
        go_wp2
        refine ⟨⟨k + 1, by omega, by simp, x, takeS T.data.toList it y, t' :: tl, ?_⟩, ?_⟩
        · exact St.two (hS.perm (.cons _ (.cons _ ((List.Perm.swap _ _ _).trans (.cons _ (.swap _ _ _))))))
        · simp only [intOf]; omega
    · obtain rfl : k = n := by omega
      clear hlt
      have hx := hS.rokB
      have hy := hS.two.rokB
      have hx2 : (rend S.data.toList x).ok S.size := by
        have := rend_ok (bs := S.data.toList) (s := x) (by rw [toList_size]; exact hx)
        rw [toList_size] at this; exact this
      go_wp2_with fail
      refine (rend_st hS).mono ?_
      clear hS
      rintro e w5 ⟨rfl, hS⟩
      go_wp2_with fail
      refine (dend_st hS.swap hx HS.out).mono ?_
      clear hS
      rintro e w6 ⟨rfl, hS⟩
      go_wp2_with fail
      refine (rend_st hS.swap.two).mono ?_
      clear hS
      rintro e w7 ⟨rfl, hS⟩
      go_wp2_with fail
      refine (dend_st hS.swap hy HT.out).mono ?_
      clear hS
      rintro e w8 ⟨rfl, hS⟩
      go_wp2_with fail
      refine (rend_st hS.two).mono ?_
      clear hS
      rintro e w9 ⟨rfl, hS⟩
      go_wp2_with fail
      refine (dend_st hS.swap hx2 HS.out).mono ?_
      clear hS
      rintro e w10 ⟨rfl, hS⟩
      go_wp2
      go_ret
      exact ⟨by simp, hS.1⟩

theorem takes_contract {H : Type} {enc : TypeId × Value → H} (W : World) (base : Nat) (v0 : Value) (d0 : DataW H) (p0 : List MemPlace) (v1 : Value) (d1 : DataW H) (p1 : List MemPlace) (v2 : Value) (d2 : DataW H) (p2 : List MemPlace)
    (k0 : DataW.Trod enc Try.prog W 0 (fun _ => true) true 9 v0 d0 p0) (k1 : DataW.Trod enc Try.prog W 0 (fun _ => true) true 9 v1 d1 p1) (k2 : DataW.Trod enc Try.prog W 0 (fun _ => true) true 22 v2 d2 p2)
    (o0 : Value.okWide Try.prog W .any base 9 v0) (o1 : Value.okWide Try.prog W .any base 9 v1) (o2 : Value.okWide Try.prog W .any base 22 v2)
    (hsz : (DataW.weightsEach Try.prog [9, 9, 22] [d0, d1, d2]).all (· ≤ reachBytes) = true) :
    Calls Try.prog 4 #[v0, v1, v2] W (AwPost W) := by
  have hw : ∀ x, x ∈ d0.weights Try.prog 9 ∨ x ∈ d1.weights Try.prog 9 ∨ x ∈ d2.weights Try.prog 22 → x ≤ reachBytes := fun x hx => by
    have := List.all_eq_true.1 hsz x (by simp only [DataW.weightsEach, List.mem_append]; rcases hx with hx | hx | hx <;> simp [hx])
    simpa using this
  obtain ⟨s, rfl, hf, hf2⟩ := open_str k0 o0 (fun x hx => hw x (.inl hx))
  obtain ⟨t, rfl, hg, hg2⟩ := open_str k1 o1 (fun x hx => hw x (.inr (.inl hx)))
  obtain ⟨a, cap, l, rfl, hr, hl, hok⟩ := open_items k2 o2 (fun x hx => hw x (.inr (.inr hx)))
  exact takes_walk s t hf hg a cap _ l W hr rfl hok (by omega)
end Go.Proofs.Ytecckgapdpmegaa
