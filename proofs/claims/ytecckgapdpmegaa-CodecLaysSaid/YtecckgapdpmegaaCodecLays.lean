/-
  CodecLays: two writers by turns.
  No condition.
-/
import Derived.Test.YtecckgapdpmegaaCodecL
namespace Go.Proofs.Ytecckgapdpmegaa
open Go.ChangeShapes Go.WideShapes Go.ChangeAt Go.RowKit Go.Deep
set_option linter.unusedVariables false
set_option linter.unusedSimpArgs false

/-- What holds between the items: two writers, and the texts that must be theirs. -/
def LyRel (W : World) (vb wb : Nat) (m : Nat) (x y : Value) (wr : World) : Prop :=
  ∃ ys zs t, St W wr (.wr vb ys :: .wr wb zs :: t) ∧ x = .string ⟨ys.toArray⟩ ∧ y = .string ⟨zs.toArray⟩ ∧ ys.length ≤ m ∧ zs.length ≤ m

theorem text_size (xs : List UInt8) : (ByteArray.mk xs.toArray).size = xs.length := by show xs.toArray.size = _; simp
theorem text_append (xs ys : List UInt8) : ByteArray.mk xs.toArray ++ ByteArray.mk ys.toArray = ⟨(xs ++ ys).toArray⟩ := by
  apply ByteArray.ext; simp

set_option maxRecDepth 100000 in
set_option maxHeartbeats 2000000 in
theorem lays_walk (a : Option Addr) (cap n : Nat) (l : List It) (W : World) (hr : Rd W 4 a n cap (itCells l)) (hn : l.length = n) (hok : ∀ x ∈ l, It.ok x) (hnl : n ≤ 2 ^ 63 - 1) :
    Calls Try.prog 3 #[.slice a n cap] W (AwPost W) := by
  have HR := Lib.hid hr
  have HN := Lib.hid hn
  clear hr hn
  go_enter Try.func3, Try.ntmps3
  go_wp2_with fail
  refine (awake_any W).mono ?_
  rintro e w1 ⟨rfl, hm⟩
  go_wp2_with fail
  refine (size_bound a cap n l w1 (HR.out.mod hm (fun _ _ h => h)) HN.out hok hnl).mono ?_
  rintro e w2 ⟨m, rfl, rfl, htot⟩
  by_cases hbig : m ≤ 2147483548
  · have gb : decide (2147483548 < m) = false := by simpa using hbig
    have HT := Lib.hid (htot hbig)
    clear htot hbig
    go_wp2_with fail
    refine (wnew_st ((St.start W).mod hm)).mono ?_
    rintro e w3 ⟨wb, rfl, hS⟩
    go_wp2_with fail
    refine (wnew_st hS).mono ?_
    clear hS
    rintro e w4 ⟨vb, rfl, hS⟩
    have hS := hS.swap
    clear hm gb
    go_wp2
    go_loopw [6, 7, 8] (fun x y i wr => ∃ k : Nat, k ≤ n ∧ i = .int .i64 k ∧ LyRel W wb vb (total (l.take k)) x y wr) (fun _ _ i _ => n - (intOf i).toNat)
    case atStart => exact ⟨0, by omega, rfl, [], [], [], hS, rfl, rfl, Nat.zero_le _, Nat.zero_le _⟩
    case round =>
      clear hS
      obtain ⟨k, hk, rfl, ys, zs, t, hS, rfl, rfl, hl1, hl2⟩ := hrel
      by_cases hlt : k < n
      · have hkl : k < l.length := HN.out ▸ hlt
        have hx : l[k]? = some l[k] := List.getElem?_eq_getElem hkl
        obtain ⟨x, hxx⟩ : ∃ x, l[k] = x := ⟨_, rfl⟩
        rw [hxx] at hx
        have hxo : It.ok x := hok x (List.mem_of_getElem? hx)
        obtain ⟨b, o, hab, hbl, hc⟩ := (HR.out.mod hS.1 (fun _ _ h => h)).itemc hx
        subst hab
        have HC := Lib.hid hc
        have HX := Lib.hid hxo
        have hmem := total_mem hx
        have HK := Lib.hid (total_take l k x hx)
        have hll := layOf_length hxo
        have htl := HT.out
        have hsum1 : ys.length + 10 + x.s.size ≤ 200000000000000 := by omega
        have hsum2 : zs.length + 10 + x.s.size ≤ 200000000000000 := by omega
        clear hx hxx hxo hc
        by_cases hev : k % 2 = 0
        · have ge : ((k : Int) % 2 == 0) = true := by simp; omega
          clear hev
          obtain ⟨A, hA⟩ : ∃ A, ByteArray.mk ys.toArray = A := ⟨_, rfl⟩
          obtain ⟨B, hB⟩ : ∃ B, ByteArray.mk (layOf x).toArray = B := ⟨_, rfl⟩
          obtain ⟨C, hC⟩ : ∃ C, A ++ B = C := ⟨_, rfl⟩
          have HCC : Hid (ByteArray.mk (ys ++ layOf x).toArray = C) := by show _ = _; rw [← hC, ← hA, ← hB, text_append]
          have hbound : A.size + B.size ≤ 9223372036854775807 := by rw [← hA, ← hB, text_size, text_size]; omega
          have HA := Lib.hid hA
          have HB := Lib.hid hB
          rw [hA]
          clear hA hB hmem htl
          go_wp2_with ((with_reducible refine at_list ?_); refine wpList_load_chunk 4 _ Try.underlying29 rfl (by kernel_rfl) ⟨b, o + k * 4, none⟩ rfl x.cells rfl HC.out ?_)
          refine (lay_st hS x HX.out hsum1).mono ?_
          clear hS
          rintro e w5 ⟨rfl, t', hS⟩
          rw [HB.out]
          by_cases h5 : k % 5 = 0
          · have g5 : ((k : Int) % 5 == 0) = true := by simp; omega
            clear h5
            go_wp2_with fail
            refine (wbytes_st hS).mono ?_
            rw [HCC.out]
            rintro e w6 ⟨rfl, rfl⟩
            go_wp2
            refine ⟨⟨k + 1, by omega, by simp, ys ++ layOf x, zs, t' :: t, hS.perm (.cons _ (.swap _ _ _)), by rw [HCC.out], rfl, by rw [List.length_append, HK.out]; omega, by rw [HK.out]; omega⟩, ?_⟩
            simp only [intOf]; omega
          · have g5 : ((k : Int) % 5 == 0) = false := by simp; omega
            clear h5
            go_wp2
            refine ⟨⟨k + 1, by omega, by simp, ys ++ layOf x, zs, t' :: t, hS.perm (.cons _ (.swap _ _ _)), by rw [HCC.out], rfl, by rw [List.length_append, HK.out]; omega, by rw [HK.out]; omega⟩, ?_⟩
            simp only [intOf]; omega
        · have ge : ((k : Int) % 2 == 0) = false := by simp; omega
          clear hev
          obtain ⟨A, hA⟩ : ∃ A, ByteArray.mk zs.toArray = A := ⟨_, rfl⟩
          obtain ⟨B, hB⟩ : ∃ B, ByteArray.mk (layOf x).toArray = B := ⟨_, rfl⟩
          obtain ⟨C, hC⟩ : ∃ C, A ++ B = C := ⟨_, rfl⟩
          have HCC : Hid (ByteArray.mk (zs ++ layOf x).toArray = C) := by show _ = _; rw [← hC, ← hA, ← hB, text_append]
          have hbound : A.size + B.size ≤ 9223372036854775807 := by rw [← hA, ← hB, text_size, text_size]; omega
          have HA := Lib.hid hA
          have HB := Lib.hid hB
          obtain ⟨D, hD⟩ : ∃ D, ByteArray.mk ys.toArray = D := ⟨_, rfl⟩
          have HD := Lib.hid hD
          rw [hA, hD]
          clear hD hA hB hmem htl
          go_wp2_with ((with_reducible refine at_list ?_); refine wpList_load_chunk 4 _ Try.underlying29 rfl (by kernel_rfl) ⟨b, o + k * 4, none⟩ rfl x.cells rfl HC.out ?_)
          refine (lay_st hS.swap x HX.out hsum2).mono ?_
          clear hS
          rintro e w5 ⟨rfl, t', hS⟩
          rw [HB.out]
          have hSS := Lib.hid (St.perm hS (l' := .wr wb ys :: .wr vb (zs ++ layOf x) :: t' :: t) ((List.Perm.cons _ (.swap _ _ _)).trans (.swap _ _ _)))
          by_cases h5 : k % 5 = 0
          · have g5 : ((k : Int) % 5 == 0) = true := by simp; omega
            clear h5
            go_wp2_with fail
            refine (wbytes_st hSS.out).mono ?_
            rw [HD.out]
            rintro e w6 ⟨rfl, rfl⟩
            go_wp2
            refine ⟨⟨k + 1, by omega, by simp, ys, zs ++ layOf x, t' :: t, hSS.out, by rw [HD.out], by rw [HCC.out], by rw [HK.out]; omega, by rw [List.length_append, HK.out]; omega⟩, ?_⟩
            simp only [intOf]; omega
          · have g5 : ((k : Int) % 5 == 0) = false := by simp; omega
            clear h5
            go_wp2
            refine ⟨⟨k + 1, by omega, by simp, ys, zs ++ layOf x, t' :: t, hSS.out, by rw [HD.out], by rw [HCC.out], by rw [HK.out]; omega, by rw [List.length_append, HK.out]; omega⟩, ?_⟩
            simp only [intOf]; omega
      · obtain rfl : k = n := by omega
        obtain ⟨A, hA⟩ : ∃ A, ByteArray.mk ys.toArray = A := ⟨_, rfl⟩
        obtain ⟨B, hB⟩ : ∃ B, ByteArray.mk zs.toArray = B := ⟨_, rfl⟩
        have HA := Lib.hid hA
        have HB := Lib.hid hB
        rw [hA, hB]
        clear hlt hA hB
        go_wp2_with fail
        refine (wbytes_st hS).mono ?_
        rw [HA.out]
        rintro e w6 ⟨rfl, rfl⟩
        go_wp2_with fail
        refine (wbytes_st hS.swap).mono ?_
        rw [HB.out]
        rintro e w7 ⟨rfl, rfl⟩
        go_wp2
        go_ret
        refine ⟨?_, hS.1⟩
        simp
  · have gb : decide (2147483548 < m) = true := by simpa using hbig
    clear htot hbig
    go_wp2
    go_ret
    exact ⟨rfl, hm⟩

theorem lays_contract {H : Type} {enc : TypeId × Value → H} (W : World) (base : Nat) (v0 : Value) (d0 : DataW H) (p0 : List MemPlace)
    (k0 : DataW.Trod enc Try.prog W 0 (fun _ => true) true 22 v0 d0 p0) (o0 : Value.okWide Try.prog W .any base 22 v0)
    (hsz : (DataW.weightsEach Try.prog [22] [d0]).all (· ≤ reachBytes) = true) :
    Calls Try.prog 3 #[v0] W (AwPost W) := by
  have hw : ∀ x, x ∈ d0.weights Try.prog 22 → x ≤ reachBytes := fun x hx => by
    have := List.all_eq_true.1 hsz x (by simpa [DataW.weightsEach] using hx)
    simpa using this
  obtain ⟨a, cap, l, rfl, hr, hl, hok⟩ := open_items k0 o0 hw
  exact lays_walk a cap _ l W hr rfl hok (by omega)
end Go.Proofs.Ytecckgapdpmegaa
