/-
  LinkPlays: one end by turns with the document's.
  No condition.
-/
import Derived.Test.YtoeokdachojhjaaLinkDo
namespace Go.Proofs.Ytoeokdachojhjaa
open Go.ChangeShapes Go.WideShapes Go.ChangeAt Go.RowKit Go.Deep
set_option linter.unusedSectionVars false
set_option linter.unusedSimpArgs false
set_option linter.unusedVariables false

theorem lQueue_n {w0 w : World} {pb : Nat} {L : Lk} {l : List Thing} (h : St w0 w (lk pb L :: l)) (n : Nat) (hn : L.queue.length = n) :
    Calls Try.prog 14 #[.pointer (some ⟨pb, 0, none⟩)] w (StPost (.int .i64 n) w0 (lk pb L :: l)) := by subst hn; exact lQueue_st h
theorem rQueue_n {w0 w : World} {pb : Nat} {L : Lk} {K : List Tx} {l : List Thing} (h : St w0 w (rk pb L K :: l)) (n : Nat) (hn : L.queue.length = n) :
    Calls Try.prog 22 #[.pointer (some ⟨pb, 0, none⟩)] w (StPost (.int .i64 n) w0 (rk pb L K :: l)) := by subst hn; exact rQueue_st h

set_option maxRecDepth 100000 in
set_option maxHeartbeats 4000000 in
theorem plays_walk (me peer life : Int) (a0 : Option Addr) (c0 n : Nat) (s : List Stp) (hn : s.length = n) (W : World) (hr : Rd W 10 a0 n c0 (s.flatMap Stp.cells)) (hok : ∀ x ∈ s, Stp.ok x) (hl : n ≤ 2000000000000) :
    Calls Try.prog 5 #[.int .i64 me, .int .i64 peer, .int .i64 life, .slice a0 n c0] W (AwakePost W) := by
  have HR := Lib.hid hr
  have HN := Lib.hid hn
  have HOK := Lib.hid hok
  clear hr hn hok
  go_enter Try.func5, Try.ntmps5
  go_wp2_with fail
  refine (awake_any W).mono ?_
  rintro e w1 ⟨rfl, hm⟩
  have hS := St.begin hm
  clear hm
  go_wp2_with fail
  refine (lnew_st hS me peer life).mono ?_
  clear hS
  rintro e w2 ⟨pb, rfl, hS⟩
  go_wp2_with fail
  refine (rnew_st hS me peer life).mono ?_
  clear hS
  rintro e w3 ⟨rb, rfl, hS⟩
  have HS := Lib.hid hS.swap2
  clear hS
  go_wp2
  go_loopg [12] n (fun g y wr => ∃ k : Nat, k + g = n ∧ y = .int .i64 k ∧ ∃ P R K, Alike P R K ∧ P.last ≤ k ∧ P.cnt ≤ k ∧ P.life = life ∧ St W wr (lk pb P :: rk rb R K :: []))
  case atStart => exact ⟨0, by omega, rfl, _, _, _, Alike.new me peer life, by simp [Lk.new], by simp [Lk.new], rfl, HS.out⟩
  case round =>
    clear HS
    obtain ⟨k, hkg, rfl, P, R, K, hA, hla, hcn, hli, hS⟩ := hrel
    by_cases hlt : k < n
    · have hx : s[k]? = some (s[k]'(HN.out ▸ hlt)) := List.getElem?_eq_getElem _
      obtain ⟨x, hxx⟩ : ∃ x, s[k]'(HN.out ▸ hlt) = x := ⟨_, rfl⟩
      rw [hxx] at hx
      obtain ⟨b, o, rfl, hbl0, hc⟩ := HR.out.elem Stp.cells stplen (by omega) hx
      have HOX := Lib.hid (HOK.out x (List.mem_of_getElem? hx))
      have hbl : b < wr.heap.size := by have := hS.1.size; omega
      have HC := Lib.hid (show ∀ t u, x.cells[t]? = some u → wr.cell? ((⟨b, o + k * 10, none⟩ : Addr).add t) = some u from fun t u hu => by
        rw [add_none]
        exact hS.1.cell (hc t u hu) id)
      have HS := Lib.hid hS
      have HA := Lib.hid hA
      have HLI := Lib.hid hli
      clear hx hxx hc hS hA hli
      go_wp2_with ((with_reducible refine at_list ?_); refine wpList_load_chunk 10 _ Try.underlying53 rfl (by kernel_rfl) ⟨b, o + k * 10, none⟩ rfl x.cells rfl HC.out ?_)
      refine (do_st HS.out HA.out (by omega) (by omega) x HOX.out).mono ?_
      rintro e w4 ⟨rfl, P', R', K', hA', hla', hcn', hli', hS'⟩
      obtain ⟨q, hq⟩ : ∃ q, P'.queue.length = q := ⟨_, rfl⟩
      have HQ := Lib.hid hq
      have HQR : Hid (R'.queue.length = q) := Lib.hid (by rw [hA'.queue]; exact hq)
      have HS' := Lib.hid hS'
      have HA' := Lib.hid hA'
      have HLI' : Hid (P'.life = life) := Lib.hid (hli'.trans HLI.out)
      clear hq hS' hA' hli' HS HA HC
      go_wp2_with fail
      refine (lQueue_n HS'.out q HQ.out).mono ?_
      rintro e w5 ⟨rfl, hS5⟩
      have HS5 := Lib.hid hS5.swap2
      clear hS5
      go_wp2_with fail
      refine (rQueue_n HS5.out q HQR.out).mono ?_
      rintro e w6 ⟨rfl, hS6⟩
      have HS6 := Lib.hid hS6.swap2
      clear hS6
      go_wp2_with fail
      refine (lLife_st HS6.out).mono ?_
      rw [HLI'.out]
      rintro e w7 ⟨rfl, hS7⟩
      have HS7 := Lib.hid hS7
      clear hS7
      go_wp2
      go_roundg (gk - 1)
      case measure => omega
      case rel => exact ⟨k + 1, by omega, by simp, P', R', K', HA'.out, by omega, by omega, HLI'.out, HS7.out⟩
    · have HS := Lib.hid hS
      clear hS
      go_wp2
      go_ret
      exact ⟨rfl, HS.out.1⟩

theorem bytesStp : Try.prog.bytesOf 53 = 96 := by kernel_rfl

theorem plays_contract {H : Type} {enc : TypeId × Value → H} (W : World) (base : Nat) (v0 : Value) (d0 : DataW H) (p0 : List MemPlace) (v1 : Value) (d1 : DataW H) (p1 : List MemPlace) (v2 : Value) (d2 : DataW H) (p2 : List MemPlace) (v3 : Value) (d3 : DataW H) (p3 : List MemPlace)
    (k0 : DataW.Trod enc Try.prog W 0 (fun _ => true) true 3 v0 d0 p0) (k1 : DataW.Trod enc Try.prog W 0 (fun _ => true) true 3 v1 d1 p1) (k2 : DataW.Trod enc Try.prog W 0 (fun _ => true) true 3 v2 d2 p2) (k3 : DataW.Trod enc Try.prog W 0 (fun _ => true) true 46 v3 d3 p3)
    (o0 : Value.okWide Try.prog W .any base 3 v0) (o1 : Value.okWide Try.prog W .any base 3 v1) (o2 : Value.okWide Try.prog W .any base 3 v2) (o3 : Value.okWide Try.prog W .any base 46 v3)
    (hsz : (DataW.weightsEach Try.prog [3, 3, 3, 46] [d0, d1, d2, d3]).all (· ≤ reachBytes) = true) :
    Calls Try.prog 5 #[v0, v1, v2, v3] W (AwakePost W) := by
  obtain ⟨me, rfl, h0⟩ := open_int k0 o0
  obtain ⟨peer, rfl, h1⟩ := open_int k1 o1
  obtain ⟨life, rfl, h2⟩ := open_int k2 o2
  have hw : ∀ x ∈ d3.weights Try.prog 46, x ≤ reachBytes := fun x hx => by
    have := List.all_eq_true.1 hsz x (by simp only [DataW.weightsEach, List.mem_append]; simp [hx])
    simpa using this
  obtain ⟨f, k3⟩ := k3
  obtain ⟨a, n, cap, rfl⟩ := okWide_slice Try.underlying46 o3
  obtain ⟨a', cap', l, D, D', h1, hr, hx, hD, hok⟩ := open_rows cellsStp (by omega) Stp.cells stplen (fun p _ => p.ok) open_step Try.underlying46 k3
  simp only [Value.cells, List.cons.injEq, Value.slice.injEq, and_true] at h1
  obtain ⟨rfl, rfl, rfl⟩ := h1
  refine plays_walk me peer life a cap _ l rfl W hr (fun x hxm => ?_) ?_
  · obtain ⟨i, hi, rfl⟩ := List.mem_iff_getElem.1 hxm
    exact hok i l[i] (D[i]'(by omega)) (List.getElem?_eq_getElem hi) (List.getElem?_eq_getElem _)
  · rcases hx with ⟨_, h, _⟩ | h
    · rw [h]; simp
    · have := hw ((D.length + D'.length) * Try.prog.bytesOf 53) (by simp only at h; rw [h]; simp [DataW.weights, Try.underlying46])
      rw [bytesStp] at this
      unfold reachBytes at this
      omega
end Go.Proofs.Ytoeokdachojhjaa
