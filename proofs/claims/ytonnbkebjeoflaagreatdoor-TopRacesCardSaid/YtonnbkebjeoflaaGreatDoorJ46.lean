/-
  Laws of Srv, Whole, Races.
  Conditions: each law states its own.
-/
import Derived.Test.YtonnbkebjeoflaaGreatDoorJ37
import Derived.Test.YtonnbkebjeoflaaGreatDoorJ39
import Derived.Test.YtonnbkebjeoflaaGreatDoorJ45
set_option maxHeartbeats 16000000
set_option linter.unusedSectionVars false
set_option linter.unusedSimpArgs false
set_option linter.unusedVariables false
set_option maxRecDepth 100000
namespace Go.Proofs.YtonnbkebjeoflaaGreatDoor
open Go.RowKit Go.Maps
theorem openA_any {w0 w : World} {l : List Thing} (h : St w0 w l) :
 Calls Tryz.prog 10 #[] w (fun e w' => ∃ a cap, e = .returned (.slice a 1 cap) ∧ St w0 w' (sl 46 2 a 1 cap ([((31 : Int), world)].flatMap ARow.cells) :: l)) := by
 have h1 := h.box1 #[.int .i64 31, .string world] 46
 have h2 := h.slice1' #[.int .i64 31, .string world] 46 2 1 rfl (by unfold maxLen; omega)
 have H2 := Lib.hid h2
 clear h h1 h2
 go_enter Tryz.func10, Tryz.ntmps10
 go_wp2
 go_ret
 exact ⟨_, _, rfl, H2.out⟩
def pickV (n m : Int) : Int := (if n < 0 then -(n + 1) else n) % m
theorem pick_range (n : Int) {m : Int} (hm : 0 < m) : 0 ≤ pickV n m ∧ pickV n m < m := ⟨Int.emod_nonneg _ (by omega), Int.emod_lt_of_pos _ hm⟩
theorem pick_any (n m : Int) (hn : okInt n) (hm : 0 < m) (w : World) : Calls Tryz.prog 11 #[.int .i64 n, .int .i64 m] w (fun e w' => e = .returned (.int .i64 (pickV n m)) ∧ w' = w) := by
 obtain ⟨r, hr⟩ : ∃ r, pickV n m = r := ⟨_, rfl⟩
 have hm0 : ¬ m = 0 := by omega
 unfold okInt at hn
 by_cases h : n < 0
 ·have hw1 : wrap64 (n + 1) = n + 1 := by unfold wrap64; omega
  have hw2 : wrap64 (-(n + 1)) = -(n + 1) := by unfold wrap64; omega
  have hr2 : (-(n + 1)).tmod m = r := by
   rw [← hr]; unfold pickV; rw [if_pos h, Int.tmod_eq_emod_of_nonneg (by omega)]
  rw [hr]
  clear hr
  go_enter Tryz.func11, Tryz.ntmps11
  go_wp2
  go_ret
  exact ⟨rfl, rfl⟩
 ·have hr2 : n.tmod m = r := by
   rw [← hr]; unfold pickV; rw [if_neg h, Int.tmod_eq_emod_of_nonneg (by omega)]
  rw [hr]
  clear hr
  go_enter Tryz.func11, Tryz.ntmps11
  go_wp2
  go_ret
  exact ⟨rfl, rfl⟩
def opn : Nat → Svc
 | 0 => Svc.new
 | k + 1 => ((opn k).openS 10).1
theorem opn_good : ∀ k, k ≤ 10 → (opn k).good k (1024 * k)
 | 0, _ => new_good
 | k + 1, h => openS_good (opn_good k (by omega)) (by omega) 10
theorem opn_opens {k : Nat} (h : k < 4) : ((opn k).openS 10).2 = ((k : Int) + 1, 0) := by
 rcases (by omega : k = 0 ∨ k = 1 ∨ k = 2 ∨ k = 3) with rfl | rfl | rfl | rfl <;> rfl
theorem service_any (w : World) (hr : Rdy w) : Calls Tryz.prog 8 #[] w (PtrPost (fun pb => svc pb svc4) w) := by
 have CN := Lib.hid (pnew_any w)
 go_enter Tryz.func8, Tryz.ntmps8
 go_wp2_with (go_at_call 23; refine CN.out.mono ?_; rintro e w1 ⟨pb, rfl, hS1⟩; have HS1 := Lib.hid hS1; clear hS1)
 go_loopg [2] 4 (fun g y wr => ∃ k : Nat, k + g = 4 ∧ y = .int .i64 ((k : Int) + 1) ∧ k ≤ 4 ∧ St w wr [svc pb (opn k)])
 case atStart => exact ⟨0, by omega, rfl, by omega, HS1.out⟩
 case round =>
  clear HS1
  obtain ⟨k, hkg, rfl, hk4, hS⟩ := hrel
  by_cases hlt : k < 4
  ·have h1 : (k : Int) + 1 ≤ 4 := by omega
   have hd1 : decide ((k : Int) + 1 ≤ 4) = true := by simpa using h1
   have CO := openS_st pb (opn k) hS hr (opn_good k (by omega)) (by omega) (by omega) 10
   rw [opn_opens hlt] at CO
   have HCO := Lib.hid CO
   have hne : ((k : Int) + 1 != (k : Int) + 1) = false := by simp
   clear CO hS
   go_wp2_with (go_at_call 26; refine HCO.out.mono ?_; rintro e w2 ⟨rfl, hS2⟩; have HS2 := Lib.hid hS2; clear hS2)
   go_roundg (4 - (k + 1))
   case measure => omega
   case rel => exact ⟨k + 1, by omega, by simp, by omega, HS2.out⟩
  ·obtain rfl : k = 4 := by omega
   have HS := Lib.hid hS
   clear hS
   go_wp2
   go_ret
   exact ⟨pb, rfl, HS.out⟩
theorem whole_any (w : World) (env : Env w) : Calls Tryz.prog 7 #[] w (CpPost (.bool true) w) := by
 have CN := Lib.hid (pnew_any w)
 have HE := Lib.hid env
 obtain ⟨RES, hRES⟩ : ∃ R, svc1.call 1 wholeR = R := ⟨_, rfl⟩
 have hwc := whole_call
 have hwd := whole_carried
 rw [hRES] at hwc hwd
 have hlen : RES.1.order.length = 2 := by rw [hwc.2.2.2]; rfl
 obtain ⟨P, ⟨⟨qxid, qzx, qer, qpa, qda, ⟨q1, q2, q3, q4, q5, q6, q7⟩, qln, qkn, qacl, qkids⟩, qsubs⟩, qe⟩ := RES
 simp only at hwc hwd hlen
 obtain ⟨h1, h2, h3, -⟩ := hwc
 have h3 : qpa = ⟨#[47, 97]⟩ := h3
 subst h1 h2 h3
 clear h3
 have HW := Lib.hid (And.intro hwd hlen)
 have CC : Hid (∀ (pb : Nat) (w' : World) (l : List Thing) (oa : Option Addr) (oc : Nat), St w w' (svc pb svc1 :: sl 46 2 oa 1 oc ([((31 : Int), world)].flatMap ARow.cells) :: l) → Calls Tryz.prog 9 #[.pointer (some ⟨pb, 0, none⟩), .int .i64 1, .agg #[.int .i64 1, .int .i64 0, .string ⟨#[47, 97]⟩, .string ⟨#[]⟩, .slice oa 1 oc, .int .i64 0, .int .i64 0, .bool false, .slice none 0 0, .slice none 0 0]] w' (CallPost pb (P, ⟨⟨qxid, qzx, 0, ⟨#[47, 97]⟩, qda, ⟨q1, q2, q3, q4, q5, q6, q7⟩, qln, qkn, qacl, qkids⟩, qsubs⟩, 0) w (sl 46 2 oa 1 oc ([((31 : Int), world)].flatMap ARow.cells) :: l))) := Lib.hid (fun pb w' l oa oc h' => by
  have := call_easy pb svc1 h' HE.out svc1_good (by omega) (by omega) 1 svc1_there wholeR.r oa oc ⟨(by show wholeA.size ≤ 2000000000; decide), (by show (1 : Nat) ≤ 10000000; omega), fun a ha => (by have ha : a ∈ [((31 : Int), world)] := ha; rw [List.mem_singleton.1 ha]; exact ⟨by decide, by decide⟩), (by show okInt 0; unfold okInt; omega)⟩ ⟨by decide, by decide, by decide, by decide, by decide⟩ (fun w2 h2 => (h2.slice 0 rfl).rd)
  rw [show svc1.call 1 ⟨wholeR.r, [], []⟩ = _ from hRES] at this
  exact this)
 clear hwd hlen
 clear hRES
 go_enter Tryz.func7, Tryz.ntmps7
 go_wp2_with (first
  | (go_at_call 23; refine CN.out.mono ?_; rintro e w1 ⟨pb, rfl, hS1⟩; have H1 := Lib.hid hS1; clear hS1 CN)
  | (go_at_call 24; refine (dnew_any w1).mono ?_; rintro e w2 ⟨db, rfl, hS2⟩; have H2 := Lib.hid (H1.out.join hS2); clear hS2 H1)
  | (go_at_call 25; refine (lformat_st db 0 (by omega) H2.out).mono ?_; rintro e w3 ⟨gb, lb, rfl, hS3⟩; have H3 := Lib.hid hS3; clear hS3 H2)
  | (go_at_call 26; have CO := openS_st pb Svc.new (H3.out.pick 2 rfl) HE.out.rdy new_good (by omega) (by omega) 10; rw [svc1_opens] at CO; refine CO.mono ?_; rintro e w4 ⟨rfl, hS4⟩; have H4 : Hid (St w w4 (svc pb svc1 :: _)) := Lib.hid hS4; clear hS4 H3 CO)
  | (go_at_call 10; refine (openA_any H4.out).mono ?_; rintro e w5 ⟨oa, oc, rfl, hS5⟩; have H5 := Lib.hid (hS5.perm (List.Perm.swap _ _ _)); clear hS5 H4)
  | (go_at_call 9; refine (CC.out pb w5 _ oa oc H5.out).mono ?_; rintro e w6 ⟨qaa, qac, qka, qkc, qsa, qsc, rfl, hS6⟩; have H6 := Lib.hid (hS6.box1 #[.int .i64 0, .int .i64 0, .int .i64 0, .string ⟨#[]⟩, .string ⟨#[]⟩, .int .i64 0, .int .i64 0, .int .i64 0, .int .i64 0, .int .i64 0, .int .i64 0, .int .i64 0, .int .i64 0, .int .i64 0, .slice none 0 0, .slice none 0 0, .slice none 0 0] 33); clear hS6 H5 CC)
  | ((with_reducible refine at_list ?_); refine wpList_store_whole 17 sizeRp w6.heap.size rfl _ _ (H6.out.box 0 rfl) rfl ([.int .i64 qxid, .int .i64 qzx, .int .i64 0, .string ⟨#[47, 97]⟩, .string qda, .int .i64 q1, .int .i64 q2, .int .i64 q3, .int .i64 q4, .int .i64 q5, .int .i64 q6, .int .i64 q7, .int .i64 qln, .int .i64 qkn, .slice qaa qacl.length qac, .slice qka qkids.length qkc, .slice qsa qsubs.length qsc] : List Value) rfl rfl rfl ?_; intro w7 hg7 hM7 hz7; have H7 := Lib.hid (H6.out.rebox 0 rfl hg7 hM7); clear hg7 hM7 hz7 H6)
  | (go_at_call 27; refine (lappend_st gb lb (0 + 36) (by omega) ((H7.out.pick 7 rfl).pick 7 rfl)).mono ?_; rintro e w8 ⟨a1, k1, a2, k2, rfl, hS8⟩; have H8 := Lib.hid hS8; have c2 := blk_cell (hS8.box 2 rfl) 2 (.int .i64 0) rfl; have c3 := blk_cell (hS8.box 2 rfl) 3 (.string ⟨#[47, 97]⟩) rfl; have zr := heap_lt (hS8.box 2 rfl); clear hS8 H7)
  | (go_at_call 28; refine (last5_any 0 gb _ _ _ _ _ _ _ a2 k2 H8.out rfl 1 rfl).mono ?_; rintro e w9 ⟨rfl, hM9⟩; have H9 := Lib.hid (H8.out.mod hM9); clear hM9 H8)
  | (go_at_call 14; have CO := order_any pb P (H9.out.pick 3 rfl) HW.out.1 (by rw [HW.out.2]; omega); rw [HW.out.2] at CO; refine CO.mono ?_; rintro e w10 ⟨ga, gc, rfl, hS10⟩; have H10 := Lib.hid hS10; clear hS10 H9 CO))
 go_ret
 exact ⟨rfl, H10.out.1⟩
theorem ints_set (rd : List Int) (j : Nat) (v : Int) : (rd.map (Value.int .i64)).toArray.setIfInBounds j (.int .i64 v) = ((rd.set j v).map (Value.int .i64)).toArray := by
 rw [zA, List.map_set]
theorem set_all {rd : List Int} {n : Int} (h : ∀ x ∈ rd, 0 ≤ x ∧ x ≤ n) (j : Nat) {v : Int} (hv : 0 ≤ v ∧ v ≤ n) : ∀ x ∈ rd.set j v, 0 ≤ x ∧ x ≤ n := fun x hx => by
 rcases List.mem_or_eq_of_mem_set hx with h1 | h1
 ·exact h x h1
 ·rw [h1]; exact hv
theorem infoInt5 : (Tryz.prog.info? 3).map (fun i => (i.zero, i.size, i.bytes)) = some (some (.int .i64 0), 1, 8) := by kernel_rfl
theorem wpList_makeI {ops : Array Oper} {rest : List Oper} {o : Oper} {a : Act} {w : World} {Q : Exit → Act → World → Prop} (hg : o.guard = none) (x y : Operand) (hop : o.op = Op.makeSlice 23 x y) (n : Nat) (hx : a.eval x = .int .i64 (n : Int)) (hy : a.eval y = .int .i64 (n : Int)) (hn : n ≤ 1000000) {w0 : World} {l : List Thing} (h : St w0 w l) (g : Nat) (hg2 : w.heap.size = g)
 (hK : ∀ w', St w0 w' (bx g ((List.replicate n (0 : Int)).map (Value.int .i64)).toArray 3 :: l) → wpList Tryz.prog ops Q rest (a.put o.dst (.slice (some ⟨g, 0, none⟩) n n)) w') : wpList Tryz.prog ops Q (o :: rest) a w := by
 obtain ⟨ip, hi1, hi2, hi3, hi4⟩ := info_parts infoInt5
 subst hg2
 refine wpList_make_row _ hg x y 23 hop 3 ip (.int .i64 0) Tryz.underlying23 hi1 hi2 hi3 rfl .i64 .i64 n hx hy (by rw [hi4]; omega) (by omega) (hK _ ?_)
 have e : (madeCells #[Value.int .i64 0] n) = ((List.replicate n (0 : Int)).map (Value.int .i64)).toArray := by
  apply Array.ext'
  rw [toList_madeCells_one]
  rw [List.map_replicate]
 rw [e]
 exact h.box1 _ _
theorem races_any (w : World) (env : Env w) (datas : List ByteArray) (a0 : Option Addr) (c0 : Nat) (hd : Rd w 1 a0 datas.length c0 (datas.flatMap A.strC)) (who : List Int) (a1 : Option Addr) (c1 : Nat) (hw : Rd w 1 a1 who.length c1 (who.flatMap fun z : Int => [Value.int .i64 z])) (hi : ∀ x ∈ who, okInt x) :
 Calls Tryz.prog 3 #[.slice a0 datas.length c0, .slice a1 who.length c1] w (CpPost (.bool true) w) := by
 obtain ⟨dn, hdn⟩ : ∃ n, datas.length = n := ⟨_, rfl⟩
 obtain ⟨wn, hwn⟩ : ∃ n, who.length = n := ⟨_, rfl⟩
 rw [hdn] at hd ⊢
 rw [hwn] at hw ⊢
 have hdl := hd.le
 have hwl := hw.le
 have HE := Lib.hid env
 have HD := Lib.hid (And.intro hd hdn)
 have HWH := Lib.hid (And.intro hw (And.intro hwn hi))
 obtain ⟨n, hn⟩ : ∃ n, min wn 100 = n := ⟨_, rfl⟩
 have HN : Hid (n ≤ 100 ∧ n ≤ wn ∧ (n = wn ∨ n = 100)) := Lib.hid (by omega)
 have CW := Lib.hid (whole_any w env)
 obtain ⟨P0, hP0⟩ : ∃ P, (svc4.call 1 ⟨{ rq0 with kind := 1, path := raceP, acl := [(31, world)] }, [], []⟩).1 = P := ⟨_, rfl⟩
 have hg0 : P0.good 5 5120 := by rw [← hP0]; exact call_good svc4_good (by omega) _
 have hR0 : Race P0 0 := by rw [← hP0]; exact race_start.2
 have HG0 := Lib.hid (And.intro hg0 hR0)
 have CC : Hid (∀ (pb : Nat) (w' : World) (l : List Thing) (oa : Option Addr) (oc : Nat), St w w' (svc pb svc4 :: sl 46 2 oa 1 oc ([((31 : Int), world)].flatMap ARow.cells) :: l) → Calls Tryz.prog 9 #[.pointer (some ⟨pb, 0, none⟩), .int .i64 1, .agg #[.int .i64 1, .int .i64 0, .string ⟨#[47, 114]⟩, .string ⟨#[]⟩, .slice oa 1 oc, .int .i64 0, .int .i64 0, .bool false, .slice none 0 0, .slice none 0 0]] w' (fun e w2 => ∃ v, e = .returned v ∧ St w w2 [svc pb P0])) := Lib.hid (fun pb w' l oa oc h' => by
  have := call_easy pb svc4 h' HE.out svc4_good (by omega) (by omega) 1 (svc4_four 1 (by omega) (by omega)) { rq0 with kind := 1, path := raceP, acl := [(31, world)] } oa oc ⟨(by show raceP.size ≤ 2000000000; decide), (by show (1 : Nat) ≤ 10000000; omega), fun a ha => (by have ha : a ∈ [((31 : Int), world)] := ha; rw [List.mem_singleton.1 ha]; exact ⟨by decide, by decide⟩), (by show okInt 0; unfold okInt; omega)⟩ ⟨by decide, by decide, by decide, by decide, by decide⟩ (fun w2 h2 => (h2.slice 0 rfl).rd)
  refine this.mono ?_
  rintro e w2 ⟨_, _, _, _, _, _, rfl, hS⟩
  rw [hP0] at hS
  exact ⟨_, rfl, hS.sub ((List.nil_sublist _).cons_cons _)⟩)
 clear hd hw hdn hwn hi hn hg0 hR0 hP0
 go_enter Tryz.func3, Tryz.ntmps3
 go_wp2_with (first
  | (go_at_call 7; refine CW.out.mono ?_; rintro e w1 ⟨rfl, hM1⟩; have HM1 := Lib.hid hM1; clear hM1 CW)
  | (go_at_call 8; refine (service_any w1 (HE.out.rdy.old HM1.out)).mono ?_; rintro e w2 ⟨pb, rfl, hS2⟩; have H2 := Lib.hid ((St.begin HM1.out).join hS2); clear hS2)
  | (go_at_call 10; refine (openA_any H2.out).mono ?_; rintro e w3 ⟨oa, oc, rfl, hS3⟩; have H3 := Lib.hid (hS3.perm (List.Perm.swap _ _ _)); clear hS3 H2)
  | (go_at_call 9; refine (CC.out pb w3 _ oa oc H3.out).mono ?_; rintro e w4 ⟨v4, rfl, hS4⟩; have H4 := Lib.hid hS4; clear hS4 H3 CC)
  | ((with_reducible refine at_list ?_); refine wpList_makeI rfl _ _ rfl 5 rfl rfl (by omega) H4.out _ rfl ?_; intro w5 hS5; have H5 := Lib.hid hS5; clear hS5 H4))
 generalize w4.heap.size = rb at H5 ⊢
 go_loopg [8, 9] n (fun g y8 y9 wr => ∃ (k : Nat) (ver : Int) (P : Svc) (rd : List Int), k + g = n ∧ y9 = .int .i64 k ∧ y8 = .int .i64 ver ∧ Hid (Race P ver ∧ P.good (5 + k) (5120 + 1024 * k) ∧ (0 ≤ ver ∧ ver ≤ k) ∧ rd.length = 5 ∧ ∀ x ∈ rd, 0 ≤ x ∧ x ≤ ver) ∧ St w wr [bx rb (rd.map (Value.int .i64)).toArray 3, svc pb P])
 case atStart => exact ⟨0, 0, P0, List.replicate 5 0, by omega, rfl, rfl, Lib.hid ⟨HG0.out.2, HG0.out.1, ⟨Int.le_refl _, Int.le_refl _⟩, rfl, fun x hx => by rw [(List.mem_replicate.1 hx).2]; omega⟩, H5.out⟩
 case round =>
  clear H5 HG0 HM1
  obtain ⟨k, ver, P, rd, hkg, rfl, rfl, HP, hS⟩ := hrel
  have hkn : k ≤ n := by omega
  by_cases hlt : k < n
  ·have hk1 : (k : Int) < wn := by have := HN.out; omega
   have hk2 : (k : Int) < 100 := by have := HN.out; omega
   have hx : who[k]? = some (who[k]'(by have := HN.out; have := HWH.out.2.1; omega)) := List.getElem?_eq_getElem _
   obtain ⟨x, hxx⟩ : ∃ x, who[k]'(by have := HN.out; have := HWH.out.2.1; omega) = x := ⟨_, rfl⟩
   rw [hxx] at hx
   have hxo := HWH.out.2.2 x (List.mem_of_getElem? hx)
   obtain ⟨b1, o1, hb1, hbl1, hc1⟩ := (hS.old HWH.out.1).elem (k := 1) (fun z : Int => [Value.int .i64 z]) (fun _ => rfl) (by omega) hx
   have h1 : wr.cell? ⟨b1, o1 + k, none⟩ = some (.int .i64 x) := by have := hc1 0 _ rfl; simpa using this
   subst hb1
   obtain ⟨j, hj⟩ : ∃ j : Nat, pickV x 4 = (j : Int) := ⟨(pickV x 4).toNat, by have := (pick_range x (m := 4) (by omega)).1; omega⟩
   have hj4 : j < 4 := by have := (pick_range x (m := 4) (by omega)).2; omega
   have CP4 := pick_any x 4 hxo (by omega)
   rw [hj] at CP4
   have HCP4 := Lib.hid CP4
   have HS := Lib.hid hS
   have HX := Lib.hid hxo
   have hw1 : wrap64 (1 + (j : Int)) = (1 + (j : Int)) := by unfold wrap64; omega
   clear hx hxx hc1 hj CP4 hS hxo
   go_upto_region 12 with (go_at_call 11; refine (HCP4.out _).mono ?_; rintro e w6 ⟨rfl, hw6⟩; have hw6 := hw6.symm; subst hw6)
   obtain ⟨y, hy⟩ : ∃ y, wrap64 (x.tdiv 4) = y := ⟨_, rfl⟩
   have hyo : okInt y := by rw [← hy]; unfold wrap64 okInt; omega
   obtain ⟨r, hr⟩ : ∃ r, pickV y 3 = r := ⟨_, rfl⟩
   have CP3 := pick_any y 3 hyo (by omega)
   rw [hr] at CP3
   have HCP3 := Lib.hid CP3
   have hjn : (1 + (j : Int)).toNat = j + 1 := by omega
   have hs1 : (1 : Int) ≤ (1 + (j : Int)) := by omega
   have hs4 : (1 + (j : Int)) ≤ 4 := by omega
   have hsi0 : (0 : Int) ≤ (1 + (j : Int)) := by omega
   have hsi5 : (1 + (j : Int)) < 5 := by omega
   have hth : P.there (1 + (j : Int)) = true := HP.out.1.four _ hs1 hs4
   have hrd : rd[j + 1]? = some (rd[j + 1]'(by have := HP.out.2.2.2.1; omega)) := List.getElem?_eq_getElem _
   obtain ⟨v, hvv⟩ : ∃ v, rd[j + 1]'(by have := HP.out.2.2.2.1; omega) = v := ⟨_, rfl⟩
   rw [hvv] at hrd
   have hv := HP.out.2.2.2.2 v (List.mem_of_getElem? hrd)
   have HV := Lib.hid (And.intro hrd hv)
   have hN5 : 5 + k ≤ 1000000 := by omega
   have hM5 : 5120 + 1024 * k ≤ 20000000 := by have := HN.out; omega
   clear hvv hyo CP3 hrd hv
   by_cases hr0 : r = 0
   ·subst hr0
    obtain ⟨q, hq1, hq2, hq3⟩ := race_get HP.out.1 hs1 hs4
    obtain ⟨qxid, qzx, qer, qpa, qda, ⟨q1, q2, q3, q4, q5, q6, q7⟩, qln, qkn, qacl, qkids⟩ := q
    simp only at hq2 hq3
    subst hq2
    have hq3 := hq3.symm
    subst hq3
    have CG := call_bare pb P (HS.out.pick 1 rfl) HE.out HP.out.2.1 hN5 hM5 _ hth 9 0 ⟨#[47, 114]⟩ ⟨#[]⟩ 0 0 false (by decide) (by unfold okInt; omega) ⟨by decide, by decide, by decide, by decide, by decide⟩
    have hq1' : P.call (1 + (j : Int)) ⟨⟨9, 0, ⟨#[47, 114]⟩, ⟨#[]⟩, [], 0, 0, false⟩, [], []⟩ = _ := hq1
    rw [hq1'] at CG
    have HCG := Lib.hid CG
    clear CG hq1 hq1' hr
    go_upto_if 52 with (go_at_call 11; refine (HCP3.out _).mono ?_; rintro e w6 ⟨rfl, hw6⟩; have hw6 := hw6.symm; subst hw6)
    go_upto_region 14 with (first
     | (go_at_call 11; refine (HCP3.out _).mono ?_; rintro e w6 ⟨rfl, hw6⟩; have hw6 := hw6.symm; subst hw6)
     | (go_at_call 9; refine HCG.out.mono ?_; rintro e w6 ⟨qaa, qac, qka, qkc, qsa, qsc, rfl, hS6⟩; have H6 := Lib.hid (hS6.box1 #[.int .i64 0, .int .i64 0, .int .i64 0, .string ⟨#[]⟩, .string ⟨#[]⟩, .int .i64 0, .int .i64 0, .int .i64 0, .int .i64 0, .int .i64 0, .int .i64 0, .int .i64 0, .int .i64 0, .int .i64 0, .slice none 0 0, .slice none 0 0, .slice none 0 0] 33); clear hS6)
     | ((with_reducible refine at_list ?_); refine wpList_store_whole 17 sizeRp w6.heap.size rfl _ _ (H6.out.box 0 rfl) rfl ([.int .i64 qxid, .int .i64 qzx, .int .i64 0, .string qpa, .string qda, .int .i64 q1, .int .i64 q2, .int .i64 q3, .int .i64 ver, .int .i64 q5, .int .i64 q6, .int .i64 q7, .int .i64 qln, .int .i64 qkn, .slice qaa qacl.length qac, .slice qka qkids.length qkc, .slice qsa 0 qsc] : List Value) rfl rfl rfl ?_; intro w7 hg7 hM7 hz7; have H7 := Lib.hid (H6.out.rebox 0 rfl hg7 hM7); have c2 := blk_cell (H7.out.box 0 rfl) 2 (.int .i64 0) rfl; have c8 := blk_cell (H7.out.box 0 rfl) 8 (.int .i64 ver) rfl; have zr := heap_lt (H7.out.box 0 rfl); have cj := blk_cell (H7.out.box 5 rfl) (j + 1) (.int .i64 v) (by rw [List.getElem?_toArray, List.getElem?_map, HV.out.1]; rfl); have fj := blk_free (H7.out.box 5 rfl) (j + 1); have zj := heap_lt (H7.out.box 5 rfl); clear hg7 hM7 hz7 H6))
    clear HCG HCP3 hy
    go_wp2
    have H8 := Lib.hid ((H7.out.set 5 rfl (j + 1) (.int .i64 ver)))
    rw [ints_set] at H8
    go_roundg (n - (k + 1))
    case measure => omega
    case rel =>
     refine ⟨k + 1, ver, P, rd.set (j + 1) ver, by omega, by simp, rfl, Lib.hid ⟨HP.out.1, HP.out.2.1.mono (by omega) (by omega), ⟨HP.out.2.2.1.1, by have := HP.out.2.2.1.2; omega⟩, by rw [List.length_set]; exact HP.out.2.2.2.1, set_all HP.out.2.2.2.2 _ ⟨HP.out.2.2.1.1, Int.le_refl _⟩⟩, ?_⟩
     exact (H8.out.pick 5 rfl).sub (((List.nil_sublist _).cons_cons _).cons _ |>.cons_cons _)
   ·have hr1 : (r == 0) = false := by simpa using hr0
    clear hr
    rcases Nat.eq_zero_or_pos dn with hd0 | hdp
    ·subst hd0
     go_upto_region 21 with (first
      | (go_at_call 11; refine (HCP3.out _).mono ?_; rintro e w6 ⟨rfl, hw6⟩; have hw6 := hw6.symm; subst hw6))
     have hds : ((⟨#[]⟩ : ByteArray).extract 0 (min (0 : Int) 100).toNat).size ≤ 100 := by decide
     obtain ⟨d, hd⟩ : ∃ d, (⟨#[]⟩ : ByteArray).extract 0 (min (0 : Int) 100).toNat = d := ⟨_, rfl⟩
     rw [hd] at hds ⊢
     clear hd hdl
     have cj := blk_cell (HS.out.box 0 rfl) (j + 1) (.int .i64 v) (by rw [List.getElem?_toArray, List.getElem?_map, HV.out.1]; rfl)
     have zj := heap_lt (HS.out.box 0 rfl)
     obtain ⟨P2, q, subs, hq1, hq2, hq3⟩ := race_set HP.out.1 HP.out.2.2.1.1 (by have := HP.out.2.2.1.2; have := HN.out; omega) hs1 hs4 d hds v HV.out.2.1
     have hg2 : P2.good (5 + k + 1) (5120 + 1024 * k + 1024) := by
      have := call_good HP.out.2.1 hN5 (s := 1 + (j : Int)) ⟨{ rq0 with kind := 3, path := raceP, data := d, version := v }, [], []⟩
      rw [hq1] at this
      exact this
     have CG := call_bare pb P (HS.out.pick 1 rfl) HE.out HP.out.2.1 hN5 hM5 _ hth 3 0 ⟨#[47, 114]⟩ d 0 v false (by decide) (by unfold okInt; omega) ⟨by decide, by decide, by decide, by decide, by decide⟩
     have hq1' : P.call (1 + (j : Int)) ⟨⟨3, 0, ⟨#[47, 114]⟩, d, [], 0, v, false⟩, [], []⟩ = _ := hq1
     rw [hq1'] at CG
     obtain ⟨qxid, qzx, qer, qpa, qda, ⟨q1, q2, q3, q4, q5, q6, q7⟩, qln, qkn, qacl, qkids⟩ := q
     have HCG := Lib.hid CG
     simp only at hq2 hq3
     have HG2 := Lib.hid hg2
     clear CG hq1 hq1' hg2 hds
     by_cases hvv : v = ver
     ·obtain ⟨e1, e2, e3, hR2⟩ := hq2 hvv
      obtain ⟨v1, hv1⟩ : ∃ v1, ver + 1 = v1 := ⟨_, rfl⟩
      rw [hv1] at e2 hR2
      have hwv : wrap64 (ver + 1) = v1 := by have := HP.out.2.2.1; have := HN.out; rw [← hv1]; unfold wrap64; omega
      have HR2 := Lib.hid (And.intro hR2 hv1)
      clear hv1
      have e2 := e2.symm
      subst e1 e2 e3
      have hvv := hvv.symm
      subst hvv
      clear hq2 hq3 hR2
      go_upto_region 23 with (first
       | (go_at_call 9; refine HCG.out.mono ?_; rintro e w6 ⟨qaa, qac, qka, qkc, qsa, qsc, rfl, hS6⟩; have H6 := Lib.hid (hS6.box1 #[.int .i64 0, .int .i64 0, .int .i64 0, .string ⟨#[]⟩, .string ⟨#[]⟩, .int .i64 0, .int .i64 0, .int .i64 0, .int .i64 0, .int .i64 0, .int .i64 0, .int .i64 0, .int .i64 0, .int .i64 0, .slice none 0 0, .slice none 0 0, .slice none 0 0] 33); clear hS6)
       | ((with_reducible refine at_list ?_); refine wpList_store_whole 17 sizeRp w6.heap.size rfl _ _ (H6.out.box 0 rfl) rfl ([.int .i64 qxid, .int .i64 qzx, .int .i64 0, .string qpa, .string qda, .int .i64 q1, .int .i64 q2, .int .i64 q3, .int .i64 v1, .int .i64 q5, .int .i64 q6, .int .i64 q7, .int .i64 d.size, .int .i64 qkn, .slice qaa qacl.length qac, .slice qka qkids.length qkc, .slice qsa subs.length qsc] : List Value) rfl rfl rfl ?_; intro w7 hg7 hM7 hz7; have H7 := Lib.hid (H6.out.rebox 0 rfl hg7 hM7); have c2 := blk_cell (H7.out.box 0 rfl) 2 (.int .i64 0) rfl; have c8 := blk_cell (H7.out.box 0 rfl) 8 (.int .i64 v1) rfl; have c12 := blk_cell (H7.out.box 0 rfl) 12 (.int .i64 d.size) rfl; have zr := heap_lt (H7.out.box 0 rfl); have cj := blk_cell (H7.out.box 5 rfl) (j + 1) (.int .i64 ver) (by rw [List.getElem?_toArray, List.getElem?_map, HV.out.1]; rfl); have zj := heap_lt (H7.out.box 5 rfl); clear hg7 hM7 hz7 H6))
      clear hw1 hr1 hy hjn hs1 hs4 hsi0 hsi5 h1
      go_wp2
      go_roundg (n - (k + 1))
      case measure => omega
      case rel =>
       refine ⟨k + 1, v1, P2, rd, by omega, by simp, by simp only [hwv], Lib.hid ⟨HR2.out.1, HG2.out.mono (by omega) (by omega), by have := HR2.out.2; have := HP.out.2.2.1; omega, HP.out.2.2.2.1, fun z hz => by have := HP.out.2.2.2.2 z hz; have := HR2.out.2; omega⟩, ?_⟩
       exact (H7.out.pick 5 rfl).sub (((List.nil_sublist _).cons_cons _).cons _ |>.cons_cons _)
     ·obtain ⟨e1, hR2⟩ := hq3 hvv
      have HR2 := Lib.hid hR2
      subst e1
      have hvb : (v == ver) = false := by simpa using hvv
      clear hq2 hq3 hR2 hvv
      go_upto_region 23 with (first
       | (go_at_call 9; refine HCG.out.mono ?_; rintro e w6 ⟨qaa, qac, qka, qkc, qsa, qsc, rfl, hS6⟩; have H6 := Lib.hid (hS6.box1 #[.int .i64 0, .int .i64 0, .int .i64 0, .string ⟨#[]⟩, .string ⟨#[]⟩, .int .i64 0, .int .i64 0, .int .i64 0, .int .i64 0, .int .i64 0, .int .i64 0, .int .i64 0, .int .i64 0, .int .i64 0, .slice none 0 0, .slice none 0 0, .slice none 0 0] 33); clear hS6)
       | ((with_reducible refine at_list ?_); refine wpList_store_whole 17 sizeRp w6.heap.size rfl _ _ (H6.out.box 0 rfl) rfl ([.int .i64 qxid, .int .i64 qzx, .int .i64 66, .string qpa, .string qda, .int .i64 q1, .int .i64 q2, .int .i64 q3, .int .i64 q4, .int .i64 q5, .int .i64 q6, .int .i64 q7, .int .i64 qln, .int .i64 qkn, .slice qaa qacl.length qac, .slice qka qkids.length qkc, .slice qsa subs.length qsc] : List Value) rfl rfl rfl ?_; intro w7 hg7 hM7 hz7; have H7 := Lib.hid (H6.out.rebox 0 rfl hg7 hM7); have c2 := blk_cell (H7.out.box 0 rfl) 2 (.int .i64 66) rfl; have zr := heap_lt (H7.out.box 0 rfl); have cj := blk_cell (H7.out.box 5 rfl) (j + 1) (.int .i64 v) (by rw [List.getElem?_toArray, List.getElem?_map, HV.out.1]; rfl); have zj := heap_lt (H7.out.box 5 rfl); clear hg7 hM7 hz7 H6))
      clear hw1 hr1 hy hjn hs1 hs4 hsi0 hsi5 h1
      go_wp2
      go_roundg (n - (k + 1))
      case measure => omega
      case rel =>
       refine ⟨k + 1, ver, P2, rd, by omega, by simp, rfl, Lib.hid ⟨HR2.out, HG2.out.mono (by omega) (by omega), ⟨HP.out.2.2.1.1, by have := HP.out.2.2.1.2; omega⟩, HP.out.2.2.2.1, HP.out.2.2.2.2⟩, ?_⟩
       exact (H7.out.pick 5 rfl).sub (((List.nil_sublist _).cons_cons _).cons _ |>.cons_cons _)
    ·obtain ⟨i, hik⟩ : ∃ i, k % dn = i := ⟨_, rfl⟩
     have hid : i < dn := by rw [← hik]; exact Nat.mod_lt _ hdp
     have hrem : (k : Int).tmod (dn : Int) = (i : Int) := by rw [Int.tmod_eq_emod_of_nonneg (by omega), ← hik]; rfl
     have hnz : ¬ (dn : Int) = 0 := by omega
     have hi1 : (i : Int) < dn := by omega
     have hD : datas[i]? = some (datas[i]'(by have := HD.out.2; omega)) := List.getElem?_eq_getElem _
     obtain ⟨D, hDD⟩ : ∃ D, datas[i]'(by have := HD.out.2; omega) = D := ⟨_, rfl⟩
     rw [hDD] at hD
     obtain ⟨b0, o0, hb0, hbl0, hc0⟩ := (HS.out.old HD.out.1).elem (k := 1) A.strC (fun _ => rfl) (by omega) hD
     have h0 : wr.cell? ⟨b0, o0 + i, none⟩ = some (.string D) := by have := hc0 0 _ rfl; simpa using this
     subst hb0
     clear hDD hD hc0 hik
     go_upto_region 20 with (first
      | (go_at_call 11; refine (HCP3.out _).mono ?_; rintro e w6 ⟨rfl, hw6⟩; have hw6 := hw6.symm; subst hw6))
     obtain ⟨m, hm⟩ : ∃ m, min D.size 100 = m := ⟨_, rfl⟩
     have hm1 : m ≤ D.size := by omega
     have hm2 : m ≤ 100 := by omega
     have hmin : min (D.size : Int) 100 = (m : Int) := by omega
     clear hm
     go_upto_region 21 with (fail)
     have hds : (D.extract 0 m).size = m := by rw [ByteArray.size_extract]; omega
     obtain ⟨d, hd⟩ : ∃ d, D.extract 0 m = d := ⟨_, rfl⟩
     rw [hd] at hds ⊢
     clear hd
     have cj := blk_cell (HS.out.box 0 rfl) (j + 1) (.int .i64 v) (by rw [List.getElem?_toArray, List.getElem?_map, HV.out.1]; rfl)
     have zj := heap_lt (HS.out.box 0 rfl)
     obtain ⟨P2, q, subs, hq1, hq2, hq3⟩ := race_set HP.out.1 HP.out.2.2.1.1 (by have := HP.out.2.2.1.2; have := HN.out; omega) hs1 hs4 d (by omega) v HV.out.2.1
     have hg2 : P2.good (5 + k + 1) (5120 + 1024 * k + 1024) := by
      have := call_good HP.out.2.1 hN5 (s := 1 + (j : Int)) ⟨{ rq0 with kind := 3, path := raceP, data := d, version := v }, [], []⟩
      rw [hq1] at this
      exact this
     have CG := call_bare pb P (HS.out.pick 1 rfl) HE.out HP.out.2.1 hN5 hM5 _ hth 3 0 ⟨#[47, 114]⟩ d 0 v false (by decide) (by unfold okInt; omega) ⟨by decide, by decide, by decide, by decide, by decide⟩
     have hq1' : P.call (1 + (j : Int)) ⟨⟨3, 0, ⟨#[47, 114]⟩, d, [], 0, v, false⟩, [], []⟩ = _ := hq1
     rw [hq1'] at CG
     obtain ⟨qxid, qzx, qer, qpa, qda, ⟨q1, q2, q3, q4, q5, q6, q7⟩, qln, qkn, qacl, qkids⟩ := q
     have HCG := Lib.hid CG
     simp only at hq2 hq3
     have HG2 := Lib.hid hg2
     clear CG hq1 hq1' hg2
     by_cases hvv : v = ver
     ·obtain ⟨e1, e2, e3, hR2⟩ := hq2 hvv
      obtain ⟨v1, hv1⟩ : ∃ v1, ver + 1 = v1 := ⟨_, rfl⟩
      rw [hv1] at e2 hR2
      have hwv : wrap64 (ver + 1) = v1 := by have := HP.out.2.2.1; have := HN.out; rw [← hv1]; unfold wrap64; omega
      have HR2 := Lib.hid (And.intro hR2 hv1)
      clear hv1
      have e2 := e2.symm
      subst e1 e2 e3
      have hvv := hvv.symm
      subst hvv
      clear hq2 hq3 hR2
      go_upto_region 23 with (first
       | (go_at_call 9; refine HCG.out.mono ?_; rintro e w6 ⟨qaa, qac, qka, qkc, qsa, qsc, rfl, hS6⟩; have H6 := Lib.hid (hS6.box1 #[.int .i64 0, .int .i64 0, .int .i64 0, .string ⟨#[]⟩, .string ⟨#[]⟩, .int .i64 0, .int .i64 0, .int .i64 0, .int .i64 0, .int .i64 0, .int .i64 0, .int .i64 0, .int .i64 0, .int .i64 0, .slice none 0 0, .slice none 0 0, .slice none 0 0] 33); clear hS6)
       | ((with_reducible refine at_list ?_); refine wpList_store_whole 17 sizeRp w6.heap.size rfl _ _ (H6.out.box 0 rfl) rfl ([.int .i64 qxid, .int .i64 qzx, .int .i64 0, .string qpa, .string qda, .int .i64 q1, .int .i64 q2, .int .i64 q3, .int .i64 v1, .int .i64 q5, .int .i64 q6, .int .i64 q7, .int .i64 m, .int .i64 qkn, .slice qaa qacl.length qac, .slice qka qkids.length qkc, .slice qsa subs.length qsc] : List Value) rfl rfl rfl ?_; intro w7 hg7 hM7 hz7; have H7 := Lib.hid (H6.out.rebox 0 rfl hg7 hM7); have c2 := blk_cell (H7.out.box 0 rfl) 2 (.int .i64 0) rfl; have c8 := blk_cell (H7.out.box 0 rfl) 8 (.int .i64 v1) rfl; have c12 := blk_cell (H7.out.box 0 rfl) 12 (.int .i64 m) rfl; have zr := heap_lt (H7.out.box 0 rfl); have cj := blk_cell (H7.out.box 5 rfl) (j + 1) (.int .i64 ver) (by rw [List.getElem?_toArray, List.getElem?_map, HV.out.1]; rfl); have zj := heap_lt (H7.out.box 5 rfl); clear hg7 hM7 hz7 H6))
      clear hmin hrem hw1 hr1 hy hjn hs1 hs4 hsi0 hsi5 hnz hi1 h0 h1
      go_wp2
      go_roundg (n - (k + 1))
      case measure => omega
      case rel =>
       refine ⟨k + 1, v1, P2, rd, by omega, by simp, by simp only [hwv], Lib.hid ⟨HR2.out.1, HG2.out.mono (by omega) (by omega), by have := HR2.out.2; have := HP.out.2.2.1; omega, HP.out.2.2.2.1, fun z hz => by have := HP.out.2.2.2.2 z hz; have := HR2.out.2; omega⟩, ?_⟩
       exact (H7.out.pick 5 rfl).sub (((List.nil_sublist _).cons_cons _).cons _ |>.cons_cons _)
     ·obtain ⟨e1, hR2⟩ := hq3 hvv
      have HR2 := Lib.hid hR2
      subst e1
      have hvb : (v == ver) = false := by simpa using hvv
      clear hq2 hq3 hR2 hvv
      go_upto_region 23 with (first
       | (go_at_call 9; refine HCG.out.mono ?_; rintro e w6 ⟨qaa, qac, qka, qkc, qsa, qsc, rfl, hS6⟩; have H6 := Lib.hid (hS6.box1 #[.int .i64 0, .int .i64 0, .int .i64 0, .string ⟨#[]⟩, .string ⟨#[]⟩, .int .i64 0, .int .i64 0, .int .i64 0, .int .i64 0, .int .i64 0, .int .i64 0, .int .i64 0, .int .i64 0, .int .i64 0, .slice none 0 0, .slice none 0 0, .slice none 0 0] 33); clear hS6)
       | ((with_reducible refine at_list ?_); refine wpList_store_whole 17 sizeRp w6.heap.size rfl _ _ (H6.out.box 0 rfl) rfl ([.int .i64 qxid, .int .i64 qzx, .int .i64 66, .string qpa, .string qda, .int .i64 q1, .int .i64 q2, .int .i64 q3, .int .i64 q4, .int .i64 q5, .int .i64 q6, .int .i64 q7, .int .i64 qln, .int .i64 qkn, .slice qaa qacl.length qac, .slice qka qkids.length qkc, .slice qsa subs.length qsc] : List Value) rfl rfl rfl ?_; intro w7 hg7 hM7 hz7; have H7 := Lib.hid (H6.out.rebox 0 rfl hg7 hM7); have c2 := blk_cell (H7.out.box 0 rfl) 2 (.int .i64 66) rfl; have zr := heap_lt (H7.out.box 0 rfl); have cj := blk_cell (H7.out.box 5 rfl) (j + 1) (.int .i64 v) (by rw [List.getElem?_toArray, List.getElem?_map, HV.out.1]; rfl); have zj := heap_lt (H7.out.box 5 rfl); clear hg7 hM7 hz7 H6))
      clear hmin hrem hw1 hr1 hy hjn hs1 hs4 hsi0 hsi5 hnz hi1 h0 h1
      go_wp2
      go_roundg (n - (k + 1))
      case measure => omega
      case rel =>
       refine ⟨k + 1, ver, P2, rd, by omega, by simp, rfl, Lib.hid ⟨HR2.out, HG2.out.mono (by omega) (by omega), ⟨HP.out.2.2.1.1, by have := HP.out.2.2.1.2; omega⟩, HP.out.2.2.2.1, HP.out.2.2.2.2⟩, ?_⟩
       exact (H7.out.pick 5 rfl).sub (((List.nil_sublist _).cons_cons _).cons _ |>.cons_cons _)
  ·have hke : k = n := by omega
   have HS := Lib.hid hS
   clear hS
   rcases HN.out.2.2 with hnw | hnh
   ·have hkw : k = wn := by omega
    go_wp2
    go_ret
    exact ⟨rfl, HS.out.1⟩
   ·have hkw : k = 100 := by omega
    by_cases hlw : k < wn
    ·have hk1 : (k : Int) < wn := by omega
     have hk2 : ¬ (k : Int) < 100 := by omega
     go_wp2
     go_ret
     exact ⟨rfl, HS.out.1⟩
    ·have hk1 : ¬ (k : Int) < wn := by omega
     go_wp2
     go_ret
     exact ⟨rfl, HS.out.1⟩
end Go.Proofs.YtonnbkebjeoflaaGreatDoor
