/-
  What is laid is told apart by its bytes; what was laid is read as itself, or is wrong: the plain laws of entries and messages.
  No condition: every law states its own.
-/
import Derived.Test.YtmbkbkfcbloafabWireMb
import Derived.Test.YtmbkbkfcbloafabCodecV
namespace Go.Proofs.Ytmbkbkfcbloafab
open Go.RowKit
set_option linter.unusedSectionVars false
set_option linter.unusedSimpArgs false
set_option linter.unusedVariables false
set_option maxRecDepth 100000

/-! ### Told apart by the bytes -/

theorem sevens_apart : ∀ (u v : Nat) (xs ys : List UInt8), sevens u ++ xs = sevens v ++ ys → u = v ∧ xs = ys := by
  intro u
  induction u using Nat.strongRecOn with
  | ind u ih =>
    intro v xs ys h
    by_cases hu : u < 128 <;> by_cases hv : v < 128
    · rw [sevens_small hu, sevens_small hv] at h
      simp only [List.singleton_append, List.cons.injEq] at h
      have := congrArg UInt8.toNat h.1
      rw [byte_ofNat (by omega), byte_ofNat (by omega)] at this
      exact ⟨this, h.2⟩
    · rw [sevens_small hu, sevens_big (by omega)] at h
      simp only [List.singleton_append, List.cons_append, List.cons.injEq] at h
      have := congrArg UInt8.toNat h.1
      rw [byte_ofNat (by omega), byte_ofNat (by omega)] at this
      omega
    · rw [sevens_big (by omega), sevens_small hv] at h
      simp only [List.singleton_append, List.cons_append, List.cons.injEq] at h
      have := congrArg UInt8.toNat h.1
      rw [byte_ofNat (by omega), byte_ofNat (by omega)] at this
      omega
    · rw [sevens_big (u := u) (by omega), sevens_big (u := v) (by omega)] at h
      simp only [List.cons_append, List.cons.injEq] at h
      have h1 := congrArg UInt8.toNat h.1
      rw [byte_ofNat (by omega), byte_ofNat (by omega)] at h1
      obtain ⟨h2, h3⟩ := ih (u / 128) (by omega) _ _ _ h.2
      exact ⟨by omega, h3⟩

/-- The bytes tell where they end. -/
def UD {α : Type} (f : α → List UInt8) : Prop := ∀ x y xs ys, f x ++ xs = f y ++ ys → f x = f y ∧ xs = ys
theorem UD.on {α β : Type} {f : β → List UInt8} (h : UD f) (p : α → β) : UD (fun x => f (p x)) := fun x y xs ys e => h (p x) (p y) xs ys e
theorem UD.seq {α : Type} {f g : α → List UInt8} (hf : UD f) (hg : UD g) : UD (fun x => f x ++ g x) := fun x y xs ys e => by
  simp only [List.append_assoc] at e
  obtain ⟨h1, h2⟩ := hf x y _ _ e
  obtain ⟨h3, h4⟩ := hg x y _ _ h2
  exact ⟨by show f x ++ g x = f y ++ g y; rw [h1, h3], h4⟩
theorem UD.both {α : Type} {f g : α → List UInt8} (hf : UD f) {x y : α} (e : f x ++ g x = f y ++ g y) : f x = f y ∧ g x = g y := hf x y _ _ e
theorem ud_num : UD numB := fun x y xs ys e => by
  obtain ⟨h1, h2⟩ := sevens_apart _ _ _ _ e
  exact ⟨by unfold numB; rw [h1], h2⟩
theorem ud_txt : UD txtB := fun x y xs ys e => by
  unfold txtB at e ⊢
  simp only [List.append_assoc] at e
  obtain ⟨h1, h2⟩ := sevens_apart _ _ _ _ e
  have hl : x.data.toList.length = y.data.toList.length := by rw [toList_size, toList_size]; exact h1
  obtain ⟨h3, h4⟩ := List.append_inj h2 hl
  exact ⟨by rw [h1, h3], h4⟩
theorem ud_flag : UD flagB := fun x y xs ys e => by
  unfold flagB at e ⊢
  simp only [List.singleton_append, List.cons.injEq] at e
  exact ⟨by rw [e.1], e.2⟩
theorem ud_nil {α : Type} : UD (fun _ : α => ([] : List UInt8)) := fun x y xs ys e => ⟨rfl, e⟩
theorem numsB_cons (n : Int) (l : List Int) : numsB (n :: l) = numB n ++ numsB l := rfl
theorem flat_apart {α : Type} {f : α → List UInt8} (h : UD f) : ∀ (L M : List α) (xs ys : List UInt8), L.length = M.length → L.flatMap f ++ xs = M.flatMap f ++ ys → L.map f = M.map f ∧ xs = ys
  | [], [], xs, ys, _, e => ⟨rfl, e⟩
  | [], _ :: _, _, _, hl, _ => by simp at hl
  | _ :: _, [], _, _, hl, _ => by simp at hl
  | a :: L, b :: M, xs, ys, hl, e => by
    simp only [List.flatMap_cons, List.append_assoc] at e
    obtain ⟨h1, h2⟩ := h a b _ _ e
    obtain ⟨h3, h4⟩ := flat_apart h L M xs ys (by simpa using hl) h2
    exact ⟨by rw [List.map_cons, List.map_cons, h1, h3], h4⟩
theorem list_apart {α : Type} {f : α → List UInt8} (h : UD f) {L M : List α} {xs ys : List UInt8} (e : listB f L ++ xs = listB f M ++ ys) : L.map f = M.map f ∧ xs = ys := by
  unfold listB at e
  simp only [List.append_assoc] at e
  obtain ⟨h1, h2⟩ := sevens_apart _ _ _ _ e
  exact flat_apart h L M xs ys h1 h2
theorem listB_map {α : Type} {f : α → List UInt8} {L M : List α} (h : L.map f = M.map f) : listB f L = listB f M := by
  unfold listB
  have hl := congrArg List.length h
  rw [List.length_map, List.length_map] at hl
  rw [hl, List.flatMap_def, List.flatMap_def, h]
theorem ud_list {α : Type} {f : α → List UInt8} (h : UD f) : UD (listB f) := fun L M xs ys e => by
  obtain ⟨h1, h2⟩ := list_apart h e
  exact ⟨listB_map h1, h2⟩
theorem ud_nums3 {α : Type} (a b c : α → Int) : UD (fun x => numsB [a x, b x, c x]) :=
  (ud_num.on a).seq ((ud_num.on b).seq ((ud_num.on c).seq ud_nil))
theorem ud_nums2 {α : Type} (a b : α → Int) : UD (fun x => numsB [a x, b x]) := (ud_num.on a).seq ((ud_num.on b).seq ud_nil)
theorem ud_nums5 {α : Type} (a b c d e : α → Int) : UD (fun x => numsB [a x, b x, c x, d x, e x]) :=
  (ud_num.on a).seq ((ud_num.on b).seq ((ud_num.on c).seq ((ud_num.on d).seq ((ud_num.on e).seq ud_nil))))
theorem ud_acl : UD Acl.bytes := (ud_num.on Acl.perms).seq (ud_txt.on Acl.id)
theorem ud_txn : UD Txn.bytes := ((((ud_num.on Txn.kind).seq (ud_txt.on Txn.path)).seq (ud_txt.on Txn.data)).seq ((ud_list ud_acl).on Txn.acl)).seq (ud_nums3 Txn.owner Txn.number Txn.err)
theorem ud_op : UD Op.bytes := (((((ud_nums2 Op.kind Op.xid).seq (ud_txt.on Op.path)).seq (ud_txt.on Op.data)).seq ((ud_list ud_acl).on Op.acl)).seq (ud_nums2 Op.flags Op.version)).seq (ud_flag.on Op.watch)
theorem ud_arm : UD Arm.bytes := ((ud_num.on Arm.kind).seq (ud_txt.on Arm.path)).seq (ud_nums3 Arm.czxid Arm.mzxid Arm.pzxid)
theorem ud_ent : UD Ent.bytes := ((ud_nums3 Ent.zxid Ent.session Ent.xid).seq (ud_txn.on Ent.t)).seq ((ud_list ud_txn).on Ent.subs)
theorem ud_req : UD Req.bytes := ((ud_op.on Req.q).seq ((ud_list ud_op).on Req.subs)).seq ((ud_list ud_arm).on Req.armed)
theorem ud_msg : UD Msg.bytes := (((((ud_nums5 Msg.kind Msg.epoch Msg.zxid Msg.number Msg.session).seq ((ud_list ud_num).on Msg.marks)).seq (ud_txt.on Msg.data)).seq ((ud_list ud_ent).on Msg.ents)).seq (ud_req.on Msg.q)).seq ((ud_list ud_txt).on Msg.ids)

/-- Messages of the same bytes bear the same entries. -/
theorem msg_ents {x y : Msg} (e : x.bytes = y.bytes) : x.ents.map Ent.bytes = y.ents.map Ent.bytes := by
  unfold Msg.bytes at e
  simp only [List.append_assoc] at e
  have h1 := (ud_nums5 Msg.kind Msg.epoch Msg.zxid Msg.number Msg.session x y _ _ e).2
  have h2 := (list_apart ud_num h1).2
  have h3 := (ud_txt _ _ _ _ h2).2
  exact (list_apart ud_ent h3).1

/-! ### What was laid is read as itself, or is wrong -/

def Reads {α : Type} (q : List UInt8 → RS → RS) (f : α → List UInt8) (ok good : α → Prop) : Prop :=
  ∀ x, ok x → ∀ (bs post : List UInt8) (s : RS), s.wr = 0 → bs.drop s.at_ = f x ++ post → (good x → q bs s = ⟨s.at_ + (f x).length, 0⟩) ∧ (¬ good x → (q bs s).wr ≠ 0)
theorem Reads.on {α β : Type} {q : List UInt8 → RS → RS} {f : β → List UInt8} {ok good : β → Prop} (h : Reads q f ok good) (p : α → β) : Reads q (fun x => f (p x)) (fun x => ok (p x)) (fun x => good (p x)) :=
  fun x hx => h (p x) hx
theorem Reads.seq {α : Type} {q r : List UInt8 → RS → RS} {f g : α → List UInt8} {ok ok' good good' : α → Prop} (hq : Reads q f ok good) (hr : Reads r g ok' good') (hs : ∀ bs, Sticky (r bs)) :
    Reads (fun bs s => r bs (q bs s)) (fun x => f x ++ g x) (fun x => ok x ∧ ok' x) (fun x => good x ∧ good' x) := by
  intro x hx bs post s h0 h
  simp only [List.append_assoc] at h
  obtain ⟨h1, h2⟩ := hq x hx.1 bs _ s h0 h
  have hmid : bs.drop (s.at_ + (f x).length) = g x ++ post := by rw [← List.drop_drop, h, List.drop_left]
  refine ⟨fun hg => ?_, fun hg => ?_⟩
  · show r bs (q bs s) = _
    rw [h1 hg.1, ((hr x hx.2 bs post ⟨s.at_ + (f x).length, 0⟩ rfl hmid).1 hg.2), List.length_append]
    simp only [Nat.add_assoc]
  · show (r bs (q bs s)).wr ≠ 0
    by_cases hgx : good x
    · rw [h1 hgx]
      exact (hr x hx.2 bs post ⟨s.at_ + (f x).length, 0⟩ rfl hmid).2 fun h' => hg ⟨hgx, h'⟩
    · have := h2 hgx
      rw [hs bs _ this]
      exact this
theorem Reads.congr {α : Type} {q q' : List UInt8 → RS → RS} {f f' : α → List UInt8} {ok ok' good : α → Prop} (h : Reads q f ok good) (hq : ∀ bs s, q' bs s = q bs s) (hf : ∀ x, f' x = f x) (ho : ∀ x, ok' x → ok x) : Reads q' f' ok' good := fun x hx bs post s h0 h1 => by
  rw [hq, hf]
  exact h x (ho x hx) bs post s h0 (by rw [← hf]; exact h1)
theorem reads_num : Reads qNum numB i64 (fun _ => True) := fun x hx bs post s h0 h => ⟨fun _ => by unfold qNum; rw [rnum_at h0 h hx]; rfl, fun h => absurd trivial h⟩
theorem rs_at {bs : List UInt8} : ∀ (n : Nat) (l : List Int) (s : RS) (post : List UInt8), l.length = n → (∀ t ∈ l, i64 t) → s.wr = 0 → bs.drop s.at_ = numsB l ++ post → rs bs s n = ⟨s.at_ + (numsB l).length, 0⟩
  | 0, l, s, post, hl, hi, h0, h => by
    obtain rfl := List.eq_nil_of_length_eq_zero hl
    show s = _
    obtain ⟨p, e⟩ := s
    simp only at h0
    subst h0
    rfl
  | n + 1, l, s, post, hl, hi, h0, h => by
    have hne : l ≠ [] := fun e => by rw [e] at hl; simp at hl
    obtain ⟨m, t, rfl⟩ : ∃ m t, l = m ++ [t] := ⟨l.dropLast, l.getLast hne, (List.dropLast_concat_getLast hne).symm⟩
    rw [numsB_add, numsB_one, List.append_assoc] at h
    have hm := rs_at n m s (numB t ++ post) (by simpa using hl) (fun u hu => hi u (by simp [hu])) h0 h
    show (rnum bs (rs bs s n)).2 = _
    have hd : bs.drop (s.at_ + (numsB m).length) = numB t ++ post := by rw [← List.drop_drop, h, List.drop_left]
    rw [hm, rnum_at (s := ⟨s.at_ + (numsB m).length, 0⟩) rfl hd (hi t (by simp)), numsB_add, numsB_one, List.length_append]
    show RS.mk _ _ = _
    unfold numB
    simp only [Nat.add_assoc]
theorem reads_nums {α : Type} (n : Nat) (l : α → List Int) (hl : ∀ x, (l x).length = n) : Reads (fun bs s => rs bs s n) (fun x => numsB (l x)) (fun x => ∀ t ∈ l x, i64 t) (fun _ => True) :=
  fun x hx bs post s h0 h => ⟨fun _ => rs_at n (l x) s post (hl x) hx h0 h, fun h => absurd trivial h⟩
def fits64 (s : ByteArray) : Prop := s.size < 18446744073709551616
theorem reads_text (most : Nat) : Reads (fun bs s => (rtext bs (most : Int) s).2) txtB fits64 (fun s => s.size ≤ most) := fun x hx bs post s h0 h => by
  unfold txtB at h
  have hl : x.data.toList.length = x.size := toList_size x
  refine ⟨fun hg => ?_, fun hg => ?_⟩
  · have hg : x.size ≤ most := hg
    rw [← hl] at h
    show (rtext bs (most : Int) s).2 = _
    rw [rtext_at h0 h (by rw [hl]; exact hx) (by rw [hl]; omega)]
    unfold txtB
    rw [List.length_append, hl, Nat.add_assoc]
  · have hg : ¬ x.size ≤ most := hg
    rw [List.append_assoc] at h
    have h1 : rcount bs (most : Int) s = (0, ⟨s.at_, 12⟩) := by
      unfold rcount
      rw [rsev_at h0 h hx, if_pos (by simp only; omega)]
      unfold RS.fail
      rw [if_pos h0]
    show (rtext bs (most : Int) s).2.wr ≠ 0
    unfold rtext
    rw [h1, if_neg (by simp only; omega)]
    show (12 : Int) ≠ 0
    omega
theorem reads_flag : Reads (fun bs s => qFlag bs s) flagB (fun _ => True) (fun _ => True) := fun x _ bs post s h0 h => ⟨fun _ => by
  show (rflag bs s).2 = _
  rw [rflag_at h0 h]; rfl, fun h => absurd trivial h⟩
theorem reads_iter {α : Type} {q : List UInt8 → RS → RS} {f : α → List UInt8} {ok good : α → Prop} (hq : Reads q f ok good) (hs : ∀ bs, Sticky (q bs)) {bs : List UInt8} : ∀ (L : List α) (s : RS) (post : List UInt8), (∀ x ∈ L, ok x) → s.wr = 0 → bs.drop s.at_ = L.flatMap f ++ post →
    ((∀ x ∈ L, good x) → iter (q bs) s L.length = ⟨s.at_ + (L.flatMap f).length, 0⟩) ∧ (¬ (∀ x ∈ L, good x) → (iter (q bs) s L.length).wr ≠ 0)
  | [], s, post, _, h0, _ => ⟨fun _ => by
      show s = _
      obtain ⟨p, e⟩ := s
      simp only at h0
      subst h0
      rfl, fun h => absurd (fun _ h => absurd h List.not_mem_nil) h⟩
  | a :: L, s, post, hok, h0, h => by
    simp only [List.flatMap_cons, List.append_assoc] at h
    have e : iter (q bs) s (a :: L).length = iter (q bs) (q bs s) L.length := by
      rw [List.length_cons, Nat.add_comm, iter_add]; rfl
    obtain ⟨h1, h2⟩ := hq a (hok a (by simp)) bs _ s h0 h
    have hd : bs.drop (s.at_ + (f a).length) = L.flatMap f ++ post := by rw [← List.drop_drop, h, List.drop_left]
    obtain ⟨h3, h4⟩ := reads_iter hq hs (bs := bs) L ⟨s.at_ + (f a).length, 0⟩ post (fun x hx => hok x (by simp [hx])) rfl hd
    rw [e]
    refine ⟨fun hg => ?_, fun hg => ?_⟩
    · rw [h1 (hg a (by simp)), h3 (fun x hx => hg x (by simp [hx])), List.flatMap_cons, List.length_append]
      simp only [Nat.add_assoc]
    · by_cases hga : good a
      · rw [h1 hga]
        exact h4 fun hL => hg fun x hx => by
          rcases List.mem_cons.1 hx with rfl | hx
          · exact hga
          · exact hL x hx
      · have := h2 hga
        rw [iter_id (hs bs) this]
        exact this
theorem reads_list {α : Type} {q : List UInt8 → RS → RS} {f : α → List UInt8} {ok good : α → Prop} (hq : Reads q f ok good) (hs : ∀ bs, Sticky (q bs)) :
    Reads (fun bs s => qList bs (q bs) s) (listB f) (fun L => L.length < 18446744073709551616 ∧ ∀ x ∈ L, ok x) (fun L => L.length ≤ 256 ∧ ∀ x ∈ L, good x) := fun L hL bs post s h0 h => by
  unfold listB at h ⊢
  rw [List.append_assoc] at h
  have hd : bs.drop (s.at_ + (sevens L.length).length) = L.flatMap f ++ post := by rw [← List.drop_drop, h, List.drop_left]
  show (_ → qList bs (q bs) s = _) ∧ (_ → (qList bs (q bs) s).wr ≠ 0)
  unfold qList
  by_cases hl : L.length ≤ 256
  · rw [rcount_at h0 h hL.1 (by show L.length ≤ 256; exact hl)]
    obtain ⟨h3, h4⟩ := reads_iter hq hs (bs := bs) L ⟨s.at_ + (sevens L.length).length, 0⟩ post hL.2 rfl hd
    refine ⟨fun hg => ?_, fun hg => ?_⟩
    · simp only
      rw [h3 hg.2, List.length_append]
      simp only [Nat.add_assoc]
    · exact h4 fun h' => hg ⟨hl, h'⟩
  · refine ⟨fun hg => absurd hg.1 hl, fun _ => ?_⟩
    have h1 : rcount bs 256 s = (0, ⟨s.at_, 12⟩) := by
      unfold rcount
      rw [rsev_at h0 h hL.1, if_pos (by show 256 < L.length; omega)]
      unfold RS.fail
      rw [if_pos h0]
    rw [h1]
    show (12 : Int) ≠ 0
    omega
theorem reads_txt : Reads qTxt txtB fits64 (fun s => s.size ≤ 4096) := reads_text 4096
theorem reads_big : Reads qBig txtB fits64 (fun s => s.size ≤ 65536) := reads_text 65536

theorem reads_acl : ∃ g, Reads qAcl Acl.bytes (fun x => i64 x.perms ∧ fits64 x.id) g := ⟨_, (reads_num.on Acl.perms).seq (reads_txt.on Acl.id) sticky_qTxt⟩
def Txn.laid (x : Txn) : Prop := (((i64 x.kind ∧ fits64 x.path) ∧ fits64 x.data) ∧ (x.acl.length < 18446744073709551616 ∧ ∀ a ∈ x.acl, i64 a.perms ∧ fits64 a.id)) ∧ ∀ t ∈ [x.owner, x.number, x.err], i64 t
theorem reads_txn : ∃ g, Reads qTxn Txn.bytes Txn.laid g := by
  obtain ⟨ga, ha⟩ := reads_acl
  have H := ((((reads_num.on Txn.kind).seq (reads_txt.on Txn.path) sticky_qTxt).seq (reads_txt.on Txn.data) sticky_qTxt).seq ((reads_list ha sticky_qAcl).on Txn.acl) (fun bs => sticky_list bs (sticky_qAcl bs))).seq
    (reads_nums 3 (fun x : Txn => [x.owner, x.number, x.err]) (fun _ => rfl)) (fun bs => sticky_rs bs 3)
  exact ⟨_, H.congr (fun bs s => by unfold qTxn; rfl) (fun x => by unfold Txn.bytes; rfl) (fun x h => h)⟩
def Ent.laid (x : Ent) : Prop := ((∀ t ∈ [x.zxid, x.session, x.xid], i64 t) ∧ x.t.laid) ∧ (x.subs.length < 18446744073709551616 ∧ ∀ a ∈ x.subs, a.laid)
theorem reads_ent : ∃ g, Reads qEnt Ent.bytes Ent.laid g := by
  obtain ⟨gt, ht⟩ := reads_txn
  have H := ((reads_nums 3 (fun x : Ent => [x.zxid, x.session, x.xid]) (fun _ => rfl)).seq (ht.on Ent.t) sticky_qTxn).seq ((reads_list ht sticky_qTxn).on Ent.subs) (fun bs => sticky_list bs (sticky_qTxn bs))
  exact ⟨_, H.congr (fun bs s => by unfold qEnt; rfl) (fun x => by unfold Ent.bytes; rfl) (fun x h => h)⟩

theorem sticky_qEnt0 (bs : List UInt8) : Sticky (qEnt bs) := (sticky_list bs (sticky_qTxn bs)).comp ((sticky_qTxn bs).comp (sticky_rs bs 3))
theorem sticky_req0 (bs : List UInt8) : Sticky (qReq bs) := (sticky_list bs (sticky_qArm bs)).comp ((sticky_list bs (sticky_qOp bs)).comp (sticky_qOp bs))
theorem rend_wr {bs : List UInt8} {s : RS} (h : (rend bs s).wr = 0) : s.wr = 0 := by
  unfold rend at h
  split at h
  · exact absurd h (fail_wr (by omega))
  · exact h
/-- An entry in a message that is read is read by itself. -/
theorem ent_of_msg {x : Msg} {bs : List UInt8} (hb : bs = x.bytes) (hnum : ∀ t ∈ [x.kind, x.epoch, x.zxid, x.number, x.session], i64 t) (hmarks : x.marks.length < 18446744073709551616 ∧ ∀ t ∈ x.marks, i64 t) (hdata : fits64 x.data)
    (hents : x.ents.length < 18446744073709551616 ∧ ∀ t ∈ x.ents, t.laid) (hr : (rend bs (qMsg bs ⟨0, 0⟩)).wr = 0) (e : Ent) (he : e ∈ x.ents) : (rend e.bytes (qEnt e.bytes ⟨0, 0⟩)).wr = 0 := by
  obtain ⟨ge, hge⟩ := reads_ent
  have H := (((reads_nums 5 (fun x : Msg => [x.kind, x.epoch, x.zxid, x.number, x.session]) (fun _ => rfl)).seq ((reads_list reads_num sticky_num).on Msg.marks) (fun bs => sticky_list bs (sticky_num bs))).seq (reads_big.on Msg.data) (fun bs => sticky_text bs 65536)).seq ((reads_list hge sticky_qEnt0).on Msg.ents) (fun bs => sticky_list bs (sticky_qEnt0 bs))
  have h1 := rend_wr hr
  have hw : (qList bs (qEnt bs) (qBig bs (qList bs (qNum bs) (rs bs ⟨0, 0⟩ 5)))).wr = 0 := by
    refine Classical.byContradiction fun hn => ?_
    unfold qMsg at h1
    rw [sticky_req0 bs _ hn, (sticky_list bs (sticky_qTxt bs)) _ hn] at h1
    exact hn h1
  have hg := Classical.byContradiction fun hn => (H x ⟨⟨⟨hnum, hmarks⟩, hdata⟩, hents⟩ bs (x.q.bytes ++ listB txtB x.ids) ⟨0, 0⟩ rfl (by rw [hb]; unfold Msg.bytes; simp only [List.drop_zero, List.append_assoc])).2 hn hw
  have hge' := hg.2.2 e he
  have hq := (hge e (hents.2 e he) e.bytes [] ⟨0, 0⟩ rfl (by simp)).1 hge'
  rw [hq]
  unfold rend
  rw [if_neg (by simp)]

/-! ### What is too short or too long -/
theorem cut_off {α : Type} {f : α → List UInt8} (h : UD f) {x v : α} {k : Nat} (hk : k < (f x).length) (e : f v = (f x).take k) : False := by
  have h1 : f v ++ (f x).drop k = f x ++ [] := by rw [e, List.take_append_drop, List.append_nil]
  have h2 := congrArg List.length (h v x _ _ h1).2
  rw [List.length_drop, List.length_nil] at h2
  omega
theorem more_on {α : Type} {f : α → List UInt8} (h : UD f) {x v : α} {b : UInt8} (e : f v = f x ++ [b]) : False := by
  have h1 : f v ++ [] = f x ++ [b] := by rw [e, List.append_nil]
  have h2 := (h v x _ _ h1).2
  cases h2

/-! ### What came in may be laid -/
theorem flat_mem_len {α : Type} (f : α → List UInt8) {L : List α} {t : α} (h : t ∈ L) : (f t).length ≤ (L.flatMap f).length := by
  obtain ⟨k, hk⟩ := List.mem_iff_getElem?.1 h
  have := flat_take_le f hk
  omega
theorem flat_pos_len {α : Type} (f : α → List UInt8) (hp : ∀ a, 1 ≤ (f a).length) : ∀ L : List α, L.length ≤ (L.flatMap f).length
  | [] => Nat.zero_le _
  | a :: L => by
    have := flat_pos_len f hp L
    have := hp a
    rw [List.flatMap_cons, List.length_append, List.length_cons]
    omega
theorem numB_pos' (n : Int) : 1 ≤ (numB n).length := List.length_pos_iff.2 (sevens_ne _)
theorem txtB_le (s : ByteArray) : s.size ≤ (txtB s).length := by unfold txtB; rw [List.length_append, toList_size]; omega
theorem acl_pos' (x : Acl) : 1 ≤ x.bytes.length := by
  have := numB_pos' x.perms
  unfold Acl.bytes
  rw [List.length_append]
  omega
theorem txn_pos' (x : Txn) : 1 ≤ x.bytes.length := by
  have := numB_pos' x.kind
  unfold Txn.bytes
  simp only [List.length_append]
  omega
theorem ent_pos' (x : Ent) : 1 ≤ x.bytes.length := by
  have := txn_pos' x.t
  unfold Ent.bytes
  simp only [List.length_append]
  omega
theorem listB_ge {α : Type} (f : α → List UInt8) (L : List α) : (L.flatMap f).length ≤ (listB f L).length := by unfold listB; rw [List.length_append]; omega
theorem Txn.laid_of {w : World} {x : Txn} (h : x.ok w) (hl : x.bytes.length < 18446744073709551616) : x.laid := by
  obtain ⟨h1, h2, h3, h4, h5, h6⟩ := h
  unfold Txn.bytes at hl
  simp only [List.length_append] at hl
  have a1 := txtB_le x.path
  have a2 := txtB_le x.data
  have a3 := listB_ge Acl.bytes x.acl
  have a4 := flat_pos_len Acl.bytes acl_pos' x.acl
  refine ⟨⟨⟨⟨h1, by unfold fits64; omega⟩, by unfold fits64; omega⟩, by omega, fun a ha => ⟨h6 a ha, ?_⟩⟩, ?_⟩
  · have b1 := flat_mem_len Acl.bytes ha
    have b2 := txtB_le a.id
    unfold Acl.bytes at b1
    rw [List.length_append] at b1
    have b3 : ((x.acl.flatMap fun x => numB x.perms ++ txtB x.id)).length = (x.acl.flatMap Acl.bytes).length := rfl
    unfold fits64
    omega
  · intro t ht
    simp only [List.mem_cons, List.not_mem_nil, or_false] at ht
    rcases ht with rfl | rfl | rfl
    · exact h2
    · exact h3
    · exact h4
theorem Ent.laid_of {w : World} {x : Ent} (h : x.ok w) (hl : x.bytes.length < 18446744073709551616) : x.laid := by
  unfold Ent.bytes at hl
  simp only [List.length_append] at hl
  have a3 := listB_ge Txn.bytes x.subs
  have a4 := flat_pos_len Txn.bytes txn_pos' x.subs
  refine ⟨⟨?_, Txn.laid_of h.t (by omega)⟩, by omega, fun a ha => Txn.laid_of (h.all a ha) ?_⟩
  · intro t ht
    simp only [List.mem_cons, List.not_mem_nil, or_false] at ht
    rcases ht with rfl | rfl | rfl
    · exact h.zxid
    · exact h.session
    · exact h.xid
  · have b1 := flat_mem_len Txn.bytes ha
    omega
/-- .. from what came in. -/
theorem ent_of_msg' {w : World} {x : Msg} {bs : List UInt8} (hb : bs = x.bytes) (hx : x.ok w) (hl : x.bytes.length < 18446744073709551616) (hr : (rend bs (qMsg bs ⟨0, 0⟩)).wr = 0) (e : Ent) (he : e ∈ x.ents) : (rend e.bytes (qEnt e.bytes ⟨0, 0⟩)).wr = 0 := by
  unfold Msg.bytes at hl
  simp only [List.length_append] at hl
  have a1 := txtB_le x.data
  have a2 := listB_ge numB x.marks
  have a3 := flat_pos_len numB numB_pos' x.marks
  have a4 := listB_ge Ent.bytes x.ents
  have a5 := flat_pos_len Ent.bytes ent_pos' x.ents
  refine ent_of_msg hb ?_ ⟨by omega, hx.mall⟩ (by unfold fits64; omega) ⟨by omega, fun t ht => Ent.laid_of (hx.eall t ht) ?_⟩ hr e he
  · intro t ht
    simp only [List.mem_cons, List.not_mem_nil, or_false] at ht
    rcases ht with rfl | rfl | rfl | rfl | rfl
    · exact hx.kind
    · exact hx.epoch
    · exact hx.zxid
    · exact hx.number
    · exact hx.session
  · have b1 := flat_mem_len Ent.bytes ht
    omega
end Go.Proofs.Ytmbkbkfcbloafab
