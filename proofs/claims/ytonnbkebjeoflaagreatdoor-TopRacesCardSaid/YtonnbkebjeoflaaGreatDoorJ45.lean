/-
  Laws of Calls, RaceP, ProvP, PlainO, WholeP.
  Conditions: each law states its own.
-/
import Derived.Test.YtonnbkebjeoflaaGreatDoorJ7
import Derived.Test.YtonnbkebjeoflaaGreatDoorJ8
import Derived.Test.YtonnbkebjeoflaaGreatDoorJ21
import Derived.Test.YtonnbkebjeoflaaGreatDoorJ37
import Derived.Test.YtonnbkebjeoflaaGreatDoorJ41
import Derived.Test.YtonnbkebjeoflaaGreatDoorJ44
set_option maxHeartbeats 16000000
set_option linter.unusedSectionVars false
set_option linter.unusedSimpArgs false
set_option linter.unusedVariables false
set_option maxRecDepth 100000
namespace Go.Proofs.YtonnbkebjeoflaaGreatDoor
open Go.RowKit Go.Maps
def rq1 (r : Rq1) (aa : Option Addr) (ac : Nat) : RqR := ⟨r, aa, ac, none, 0, 0, none, 0, 0⟩
theorem call_easy {w0 w : World} {l : List Thing} (pb : Nat) (p : Svc) {N M : Nat} (h : St w0 w (svc pb p :: l)) (env : Env w0) (hg : p.good N M) (hN : N ≤ 1000000) (hM : M ≤ 20000000) (s : Int) (hth : p.there s = true) (r : Rq1) (aa : Option Addr) (ac : Nat) (hf : (rq1 r aa ac).fit) (hk : r.kind ≠ 8 ∧ r.kind ≠ 13 ∧ r.kind ≠ 14 ∧ r.kind ≠ 15 ∧ r.kind ≠ 6)
 (hin : ∀ w', St w0 w' l → Rd w' 2 aa r.acl.length ac (r.acl.flatMap ARow.cells)) :
 Calls Tryz.prog 9 #[.pointer (some ⟨pb, 0, none⟩), .int .i64 s, .agg #[.int .i64 r.kind, .int .i64 r.xid, .string r.path, .string r.data, .slice aa r.acl.length ac, .int .i64 r.flags, .int .i64 r.version, .bool r.watch, .slice none 0 0, .slice none 0 0]] w (CallPost pb (p.call s ⟨r, [], []⟩) w0 l) :=
 call_st pb p h env hg hN hM s hth (rq1 r aa ac) [] ⟨r, [], []⟩ rfl rfl ⟨hf, fun _ => rfl, fun _ u hu => (by cases hu)⟩ hk.1
  (fun w' h' => ⟨hin w' h', fun _ => Rd.nil w' 10, fun _ u hu => (by cases hu)⟩)
  (fun h => absurd h hk.2.2.2.2)
  (fun _ w' G h' hG => readD_st pb p h' env hg hN s (hg.sInt hN (hg.has hth)).1 (rq1 r aa ac) ⟨r, [], []⟩ rfl hf hk.2.1 hk.2.2.1 hk.2.2.2.1 (fun w2 h2 => hin w2 (hG w2 h2)))
theorem call_bare {w0 w : World} {l : List Thing} (pb : Nat) (p : Svc) {N M : Nat} (h : St w0 w (svc pb p :: l)) (env : Env w0) (hg : p.good N M) (hN : N ≤ 1000000) (hM : M ≤ 20000000) (s : Int) (hth : p.there s = true) (kind xid : Int) (path data : ByteArray) (flags version : Int) (watch : Bool) (hp : path.size ≤ 2000000000) (hfl : okInt flags) (hk : kind ≠ 8 ∧ kind ≠ 13 ∧ kind ≠ 14 ∧ kind ≠ 15 ∧ kind ≠ 6) :
 Calls Tryz.prog 9 #[.pointer (some ⟨pb, 0, none⟩), .int .i64 s, .agg #[.int .i64 kind, .int .i64 xid, .string path, .string data, .slice none 0 0, .int .i64 flags, .int .i64 version, .bool watch, .slice none 0 0, .slice none 0 0]] w (CallPost pb (p.call s ⟨⟨kind, xid, path, data, [], flags, version, watch⟩, [], []⟩) w0 l) :=
 call_easy pb p h env hg hN hM s hth ⟨kind, xid, path, data, [], flags, version, watch⟩ none 0 ⟨hp, Nat.zero_le _, fun a ha => (by cases ha), hfl⟩ hk (fun w' _ => Rd.nil w' 2)
open Go.RowKit
def rq0 : Rq1 := ⟨0, 0, ⟨#[]⟩, ⟨#[]⟩, [], 0, 0, false⟩
def Four (p : Svc) : Prop := ∀ s : Int, 1 ≤ s → s ≤ 4 → p.there s = true
def svc4 : Svc := ((((Svc.new.openS 10).1.openS 10).1.openS 10).1.openS 10).1
theorem svc4_good : svc4.good 4 4096 := by
 have h := openS_good (openS_good (openS_good (openS_good new_good (by omega) 10) (by omega) 10) (by omega) 10) (by omega) 10
 exact h
theorem svc4_sess : svc4.tree.sessions = [(1, ⟨10, ⟨#[]⟩⟩), (2, ⟨10, ⟨#[]⟩⟩), (3, ⟨10, ⟨#[]⟩⟩), (4, ⟨10, ⟨#[]⟩⟩)] := by rfl
theorem svc4_four : Four svc4 := by
 intro s h1 h4
 unfold Svc.there
 rw [svc4_sess]
 rcases (by omega : s = 1 ∨ s = 2 ∨ s = 3 ∨ s = 4) with rfl | rfl | rfl | rfl <;> rfl
theorem may_world (ids : List ByteArray) (n : Int) (h0 : 0 ≤ n) (h1 : n ≤ 31) : may [(31, world)] n ids = true := by
 unfold may
 have hg : given ids [(31, world)] = 31 := by
  show gives ids 0 (31, world) = 31
  unfold gives
  rw [if_pos (by unfold hits; simp)]
  decide
 rw [hg]
 have : bits .andNot .i64 n 31 = 0 := by
  rcases (by omega : n = 0 ∨ n = 1 ∨ n = 2 ∨ n = 3 ∨ n = 4 ∨ n = 5 ∨ n = 6 ∨ n = 7 ∨ n = 8 ∨ n = 9 ∨ n = 10 ∨ n = 11 ∨ n = 12 ∨ n = 13 ∨ n = 14 ∨ n = 15 ∨ n = 16 ∨ n = 17 ∨ n = 18 ∨ n = 19 ∨ n = 20 ∨ n = 21 ∨ n = 22 ∨ n = 23 ∨ n = 24 ∨ n = 25 ∨ n = 26 ∨ n = 27 ∨ n = 28 ∨ n = 29 ∨ n = 30 ∨ n = 31) with rfl | rfl | rfl | rfl | rfl | rfl | rfl | rfl | rfl | rfl | rfl | rfl | rfl | rfl | rfl | rfl | rfl | rfl | rfl | rfl | rfl | rfl | rfl | rfl | rfl | rfl | rfl | rfl | rfl | rfl | rfl | rfl <;> decide
 simp [this, h0, h1]
def raceP : ByteArray := ⟨#[47, 114]⟩
theorem race_check : checkB raceP = 0 := by decide
structure Race (p : Svc) (ver : Int) : Prop where
 four : Four p
 node : ∃ n, p.tree.node raceP = some n ∧ n.acl = [(31, world)] ∧ n.st.version = ver
theorem race_start : (∃ N M, (svc4.call 1 ⟨{ rq0 with kind := 1, path := raceP, acl := [(31, world)] }, [], []⟩).1.good N M) ∧ Race (svc4.call 1 ⟨{ rq0 with kind := 1, path := raceP, acl := [(31, world)] }, [], []⟩).1 0 := by
 have hth : svc4.there 1 = true := svc4_four 1 (by omega) (by omega)
 refine ⟨⟨_, _, call_good svc4_good (by omega) _⟩, ?_⟩
 have e1 : (svc4.call 1 ⟨{ rq0 with kind := 1, path := raceP, acl := [(31, world)] }, [], []⟩).1 = (svc4.put 1 0 ⟨⟨1, raceP, ⟨#[]⟩, [(31, world)], 0, 1, 0⟩, []⟩).1 := by
  unfold Svc.call
  rw [if_neg (by rw [hth]; decide), if_pos (by decide)]
  simp only
  have ht : svc4.tree.txn 1 (svc4.idsOf 1) ⟨{ rq0 with kind := 1, path := raceP, acl := [(31, world)] }, [], []⟩ = ⟨⟨1, raceP, ⟨#[]⟩, [(31, world)], 0, 1, 0⟩, []⟩ := by
   have hm : svc4.tree.mkTx 1 (svc4.idsOf 1) { rq0 with kind := 1, path := raceP, acl := [(31, world)] } = (⟨1, raceP, ⟨#[]⟩, [(31, world)], 0, 1, 0⟩, 0) := by
    have hmay : svc4.tree.mayAt (svc4.idsOf 1) (parentB raceP) 4 = true := by
     unfold Tree.mayAt
     have : svc4.tree.node (parentB raceP) = some Tree.root0 := by rfl
     rw [this]
     exact may_world _ 4 (by omega) (by omega)
    unfold Tree.mkTx
    simp only [hmay]
    rfl
   unfold Tree.txn
   rw [if_neg (by decide)]
   rw [if_neg (by rw [svc4_sess]; decide), if_neg (by decide), if_neg (by decide), if_neg (by decide)]
   unfold Tree.partTx
   rw [if_pos rfl, hm]
   rfl
  rw [ht]
  rfl
 rw [e1]
 refine ⟨fun s h1 h4 => ?_, ?_⟩
 ·have hs : (svc4.put 1 0 ⟨⟨1, raceP, ⟨#[]⟩, [(31, world)], 0, 1, 0⟩, []⟩).1.tree.sessions = svc4.tree.sessions := by rfl
  have := svc4_four s h1 h4
  unfold Svc.there at this ⊢
  rw [hs]
  exact this
 ·refine ⟨⟨⟨#[]⟩, [(31, world)], ⟨4294967301, 4294967301, 4294967301, 0, 0, 0, 0⟩⟩, by rfl, rfl, rfl⟩
theorem race_may {p : Svc} {n : Nd} (ids : List ByteArray) (hn : p.tree.node raceP = some n) (ha : n.acl = [(31, world)]) (k : Int) (h0 : 0 ≤ k) (h1 : k ≤ 31) : p.tree.mayAt ids raceP k = true := by
 unfold Tree.mayAt
 rw [hn]
 show may n.acl k ids = true
 rw [ha]
 exact may_world _ _ h0 h1
theorem isNone_of {α : Type} {o : Option α} (h : o.isSome = true) : ¬ o.isNone = true := by cases o <;> simp_all
theorem race_get {p : Svc} {ver : Int} (h : Race p ver) {s : Int} (h1 : 1 ≤ s) (h4 : s ≤ 4) : ∃ q, p.call s ⟨{ rq0 with kind := 9, path := raceP }, [], []⟩ = (p, ⟨q, []⟩, 0) ∧ q.err = 0 ∧ q.st.version = ver := by
 obtain ⟨n, hn, ha, hv⟩ := h.node
 have hth := h.four s h1 h4
 have his : p.tree.is raceP = true := by unfold Tree.is; rw [hn]; rfl
 have hr : ∃ q, p.tree.read (p.idsOf s) { rq0 with kind := 9, path := raceP } = q ∧ q.err = 0 ∧ q.st.version = ver := by
  refine ⟨_, rfl, ?_⟩
  unfold Tree.read
  simp only
  rw [race_may _ hn ha 1 (by omega) (by omega), his, race_check]
  have e1 : firstE [whenE (!(decide ((9 : Int) = 9) || decide ((9 : Int) = 10) || decide ((9 : Int) = 11) || decide ((9 : Int) = 12))) 110, 0, whenE (!true) 60, whenE (decide ((9 : Int) ≠ 10) && !true) 65] = 0 := by decide
  simp only [decide_true, Bool.true_or, Bool.not_true] at e1 ⊢
  rw [e1]
  simp only [ne_eq, not_true, if_false, hn, if_true]
  unfold Tree.Rp1.put
  rw [hn]
  exact ⟨rfl, hv⟩
 obtain ⟨q, hq, he, hqv⟩ := hr
 refine ⟨{ q with xid := 0, zxid := p.tree.zxid }, ?_, he, hqv⟩
 unfold Svc.call
 rw [if_neg (by rw [hth]; simp), if_neg (by first | decide | (simp; done) | (simp [Tree.changes]; done))]
 have hrs : p.readS s ⟨{ rq0 with kind := 9, path := raceP }, [], []⟩ = (p, q) := by
  unfold Svc.readS
  rw [if_neg (by first | decide | (simp; done) | (simp [Tree.changes]; done)), if_neg (by first | decide | (simp; done) | (simp [Tree.changes]; done)), if_neg (by first | decide | (simp; done) | (simp [Tree.changes]; done))]
  simp only
  rw [hq, if_pos (by unfold Svc.laidK; rw [if_pos (by rfl)])]
 rw [hrs]
 rfl
theorem race_set {p : Svc} {ver : Int} (h : Race p ver) (h0 : 0 ≤ ver) (hb : ver ≤ 1000) {s : Int} (h1 : 1 ≤ s) (h4 : s ≤ 4) (d : ByteArray) (hd : d.size ≤ 100) (v : Int) (hv0 : 0 ≤ v) :
 ∃ p' q subs, p.call s ⟨{ rq0 with kind := 3, path := raceP, data := d, version := v }, [], []⟩ = (p', ⟨q, subs⟩, 0) ∧
   (v = ver → q.err = 0 ∧ q.st.version = ver + 1 ∧ q.length = d.size ∧ Race p' (ver + 1)) ∧ (v ≠ ver → q.err = 66 ∧ Race p' ver) := by
 obtain ⟨n, hn, ha, hv⟩ := h.node
 have hth := h.four s h1 h4
 have his : p.tree.is raceP = true := by unfold Tree.is; rw [hn]; rfl
 have hst : (p.tree.stat raceP).version = ver := by unfold Tree.stat; rw [hn]; exact hv
 have hinc : inc ver = ver + 1 := by
  unfold inc
  simp [IntKind.wrap, IntKind.bits, IntKind.signed]
  omega
 have hpart : p.tree.partTx s (p.idsOf s) { rq0 with kind := 3, path := raceP, data := d, version := v } = (⟨3, raceP, d, [], 0, ver + 1, 0⟩, if v = ver then 0 else 66) := by
  unfold Tree.partTx
  rw [if_neg (by first | decide | (simp; done) | (simp [Tree.changes]; done)), if_neg (by first | decide | (simp; done) | (simp [Tree.changes]; done))]
  simp only [if_true]
  rw [hst, hinc, race_may _ hn ha 2 (by omega) (by omega), his, race_check]
  have e1 : decide (100 < d.size) = false := by simpa using hd
  rw [e1]
  by_cases hve : v = ver
  ·rw [if_pos hve]
   have e2 : decide (v ≠ ver) = false := by simpa using hve
   rw [e2]
   simp [firstE, whenE]
  ·rw [if_neg hve]
   have e2 : decide (v ≠ ver) = true := by simpa using hve
   have e3 : decide (v ≠ -1) = true := by simp; omega
   rw [e2, e3]
   simp [firstE, whenE]
 have htx : p.tree.txn s (p.idsOf s) ⟨{ rq0 with kind := 3, path := raceP, data := d, version := v }, [], []⟩ = if v = ver then ⟨⟨3, raceP, d, [], 0, ver + 1, 0⟩, []⟩ else Tree.refusal 66 (-1) := by
  unfold Tree.txn
  rw [if_neg (by first | decide | (simp; done) | (simp [Tree.changes]; done)), if_neg (isNone_of hth), if_neg (by first | decide | (simp; done) | (simp [Tree.changes]; done)), if_neg (by first | decide | (simp; done) | (simp [Tree.changes]; done)), if_neg (by first | decide | (simp; done) | (simp [Tree.changes]; done))]
  simp only [hpart]
  by_cases hve : v = ver
  ·rw [if_pos hve, if_pos hve, if_neg (by first | decide | (simp; done) | (simp [Tree.changes]; done))]
  ·rw [if_neg hve, if_neg hve, if_pos (by first | decide | (simp; done) | (simp [Tree.changes]; done))]
 have hcall : p.call s ⟨{ rq0 with kind := 3, path := raceP, data := d, version := v }, [], []⟩ = ((p.put s 0 (p.tree.txn s (p.idsOf s) ⟨{ rq0 with kind := 3, path := raceP, data := d, version := v }, [], []⟩)).1,
  ⟨{ ((p.put s 0 (p.tree.txn s (p.idsOf s) ⟨{ rq0 with kind := 3, path := raceP, data := d, version := v }, [], []⟩)).1.tree.reply (p.put s 0 (p.tree.txn s (p.idsOf s) ⟨{ rq0 with kind := 3, path := raceP, data := d, version := v }, [], []⟩)).2.zxid (p.put s 0 (p.tree.txn s (p.idsOf s) ⟨{ rq0 with kind := 3, path := raceP, data := d, version := v }, [], []⟩)).2.xid (p.put s 0 (p.tree.txn s (p.idsOf s) ⟨{ rq0 with kind := 3, path := raceP, data := d, version := v }, [], []⟩)).2.t).p with xid := 0, zxid := (p.put s 0 (p.tree.txn s (p.idsOf s) ⟨{ rq0 with kind := 3, path := raceP, data := d, version := v }, [], []⟩)).1.tree.zxid }, ((p.put s 0 (p.tree.txn s (p.idsOf s) ⟨{ rq0 with kind := 3, path := raceP, data := d, version := v }, [], []⟩)).1.tree.reply (p.put s 0 (p.tree.txn s (p.idsOf s) ⟨{ rq0 with kind := 3, path := raceP, data := d, version := v }, [], []⟩)).2.zxid (p.put s 0 (p.tree.txn s (p.idsOf s) ⟨{ rq0 with kind := 3, path := raceP, data := d, version := v }, [], []⟩)).2.xid (p.put s 0 (p.tree.txn s (p.idsOf s) ⟨{ rq0 with kind := 3, path := raceP, data := d, version := v }, [], []⟩)).2.t).subs⟩, 0) := by
  unfold Svc.call
  rw [if_neg (by rw [hth]; simp), if_pos (by first | decide | (simp; done) | (simp [Tree.changes]; done))]
  rfl
 refine ⟨_, _, _, hcall, fun hve => ?_, fun hve => ?_⟩
 ·rw [htx, if_pos hve]
  obtain ⟨z, hz⟩ : ∃ z : Int, 4294967296 + (p.order.length : Int) + 1 = z := ⟨_, rfl⟩
  have hap : p.tree.apply z ⟨3, raceP, d, [], 0, ver + 1, 0⟩ [] = (⟨putK p.tree.nodes raceP { n with data := d, st := { n.st with version := ver + 1, mzxid := z } }, p.tree.sessions, z⟩, [⟨3, raceP, z⟩], 0) := by
   rw [apply_of ⟨by show (0 : Int) ≤ 3; omega, by show (3 : Int) ≤ 4; omega⟩]
   unfold Tree.part
   rw [if_neg (by first | decide | (simp; done) | (simp [Tree.changes]; done)), if_neg (by first | decide | (simp; done) | (simp [Tree.changes]; done))]
   have : ({ p.tree with zxid := z } : Tree).node raceP = some n := hn
   simp only [this, if_true]
  have hput : p.put s 0 ⟨⟨3, raceP, d, [], 0, ver + 1, 0⟩, []⟩ = (⟨⟨putK p.tree.nodes raceP { n with data := d, st := { n.st with version := ver + 1, mzxid := z } }, p.tree.sessions, z⟩, (Watch.fire p.watches [⟨3, raceP, z⟩]).1, p.order ++ [⟨z, s, 0, ⟨⟨3, raceP, d, [], 0, ver + 1, 0⟩, []⟩⟩], p.opened, p.ids, (Watch.fire p.watches [⟨3, raceP, z⟩]).2.foldl Svc.tell p.events⟩, ⟨z, s, 0, ⟨⟨3, raceP, d, [], 0, ver + 1, 0⟩, []⟩⟩) := by
   unfold Svc.put
   simp only [hz, hap]
   rw [if_neg (by first | decide | (simp; done) | (simp [Tree.changes]; done))]
  rw [hput]
  have hnode : (⟨putK p.tree.nodes raceP { n with data := d, st := { n.st with version := ver + 1, mzxid := z } }, p.tree.sessions, z⟩ : Tree).node raceP = some { n with data := d, st := { n.st with version := ver + 1, mzxid := z } } := by
   unfold Tree.node
   rw [getK_putK, if_pos rfl]
  have hrep : ∀ T : Tree, T.node raceP = some { n with data := d, st := { n.st with version := ver + 1, mzxid := z } } → (T.reply z 0 ⟨⟨3, raceP, d, [], 0, ver + 1, 0⟩, []⟩).p.err = 0 ∧ (T.reply z 0 ⟨⟨3, raceP, d, [], 0, ver + 1, 0⟩, []⟩).p.st.version = ver + 1 ∧ (T.reply z 0 ⟨⟨3, raceP, d, [], 0, ver + 1, 0⟩, []⟩).p.length = d.size := by
   intro T hT
   unfold Tree.reply
   simp only
   rw [if_neg (by first | decide | (simp; done) | (simp [Tree.changes]; done)), if_neg (by first | decide | (simp; done) | (simp [Tree.changes]; done))]
   unfold Tree.told
   simp only
   rw [if_neg (by first | decide | (simp; done) | (simp [Tree.changes]; done)), if_pos (by first | decide | (simp; done) | (simp [Tree.changes]; done))]
   unfold Tree.Rp1.put
   rw [hT]
   exact ⟨rfl, rfl, rfl⟩
  obtain ⟨r1, r2, r3⟩ := hrep _ hnode
  refine ⟨r1, r2, r3, ⟨fun t ht1 ht4 => h.four t ht1 ht4, ⟨_, hnode, ha, rfl⟩⟩⟩
 ·rw [htx, if_neg hve]
  obtain ⟨z, hz⟩ : ∃ z : Int, 4294967296 + (p.order.length : Int) + 1 = z := ⟨_, rfl⟩
  have hput : p.put s 0 (Tree.refusal 66 (-1)) = (⟨{ p.tree with zxid := z }, p.watches, p.order ++ [⟨z, s, 0, Tree.refusal 66 (-1)⟩], p.opened, p.ids, p.events⟩, ⟨z, s, 0, Tree.refusal 66 (-1)⟩) := by
   unfold Svc.put
   simp only [hz]
   rfl
  rw [hput]
  exact ⟨rfl, ⟨fun t ht1 ht4 => h.four t ht1 ht4, ⟨n, hn, ha, hv⟩⟩⟩
open Go.RowKit
namespace A
end A
theorem txn_partP {T : Tree} {s : Int} (hth : (getK T.sessions s).isSome = true) (ids : List ByteArray) (X : Rq) (h : X.r.kind = 1 ∨ X.r.kind = 3 ∨ X.r.kind = 4) :
 T.txn s ids X = if (T.partTx s ids X.r).2 ≠ 0 then Tree.refusal (T.partTx s ids X.r).2 (-1) else ⟨(T.partTx s ids X.r).1, []⟩ := by
 have hc : Tree.changes X.r.kind = true := by rcases h with h | h | h <;> rw [h] <;> decide
 unfold Tree.txn
 rw [if_neg (by rw [hc]; decide), if_neg (isNone_of hth), if_neg (by omega), if_neg (by omega), if_neg (by omega)]
def aclW (a : ARow) : W.Acl := ⟨a.1, a.2⟩
def TxR.wire (r : TxR) : W.Txn := ⟨r.x.kind, r.x.path, r.x.data, r.x.acl.map aclW, r.aa, r.ac, r.x.owner, r.x.number, r.x.err, r.sa, r.sn, r.sc⟩
def EnR.wire (E : EnR) : W.Ent := ⟨E.zxid, E.session, E.xid, E.r.wire, E.subs.map TxR.wire⟩
theorem acl_cells (l : List ARow) : (l.map aclW).flatMap W.Acl.cells = l.flatMap ARow.cells := by
 rw [List.flatMap_map]; rfl
theorem txr_cells (r : TxR) : r.wire.cells = r.cells := by
 unfold TxR.wire W.Txn.cells TxR.cells
 rw [List.length_map]
theorem enr_cells (E : EnR) : E.wire.cells = E.cells := by
 unfold EnR.wire W.Ent.cells EnR.cells TxR.cells TxR.wire
 simp only [List.length_map]
 rfl
structure Tx.carried (x : Tx) : Prop where
 kind : okInt x.kind
 owner : okInt x.owner
 number : okInt x.number
 err : okInt x.err
 path : x.path.size ≤ 1000000
 data : x.data.size ≤ 1000000
 acl : x.acl.length ≤ 1000
 rows : ∀ a ∈ x.acl, okInt a.1 ∧ a.2.size ≤ 1000000
structure En.carried (e : En) : Prop where
 zxid : okInt e.zxid
 session : okInt e.session
 xid : okInt e.xid
 x : e.t.x.carried
 few : e.t.subs.length ≤ 1000
 all : ∀ y ∈ e.t.subs, y.carried
theorem flat_le {α : Type} (f : α → List UInt8) (n : Nat) : ∀ l : List α, (∀ a ∈ l, (f a).length ≤ n) → (l.flatMap f).length ≤ l.length * n
 | [], _ => by simp
 | a :: l, h => by
   have h1 := flat_le f n l (fun b hb => h b (List.mem_cons_of_mem _ hb))
   have h2 := h a List.mem_cons_self
   rw [List.flatMap_cons, List.length_append, List.length_cons, Nat.add_mul]
   omega
theorem numB_le (n : Int) (h : okInt n) : (W.numB n).length ≤ 10 := by
 exact W.numB_len h
theorem txtB_len {s : ByteArray} (h : s.size ≤ 1000000) : (W.txtB s).length ≤ 10 + s.size := by
 unfold W.txtB
 have h1 := W.sevens_length 10 s.size (by omega) (by omega)
 have h2 : s.data.toList.length = s.size := Array.length_toList
 rw [List.length_append, h2]
 omega
theorem acl_len {a : ARow} (h : okInt a.1 ∧ a.2.size ≤ 1000000) : (W.Acl.bytes (aclW a)).length ≤ 1000020 := by
 show (W.numB a.1 ++ W.txtB a.2).length ≤ 1000020
 have h1 := numB_le a.1 h.1
 have h2 := txtB_len h.2
 rw [List.length_append]
 omega
theorem tx_len {r : TxR} (h : r.x.carried) : (W.Txn.bytes r.wire).length ≤ 1100000000 := by
 show (W.numB r.x.kind ++ W.txtB r.x.path ++ W.txtB r.x.data ++ W.listB W.Acl.bytes (r.x.acl.map aclW) ++ W.numsB [r.x.owner, r.x.number, r.x.err]).length ≤ _
 have h1 := numB_le _ h.kind
 have h2 := txtB_len h.path
 have h3 := txtB_len h.data
 have h4 : (W.listB W.Acl.bytes (r.x.acl.map aclW)).length ≤ 10 + 1000 * 1000020 := by
  unfold W.listB
  have g1 := W.sevens_length 10 (r.x.acl.map aclW).length (by rw [List.length_map]; have := h.acl; omega) (by omega)
  have g2 := flat_le W.Acl.bytes 1000020 (r.x.acl.map aclW) (fun a ha => by obtain ⟨b, hb, rfl⟩ := List.mem_map.1 ha; exact acl_len (h.rows b hb))
  have g3 : (r.x.acl.map aclW).length * 1000020 ≤ 1000 * 1000020 := Nat.mul_le_mul_right _ (by rw [List.length_map]; exact h.acl)
  rw [List.length_append]
  omega
 have h5 : (W.numsB [r.x.owner, r.x.number, r.x.err]).length ≤ 30 := by
  show (W.numB r.x.owner ++ (W.numB r.x.number ++ (W.numB r.x.err ++ []))).length ≤ 30
  have g1 := numB_le _ h.owner
  have g2 := numB_le _ h.number
  have g3 := numB_le _ h.err
  simp only [List.length_append, List.length_nil]
  omega
 have := h.path
 have := h.data
 simp only [List.length_append]
 omega
theorem tx_ok {r : TxR} {w : World} (h : r.x.carried) (ho : r.ok w) : W.Txn.ok w r.wire := by
 refine ⟨h.kind, h.owner, h.number, h.err, ?_, fun a ha => ?_⟩
 ·show Rd w 2 r.aa (r.x.acl.map aclW).length r.ac ((r.x.acl.map aclW).flatMap W.Acl.cells)
  rw [acl_cells, List.length_map]
  exact ho
 ·obtain ⟨b, hb, rfl⟩ := List.mem_map.1 ha
  exact (h.rows b hb).1
theorem en_ok {E : EnR} {w : World} (h : E.en.carried) (hn : E.subs.length = E.r.sn) (ho : E.ok w) : E.wire.ok w := by
 have hall : ∀ s ∈ E.subs, s.x.carried := fun s hs => h.all _ (List.mem_map_of_mem (f := TxR.x) hs)
 refine ⟨h.zxid, h.session, h.xid, tx_ok h.x ho.r, ?_, ?_, fun a ha => ?_⟩
 ·show E.r.sn = (E.subs.map TxR.wire).length
  rw [List.length_map, hn]
 ·show Rd w 8 E.r.sa (E.subs.map TxR.wire).length E.r.sc ((E.subs.map TxR.wire).flatMap W.Txn.cells)
  rw [List.length_map, hn, List.flatMap_map]
  have : (fun r : TxR => W.Txn.cells r.wire) = TxR.cells := funext txr_cells
  rw [this]
  exact ho.rd
 ·obtain ⟨b, hb, rfl⟩ := List.mem_map.1 ha
  exact tx_ok (hall b hb) (ho.all b hb)
theorem en_len {E : EnR} (h : E.en.carried) : (W.Ent.bytes E.wire).length ≤ 2000000000000 := by
 have hall : ∀ s ∈ E.subs, s.x.carried := fun s hs => h.all _ (List.mem_map_of_mem (f := TxR.x) hs)
 show (W.numsB [E.zxid, E.session, E.xid] ++ W.Txn.bytes E.r.wire ++ W.listB W.Txn.bytes (E.subs.map TxR.wire)).length ≤ _
 have h1 : (W.numsB [E.zxid, E.session, E.xid]).length ≤ 30 := by
  show (W.numB E.zxid ++ (W.numB E.session ++ (W.numB E.xid ++ []))).length ≤ 30
  have g1 := numB_le E.zxid h.zxid
  have g2 := numB_le E.session h.session
  have g3 := numB_le E.xid h.xid
  simp only [List.length_append, List.length_nil]
  omega
 have h2 := tx_len h.x
 have hfew : E.subs.length ≤ 1000 := by have := h.few; simpa [EnR.en, EnR.subsX] using this
 have h3 : (W.listB W.Txn.bytes (E.subs.map TxR.wire)).length ≤ 10 + 1000 * 1100000000 := by
  unfold W.listB
  have g1 := W.sevens_length 10 (E.subs.map TxR.wire).length (by rw [List.length_map]; omega) (by omega)
  have g2 := flat_le W.Txn.bytes 1100000000 (E.subs.map TxR.wire) (fun a ha => by obtain ⟨b, hb, rfl⟩ := List.mem_map.1 ha; exact tx_len (hall b hb))
  have g3 : (E.subs.map TxR.wire).length * 1100000000 ≤ 1000 * 1100000000 := Nat.mul_le_mul_right _ (by rw [List.length_map]; exact hfew)
  rw [List.length_append]
  omega
 simp only [List.length_append]
 have h2' : (W.Txn.bytes E.r.wire).length ≤ 1100000000 := h2
 omega
theorem clipEn_any (a : Option Addr) (n cap : Nat) (w : World) (hp : a = none ∨ ∃ b off, a = some ⟨b, off, none⟩) (hn : n ≤ cap) (hm : cap ≤ maxLen) :
 Calls Tryz.prog 39 #[.slice a n cap] w (fun e w' => e = .returned (.slice a n n) ∧ w' = w) := by
 have h63 : n ≤ 9223372036854775807 := by unfold maxLen at hm; omega
 have HP := Lib.hid hp
 clear hp
 go_enter Tryz.func39, Tryz.ntmps39
 go_wp2_with ((with_reducible refine at_list ?_); refine wpList_clip 63 11 (by kernel_rfl) (by kernel_rfl) (by kernel_rfl) a n cap rfl rfl rfl HP.out hn hm ?_)
 go_ret
 exact ⟨rfl, rfl⟩
theorem order_any {w0 w : World} {l : List Thing} (pb : Nat) (p : Svc) (h : St w0 w (svc pb p :: l)) (hc : ∀ e ∈ p.order, e.carried) (hlen : p.order.length ≤ 100000) :
 Calls Tryz.prog 14 #[.pointer (some ⟨pb, 0, none⟩)] w (fun e w' => ∃ a cap, e = .returned (.slice a p.order.length cap) ∧ St w0 w' (svc pb p :: l)) := by
 obtain ⟨d, hd, hS⟩ := h.openS
 obtain ⟨ip, iz, hi1, hi2, hi3, hi4, hi5⟩ := info_rowT infoEnR
 have HI := Lib.hid (And.intro hi1 (And.intro hi2 (And.intro hi3 (And.intro hi4 hi5))))
 clear hi1 hi2 hi3 hi4 hi5
 obtain ⟨n, hn⟩ : ∃ n, d.L.length = n := ⟨_, rfl⟩
 have hpn : p.order.length = n := by rw [hd.order, List.length_map, hn]
 have hcc : ∀ E ∈ d.L, E.en.carried ∧ E.subs.length = E.r.sn := fun E hE => ⟨hc _ (by rw [hd.order]; exact List.mem_map_of_mem hE), hd.subs E hE⟩
 rw [hpn] at hlen ⊢
 have c2 : w.cell? ⟨pb, 2, none⟩ = some (.slice d.oa n d.oc) := by rw [← hn]; exact blk_cell (hS.box 0 rfl) 2 _ rfl
 have zp := heap_lt (hS.box 0 rfl)
 have h63 : n ≤ 9223372036854775807 := by omega
 have HS := Lib.hid (hS.nilSlice 63 11)
 have HD := Lib.hid (And.intro hd (And.intro hn (And.intro hlen hcc)))
 clear h hS hn hpn hcc hc hlen hd
 go_enter Tryz.func14, Tryz.ntmps14
 go_wp2
 go_loopg [3, 11] n (fun g y3 y wr => ∃ (k : Nat) (oa : Option Addr) (oc : Nat) (cs : List Value), k + g = n ∧ y = .int .i64 k ∧ y3 = .slice oa k oc ∧ St w0 wr (sl 63 11 oa k oc cs :: (d.things pb p ++ l)))
 case atStart => exact ⟨0, none, 0, [], by omega, rfl, rfl, HS.out⟩
 case round =>
  clear HS
  obtain ⟨k, oa, oc, cs, hkg, rfl, rfl, hS⟩ := hrel
  by_cases hlt : k < n
  ·have hx : d.L[k]? = some (d.L[k]'(by rw [HD.out.2.1]; exact hlt)) := List.getElem?_eq_getElem _
   obtain ⟨E, hxx⟩ : ∃ x, d.L[k]'(by rw [HD.out.2.1]; exact hlt) = x := ⟨_, rfl⟩
   rw [hxx] at hx
   have hmem := List.mem_of_getElem? hx
   obtain ⟨b, o, hfa, hbl, hcl⟩ := (hS.slice 4 rfl).rd.elem (k := 11) EnR.cells (fun _ => rfl) (by omega) hx
   have HCC : Hid (∀ j u, E.cells[j]? = some u → wr.cell? ((⟨b, o + k * 11, none⟩ : Addr).add j) = some u) := Lib.hid (fun j u hj => by rw [add_none]; exact hcl j u hj)
   have hE := HD.out.2.2.2 E hmem
   have hok : E.ok wr := St.entOk hS.tail hmem
   have CPE : Hid (∀ w', Mod (fun _ => False) wr w' → Calls Tryz.prog 38 #[.agg E.cells.toArray] w' (W.TextPost (W.Ent.bytes E.wire) w')) := Lib.hid (fun w' hm => by
    have := W.PutEntry_any E.wire w' (W.Ent.okmod (en_ok hE.1 hE.2 hok) hm) (by have := en_len hE.1; unfold W.bfits; omega)
    rw [enr_cells] at this
    exact this)
   have CGE : Hid (∀ w' G, St w0 w' G → Calls Tryz.prog 37 #[.string ⟨(W.Ent.bytes E.wire).toArray⟩] w' (W.GetG W.Ent.cells W.Ent.fine W.Ent.things (W.qEnt (⟨(W.Ent.bytes E.wire).toArray⟩ : ByteArray).data.toList) W.Ent.bytes W.Ent.zero ⟨(W.Ent.bytes E.wire).toArray⟩ w0 G)) := Lib.hid (fun w' G h' => W.GetEntry_st _ (by have := en_len hE.1; show W.bfits (W.Ent.bytes E.wire).toArray.size; rw [List.size_toArray]; unfold W.bfits; omega) h')
   have hkl := HD.out.2.2.1
   have HKL : Hid (k < n ∧ n ≤ 100000) := Lib.hid ⟨hlt, hkl⟩
   have HNB := Lib.hid (hS.box1 #[.int .i64 0, .int .i64 0, .int .i64 0, .int .i64 0, .string ⟨#[]⟩, .string ⟨#[]⟩, .slice none 0 0, .int .i64 0, .int .i64 0, .int .i64 0, .slice none 0 0] 63)
   have T1 := Lib.hid trivial
   have HFA := Lib.hid hfa
   rw [hfa]
   clear hfa
   clear hx hxx hmem hcl hE hok hS hkl
   go_upto_region 6 with (first
    | ((with_reducible refine at_list ?_); have T2 := T1; clear T1; refine wpList_load_chunk 11 _ Tryz.underlying63 rfl sizeEnT ⟨b, o + k * 11, none⟩ rfl E.cells rfl HCC.out ?_)
    | ((with_reducible refine at_list ?_); have T3 := T2; clear T2; refine wpList_store_whole 11 sizeEnT wr.heap.size rfl _ _ (HNB.out.box 0 rfl) rfl E.cells rfl rfl rfl ?_; intro w5 hg5 hM5 hz5; have H5 := Lib.hid (HNB.out.rebox 0 rfl hg5 hM5); have HM5 := Lib.hid (((Mod.refl (fun _ => False) wr).alloc _).then hM5 (fun x hx he => by omega)); clear hg5 hM5 hz5)
    | ((with_reducible refine at_list ?_); have T4 := T3; clear T3; refine wpList_load_chunk 11 _ Tryz.underlying63 rfl sizeEnT ⟨wr.heap.size, 0, none⟩ rfl E.cells rfl (box_from0 [] _ (H5.out.box 0 rfl)) ?_)
    | (go_at_call 38; refine (CPE.out _ HM5.out).mono ?_; rintro e w6 ⟨rfl, hM6⟩; have H6 := Lib.hid (H5.out.mod hM6); clear hM6)
    | (go_at_call 37; refine (CGE.out _ _ H6.out).mono ?_; rintro e w7 ⟨v, E7, rfl, hv7, hS7⟩; have H7 := Lib.hid hS7.tail; clear hv7 hS7)
    | ((with_reducible refine at_list ?_); have T5 := T4; clear T4; refine wpList_store_whole 11 sizeEnT wr.heap.size rfl _ _ (H7.out.box 0 rfl) rfl (W.Ent.cells v) rfl rfl rfl ?_; intro w8 hg8 hM8 hz8; have H8 := Lib.hid (H7.out.rebox 0 rfl hg8 hM8); clear hg8 hM8 hz8))
   obtain ⟨v1, v2, v3, ⟨v4, v5, v6, v7, v8, v9, v10, v11, v12, v13, v14, v15⟩, v16⟩ := v
   have H9 : Hid (St w0 w8 (bx wr.heap.size ([.int .i64 v1, .int .i64 v2, .int .i64 v3, .int .i64 v4, .string v5, .string v6, .slice v8 v7.length v9, .int .i64 v10, .int .i64 v11, .int .i64 v12, .slice v13 v14 v15] : List Value).toArray 63 :: sl 63 11 oa k oc cs :: (d.things pb p ++ l))) := Lib.hid H8.out
   simp only [W.Ent.cells] at H7 ⊢
   clear H8 H7 H6 H5 HM5 HNB HCC CPE CGE
   generalize wr.heap.size = xb at H9 ⊢
   have HN := Lib.hid (H9.out.mod ((Mod.refl (fun _ => False) w8).alloc (.cells (([.int .i64 v1, .int .i64 v2, .int .i64 v3, .int .i64 v4, .string v5, .string v6, .slice v8 v7.length v9, .int .i64 v10, .int .i64 v11, .int .i64 v12, .slice v13 v14 v15] : List Value).toArray) 63)))
   go_wp2_with (first
    | ((with_reducible refine at_list ?_); have T6 := T5; clear T5; refine wpList_load_chunk 11 _ Tryz.underlying63 rfl sizeEnT ⟨xb, 0, none⟩ rfl ([.int .i64 v1, .int .i64 v2, .int .i64 v3, .int .i64 v4, .string v5, .string v6, .slice v8 v7.length v9, .int .i64 v10, .int .i64 v11, .int .i64 v12, .slice v13 v14 v15] : List Value) rfl (box_from0 [] _ (H9.out.box 0 rfl)) ?_)
    | (at_builtin; refine wpList_append 63 ip iz 11 136 (by kernel_rfl) HI.out.1 HI.out.2.1 HI.out.2.2.1 HI.out.2.2.2.1 HI.out.2.2.2.2 oa k oc cs rfl (HN.out.slice 1 rfl) (some ⟨w8.heap.size, 0, none⟩) 1 1 ([.int .i64 v1, .int .i64 v2, .int .i64 v3, .int .i64 v4, .string v5, .string v6, .slice v8 v7.length v9, .int .i64 v10, .int .i64 v11, .int .i64 v12, .slice v13 v14 v15] : List Value) rfl (Sl.new (E := 63) (k := 11) (n := 1) (heap_alloc_new w8 _) rfl (by unfold maxLen; omega)).rd (fun u hu => List.all_eq_true.1 (show ([.int .i64 v1, .int .i64 v2, .int .i64 v3, .int .i64 v4, .string v5, .string v6, .slice v8 v7.length v9, .int .i64 v10, .int .i64 v11, .int .i64 v12, .slice v13 v14 v15] : List Value).all (·.oneCell') = true from rfl) u hu) (by have := HKL.out; unfold maxLen; omega) (by have := HKL.out; omega) ?_; intro a9 cap9 w9 hS9 hM9 hF9 hN9 hR9; have H10 := Lib.hid (HN.out.regrow 1 rfl hS9 hM9 hF9); clear hS9 hM9 hF9 hN9 hR9))
   rw [← HFA.out]
   go_roundg (n - (k + 1))
   case measure => omega
   case rel =>
    refine ⟨k + 1, a9, cap9, _, by omega, by simp, by simp, H10.out.tail⟩
  ·have hkn : k = n := by omega
   subst hkn
   have HS := Lib.hid hS
   have hsl := hS.slice 0 rfl
   have CL := Lib.hid (fun w' => clipEn_any oa k oc w' hsl.plain hsl.2.1 hsl.2.2.1)
   clear hS hsl
   go_wp2_with (go_at_call 39; refine (CL.out _).mono ?_; rintro e w3 ⟨rfl, rfl⟩)
   go_ret
   exact ⟨_, _, rfl, St.shutS d HD.out.1 HS.out.tail⟩
open Go.RowKit
def wholeA : ByteArray := ⟨#[47, 97]⟩
def wholeR : Rq := ⟨{ rq0 with kind := 1, path := wholeA, acl := [(31, world)] }, [], []⟩
def svc1 : Svc := (Svc.new.openS 10).1
theorem svc1_good : svc1.good 1 1024 := openS_good new_good (by omega) 10
theorem svc1_opens : (Svc.new.openS 10).2 = (1, 0) := by rfl
theorem svc1_there : svc1.there 1 = true := by rfl
def wholeX : Tx2 := ⟨⟨1, wholeA, ⟨#[]⟩, [(31, world)], 0, 1, 0⟩, []⟩
theorem whole_txn : svc1.tree.txn 1 (svc1.idsOf 1) wholeR = wholeX := by
 have hmay : svc1.tree.mayAt (svc1.idsOf 1) (parentB wholeA) 4 = true := by
  unfold Tree.mayAt
  have : svc1.tree.node (parentB wholeA) = some Tree.root0 := by rfl
  rw [this]
  exact may_world _ 4 (by omega) (by omega)
 have hm : svc1.tree.partTx 1 (svc1.idsOf 1) wholeR.r = (⟨1, wholeA, ⟨#[]⟩, [(31, world)], 0, 1, 0⟩, 0) := by
  unfold Tree.partTx
  rw [if_pos (show wholeR.r.kind = 1 from rfl)]
  unfold Tree.mkTx
  have h1 : wholeR.r.path = wholeA := rfl
  rw [h1]
  simp only [hmay]
  rfl
 rw [txn_partP (by rfl) _ _ (.inl rfl), hm]
 rfl
theorem whole_call : (svc1.call 1 wholeR).2.2 = 0 ∧ (svc1.call 1 wholeR).2.1.p.err = 0 ∧ (svc1.call 1 wholeR).2.1.p.path = wholeA ∧ (svc1.call 1 wholeR).1.order = [⟨4294967297, 1, 0, ⟨⟨5, ⟨#[]⟩, ⟨#[]⟩, [], 1, 10, 0⟩, []⟩⟩, ⟨4294967298, 1, 0, wholeX⟩] := by
 have e : svc1.call 1 wholeR = ((svc1.put 1 0 wholeX).1, ⟨{ ((svc1.put 1 0 wholeX).1.tree.reply (svc1.put 1 0 wholeX).2.zxid (svc1.put 1 0 wholeX).2.xid (svc1.put 1 0 wholeX).2.t).p with xid := 0, zxid := (svc1.put 1 0 wholeX).1.tree.zxid }, ((svc1.put 1 0 wholeX).1.tree.reply (svc1.put 1 0 wholeX).2.zxid (svc1.put 1 0 wholeX).2.xid (svc1.put 1 0 wholeX).2.t).subs⟩, 0) := by
  unfold Svc.call
  rw [if_neg (by rw [svc1_there]; decide), if_pos (by decide), whole_txn]
  rfl
 rw [e]
 exact ⟨rfl, by rfl, by rfl, by rfl⟩
theorem whole_carried : ∀ e ∈ (svc1.call 1 wholeR).1.order, e.carried := by
 rw [whole_call.2.2.2]
 intro e he
 simp only [List.mem_cons, List.not_mem_nil, or_false] at he
 have hw : world.size ≤ 1000000 := by decide
 rcases he with rfl | rfl
 ·exact ⟨by unfold okInt; simp, by unfold okInt; simp, by unfold okInt; simp, ⟨by unfold okInt; simp, by unfold okInt; simp, by unfold okInt; simp, by unfold okInt; simp, by decide, by decide, by decide, fun a ha => (by cases ha)⟩, by decide, fun y hy => (by cases hy)⟩
 ·refine ⟨by unfold okInt; simp, by unfold okInt; simp, by unfold okInt; simp, ⟨by unfold okInt; decide, by unfold okInt; decide, by unfold okInt; decide, by unfold okInt; decide, by decide, by decide, by decide, fun a ha => ?_⟩, by decide, fun y hy => (by cases hy)⟩
  have : a = (31, world) := by
   have ha : a ∈ [((31 : Int), world)] := ha
   simpa using ha
  subst this
  exact ⟨by unfold okInt; simp, hw⟩
end Go.Proofs.YtonnbkebjeoflaaGreatDoor
