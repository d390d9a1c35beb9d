/-
  Parts: RfAt, RfMsg, RfOps, RfLead, RfStep, RfCount.
-/
import Derived.Test.YtemimcgomickoaaL04
import Derived.Test.YtemimcgomickoaaL06
import Derived.Test.YtemimcgomickoaaL07
set_option maxRecDepth 20000
set_option linter.unusedVariables false
set_option linter.unusedSimpArgs false
namespace Go.VM
open Go Go.RowKit Go.Proofs
structure LE where
 t : Nat
 d : List UInt8
 deriving DecidableEq
structure Ms where
 kind : Nat
 ok : Bool
 term : Nat
 index : Nat
 at_ : Nat
 commit : Nat
 ents : List LE
 deriving DecidableEq
structure Pk where
 f : Nat
 to : Nat
 d : List UInt8
 deriving DecidableEq
def LER (c : List V) (x : LE) : Prop := ∃ v, c = [.int .u64 (x.t : Nat), v] ∧ IsBytes v x.d
def PkR (c : List V) (p : Pk) : Prop := ∃ v, c = [.int .i64 (p.f : Nat), .int .i64 (p.to : Nat), v] ∧ IsBytes v p.d
def Res.list {α : Type} (R : List V → α → Prop) (sz : Nat) (v : V) (l : List α) (t : Tok) : Res where
 P S := IsSlice R sz v l t ∧ TokOk S t
 own j := t = .at j
 keep h k ho := ⟨h.1, TokOk.keep h.2 k ho⟩
 lt h hj := by subst hj; exact h.2.lt
def Res.row (v : V) (cs : List V) (o : Nat) : Res where
 P S := RowAt S v cs cs.length 1 o
 own j := cs.length ≠ 0 ∧ j = o
 keep h k ho := RowAt.keep h k fun h0 => ho o ⟨h0, rfl⟩
 lt h hj := by
  obtain ⟨h0, rfl⟩ := hj
  rcases h with ⟨h1, _⟩ | ⟨_, _, _, _, h1⟩
  ·exact absurd h1 h0
  ·exact h1
def Res.wal (i g : Nat) (D : Dk) (s : List UInt8) (R : List (List UInt8)) (t : Tok) : Res where
 P S := WalAt S i g D s R t
 own := ownW i g D t
 keep h k ho := h.keep k ho
 lt h hj := h.own_lt hj
abbrev raftN : List UInt8 := [114, 97, 102, 116]
structure RN where
 D : DS
 R : List (List UInt8)
 me : Nat
 n : Nat
 term : Nat
 vote : Int
 log : List LE
 commit : Nat
 role : Nat
 head : Int
 votes : List Bool
 next : List Nat
 mat : List Nat
 idle : Nat
 limit : Nat
 draw : Nat
 out : List Pk
 bad : Bool
def RN.dr (X : RN) (D : DS) (R : List (List UInt8)) : RN := { X with D := D, R := R }
structure RL where
 r : Nat
 g : Nat
 i : Nat
 D : Dk
 tw : Tok
 vl : V
 tl : Tok
 vo : V
 to : Tok
 vv : V
 ov : Nat
 vn : V
 on : Nat
 vm : V
 om : Nat
def natV (n : Nat) : V := .int .i64 (n : Nat)
def RN.cells (X : RN) (L : RL) : List V := [.ptr (some (L.g, 0)), .int .i64 (X.me : Nat), .int .i64 (X.n : Nat), .int .u64 (X.term : Nat), .int .i64 X.vote, L.vl, .int .i64 (X.commit : Nat), .int .u8 (X.role : Nat), .int .i64 X.head, L.vv, L.vn, L.vm,
 .int .i64 (X.idle : Nat), .int .i64 (X.limit : Nat), .int .u64 (X.draw : Nat), L.vo, .bool X.bad]
structure LE.Ok (x : LE) : Prop where
 t : x.t < 9223372036854775808
 d : x.d.length ≤ 200
structure RN.Ok (X : RN) : Prop where
 n0 : 1 ≤ X.n
 n5 : X.n ≤ 5
 me : X.me < X.n
 term : X.term < 9223372036854775808
 v0 : -1 ≤ X.vote
 vn : X.vote < X.n
 log : ∀ x ∈ X.log, x.Ok
 ll : X.log.length ≤ 1000000
 cm : X.commit ≤ 1000000
 role : X.role ≤ 2
 h0 : -1 ≤ X.head
 hn : X.head < X.n
 cand : X.votes.length ≤ X.n
 lead : X.role = 2 → X.next.length = X.n ∧ X.mat.length = X.n
 next : ∀ k ∈ X.next, 1 ≤ k ∧ (X.role = 2 → k ≤ X.log.length + 1) ∧ k ≤ 1000001
 mat : ∀ k ∈ X.mat, (X.role = 2 → k ≤ X.log.length) ∧ k ≤ 1000000
 idle : X.idle ≤ 1000000
 limit : X.limit ≤ 20
 draw : X.draw < 18446744073709551616
 out : X.out.length ≤ 1000000
 rl : X.R.length ≤ 1000000
def parts (L : RL) (X : RN) : List Res := [.cells L.r (X.cells L), .list LER 2 L.vl X.log L.tl, .list PkR 3 L.vo X.out L.to, .row L.vv (X.votes.map V.bool) L.ov, .row L.vn (X.next.map natV) L.on, .row L.vm (X.mat.map natV) L.om, .wal L.i L.g L.D raftN X.R L.tw]
structure RaftAt (S : St) (L : RL) (X : RN) : Prop where
 h : Hold S (parts L X)
 d : X.D = L.D.abs
 ok : X.Ok
def Res.raft (L : RL) (X : RN) : Res where
 P S := RaftAt S L X
 own := (Res.all (parts L X)).own
 keep h k ho := ⟨(Res.all (parts L X)).keep h.h k ho, h.d, h.ok⟩
 lt h hj := (Res.all (parts L X)).lt h.h hj
def RAft (S : St) (L : RL) (X : RN) (S' : St) (L' : RL) (X' : RN) : Prop := Aft S (.raft L X) S' (.raft L' X') ∧ L'.r = L.r ∧ L'.i = L.i
section
variable {S S' S1 : St} {L L' L1 : RL} {X X' X1 : RN}
theorem RAft.w (a : RAft S L X S' L' X') : RaftAt S' L' X' := a.1.p
theorem RAft.refl (h : RaftAt S L X) : RAft S L X S L X := ⟨Aft.refl h, rfl, rfl⟩
theorem RAft.trans (a : RAft S L X S1 L1 X1) (b : RAft S1 L1 X1 S' L' X') : RAft S L X S' L' X' := ⟨a.1.trans b.1, b.2.1.trans a.2.1, b.2.2.trans a.2.2⟩
theorem RAft.new (h : RaftAt S L X) (k : Keeps (fun _ => False) S S') : RAft S L X S' L X := ⟨Aft.new h k, rfl, rfl⟩
theorem RAft.of (h : RaftAt S L X) (a : Aft S (Res.all (parts L X)) S' (Res.all (parts L' X'))) (d : X'.D = L'.D.abs) (ok : X'.Ok) (hr : L'.r = L.r) (hi : L'.i = L.i := by rfl) : RAft S L X S' L' X' := ⟨⟨⟨a.p, d, ok⟩, a.k, a.o⟩, hr, hi⟩
theorem RaftAt.ex (h : RaftAt S L X) : S.cells L.r = some (X.cells L) := (Hold.mem h.h _ (List.mem_cons_self ..)).1
theorem RaftAt.lt (h : RaftAt S L X) : L.r < S.n := (Hold.mem h.h _ (List.mem_cons_self ..)).2
theorem RaftAt.lg (h : RaftAt S L X) : IsSlice LER 2 L.vl X.log L.tl ∧ TokOk S L.tl := Hold.mem h.h (.list LER 2 L.vl X.log L.tl) (by simp [parts])
theorem RaftAt.ou (h : RaftAt S L X) : IsSlice PkR 3 L.vo X.out L.to ∧ TokOk S L.to := Hold.mem h.h (.list PkR 3 L.vo X.out L.to) (by simp [parts])
theorem RaftAt.vv (h : RaftAt S L X) : RowAt S L.vv (X.votes.map V.bool) X.votes.length 1 L.ov := by
 have := Hold.mem h.h (.row L.vv (X.votes.map V.bool) L.ov) (by simp [parts])
 have h2 : RowAt S L.vv (X.votes.map V.bool) (X.votes.map V.bool).length 1 L.ov := this
 rwa [List.length_map] at h2
theorem RaftAt.vn (h : RaftAt S L X) : RowAt S L.vn (X.next.map natV) X.next.length 1 L.on := by
 have := Hold.mem h.h (.row L.vn (X.next.map natV) L.on) (by simp [parts])
 have h2 : RowAt S L.vn (X.next.map natV) (X.next.map natV).length 1 L.on := this
 rwa [List.length_map] at h2
theorem RaftAt.vm (h : RaftAt S L X) : RowAt S L.vm (X.mat.map natV) X.mat.length 1 L.om := by
 have := Hold.mem h.h (.row L.vm (X.mat.map natV) L.om) (by simp [parts])
 have h2 : RowAt S L.vm (X.mat.map natV) (X.mat.map natV).length 1 L.om := this
 rwa [List.length_map] at h2
theorem RaftAt.w (h : RaftAt S L X) : WalAt S L.i L.g L.D raftN X.R L.tw := Hold.mem h.h (.wal L.i L.g L.D raftN X.R L.tw) (by simp [parts])
theorem RaftAt.stay (h : RaftAt S L X) (k : Keeps (fun _ => False) S S') : RaftAt S' L X := (Res.raft L X).keep h k fun _ _ => id
theorem RaftAt.keep {o : Nat → Prop} (h : RaftAt S L X) (k : Keeps o S S') (ho : ∀ j, (Res.raft L X).own j → ¬ o j) : RaftAt S' L X := (Res.raft L X).keep h k ho
theorem RaftAt.put (h : RaftAt S L X) (hd : X'.D = X.D) (hl : X'.log = X.log) (hou : X'.out = X.out) (hvo : X'.votes = X.votes) (hne : X'.next = X.next) (hma : X'.mat = X.mat) (hR : X'.R = X.R) (ok : X'.Ok) {cs : List V} (hcs : cs = X'.cells L) : RAft S L X (S.set L.r (.cells cs)) L X' := by
 subst hcs
 refine RAft.of h ?_ (hd.trans h.d) ok rfl
 unfold parts
 rw [hl, hou, hvo, hne, hma, hR]
 exact Aft.part h.h (List.Perm.refl _) (Aft.set h.h.head) (List.Perm.refl _)
theorem RaftAt.wal {D' : Dk} {t' : Tok} {R' : List (List UInt8)} (h : RaftAt S L X) (a : WAfter S L.i L.g L.D L.tw S' D' t' raftN R') (hr : R'.length ≤ 1000000) : RAft S L X S' { L with D := D', tw := t' } (X.dr D'.abs R') := by
 have hk := h.ok
 refine RAft.of h ?_ rfl ⟨hk.n0, hk.n5, hk.me, hk.term, hk.v0, hk.vn, hk.log, hk.ll, hk.cm, hk.role, hk.h0, hk.hn, hk.cand, hk.lead, hk.next, hk.mat, hk.idle, hk.limit, hk.draw, hk.out, hr⟩ rfl
 exact Aft.part (x := .wal L.i L.g L.D raftN X.R L.tw) (y := .wal L.i L.g D' raftN R' t') h.h (List.perm_middle (l₁ := [_, _, _, _, _, _]) (l₂ := [])) ⟨a.w, a.k, a.o⟩ (List.perm_middle (l₁ := [_, _, _, _, _, _]) (l₂ := []))
end
end Go.VM
namespace Go.VM
open Go Go.RowKit Go.Proofs
theorem toN0 : Int.toNat 0 = 0 := (rfl)
theorem toN1 : Int.toNat 1 = 1 := (rfl)
theorem lt12 : ((1 : Nat) < 2) = True := eq_true (by decide)
theorem wi_bs1 {cl : Cl} {fr : Fr} {S : St} {K : Fr → St → Prop} {Kp : V → St → Prop} (dst : Option Nat) (n sz : Nat) (z : List V) (ps : List (Nat × Nat × Arg)) (r : List Item) : wItems cl (.run ⟨dst, none, .e (.buildSlice n sz 1 z ps)⟩ :: r) fr S K Kp = match fillV fr z ps with
  | some cs => wItems cl r (fr.put dst (.msl S.n 0 n sz)) (S.add (.cells cs)) K Kp
  | none => False := by
 simp only [wItems, wItem, wanted, wE]
 cases fillV fr z ps <;> rfl
theorem wi_strB {cl : Cl} {fr : Fr} {S : St} {K : Fr → St → Prop} {Kp : V → St → Prop} {dst : Option Nat} {x : Arg} {r : List Item} {l : List UInt8} (hx : x.ev fr = .str (mkS l))
  (h : ∀ t, t ≠ .nil → wItems cl r (fr.put dst (.sl (l.map u8V) l.length 1 t)) (S.add .tok) K Kp) : wItems cl (.run ⟨dst, none, .e (.strBytes x)⟩ :: r) fr S K Kp := by
 refine wi_e ?_
 simp only [wE, hx, mkS_data, mkS_size]
 exact h (.at S.n) (by simp)
def leB (x : LE) : List UInt8 := uvar x.t ++ textB x.d
def msB (m : Ms) : List UInt8 := [UInt8.ofNat m.kind, if m.ok then 1 else 0] ++ [m.term, m.index, m.at_, m.commit, m.ents.length].flatMap uvar ++ m.ents.flatMap leB
def Ms.v (m : Ms) (ve : V) : List V := [.int .u8 (m.kind : Nat), .int .u64 (m.term : Nat), .int .u64 (m.index : Nat), .int .u64 (m.at_ : Nat), .int .u64 (m.commit : Nat), .bool m.ok, ve]
structure Ms.Ok (m : Ms) : Prop where
 kind : m.kind < 256
 term : m.term < 18446744073709551616
 index : m.index < 18446744073709551616
 at_ : m.at_ < 18446744073709551616
 commit : m.commit < 18446744073709551616
 n : m.ents.length ≤ 1000000
 ents : ∀ x ∈ m.ents, x.Ok
def BM (S0 S : St) (v : V) (bs : List UInt8) : Prop := BT S0 S v bs ∨ ∃ o, v = .msl o 0 bs.length 1 ∧ S.cells o = some (bs.map u8V) ∧ o < S.n ∧ S0.n ≤ o
theorem BM.keep {S0 S S' : St} {v : V} {bs : List UInt8} (h : BM S0 S v bs) (k : Keeps (fun _ => False) S S') : BM S0 S' v bs := by
 rcases h with h | ⟨o, h1, h2, h3, h4⟩
 ·exact .inl (h.keep k)
 ·exact .inr ⟨o, h1, k.cells h2 h3 id, k.lt h3, h4⟩
theorem wi_appendBM {cl : Cl} {fr : Fr} {S S0 : St} {K : Fr → St → Prop} {Kp : V → St → Prop} {dst : Option Nat} {s x : Arg} {r : List Item} {v : V} {bs cs : List UInt8}
  (hs : s.ev fr = v) (hv : BM S0 S v bs) (hx : (x.ev fr).elems S 1 = some (cs.length, cs.map u8V)) (hr : bs.length + cs.length ≤ 140000000000000)
  (k : Keeps (fun _ => False) S0 S) (hK : ∀ v' S', Keeps (fun _ => False) S0 S' → BT S0 S' v' (bs ++ cs) → (∀ i cs, S.cells i = some cs → i < S.n → (∀ n, v ≠ .msl i 0 n 1) → S'.cells i = some cs ∧ i < S'.n) → wItems cl r (fr.put dst v') S' K Kp) :
  wItems cl (.run ⟨dst, none, .e (.append 1 1 false s x)⟩ :: r) fr S K Kp := by
 rcases hv with hv | ⟨o, rfl, h2, h3, h4⟩
 ·exact wi_appendBT hs hv hx hr k fun v' S' k' b' p => hK v' S' k' b' fun i cs hc hi _ => p i cs hc hi
 ·refine wi_e ?_
  have e1 : roomOk (bs.length + cs.length) 1 = true := by simp [roomOk]; omega
  simp only [wE, hx, hs, appendTo, e1, h2, ne_eq, not_true_eq_false, Nat.mul_one, List.length_map, Bool.true_eq_false, or_self, ↓reduceIte, Option.bind_some, Nat.zero_add, Nat.le_refl, grown, List.drop_zero, Bool.false_eq_true]
  have et : (bs.map u8V).take bs.length = bs.map u8V := List.take_of_length_le (by simp)
  have kk : Keeps (fun _ => False) S0 ((S.kill o).add .tok) := (k.kill (.inr h4)).add _
  rw [et, ← List.map_append, ← List.length_append]
  refine hK _ _ kk ⟨.at (S.kill o).n, rfl, ⟨by rw [St.add_n]; omega, by rw [St.add_hp, if_pos rfl]⟩, fun h => (by cases h), fun j h => ?_⟩ fun i cs hc hi hv => ?_
  ·injection h with h; subst h; rw [St.kill_n]; exact k.n
  ·have hne : ¬ i = o := fun e => hv _ (by rw [e])
   have hne2 : ¬ i = (S.kill o).n := by rw [St.kill_n]; omega
   refine ⟨?_, by rw [St.add_n, St.kill_n]; omega⟩
   unfold St.cells at *
   rw [St.add_hp, if_neg hne2, St.kill_hp, if_neg hne]; exact hc
theorem leB_len {x : LE} (h : x.Ok) : (leB x).length ≤ 220 := by
 have h1 := h.t
 have h2 := h.d
 have u1 := uvar_len10 (v := x.t) (by omega)
 have u2 := uvar_len10 (v := x.d.length) (by omega)
 simp only [leB, textB, List.length_append]; omega
theorem les_len {l : List LE} (h : ∀ x ∈ l, x.Ok) : (l.flatMap leB).length ≤ l.length * 220 := by
 induction l with
 | nil => simp
 | cons x l ih =>
  have h1 := leB_len (h x (by simp))
  have h2 := ih fun y hy => h y (List.mem_cons_of_mem _ hy)
  simp only [List.flatMap_cons, List.length_append, List.length_cons]; omega
theorem BT.msl {S0 S : St} {v : V} {bs : List UInt8} (h : BT S0 S v bs) (i n : Nat) : v ≠ .msl i 0 n 1 := by
 obtain ⟨t, rfl, _⟩ := h
 exact fun h => by cases h
def Ms.hd (m : Ms) : List UInt8 := [UInt8.ofNat m.kind, if m.ok then 1 else 0]
def Ms.nums (m : Ms) : List Nat := [m.term, m.index, m.at_, m.commit, m.ents.length]
theorem nums_len (m : Ms) (hm : m.Ok) (j : Nat) : ((m.nums.take j).flatMap uvar).length ≤ 50 := by
 have h1 := uvar_len10 hm.term
 have h2 := uvar_len10 hm.index
 have h3 := uvar_len10 hm.at_
 have h4 := uvar_len10 hm.commit
 have h5 := uvar_len10 (v := m.ents.length) (by have := hm.n; omega)
 unfold Ms.nums
 match j with
 | 0 => simp
 | 1 => simp; omega
 | 2 => simp; omega
 | 3 => simp; omega
 | 4 => simp; omega
 | j + 5 => simp; omega
theorem encode_nums {w0 : World} {S S1 : St} {Q : AEnd → St → Prop} {m : Ms} {ve v3 : V} {te : Tok} {fr : Fr} {M : Nat} (hm : m.Ok) (hE : IsSlice LER 2 ve m.ents te) (k1 : Keeps (fun _ => False) S S1) (hM : S.n ≤ M) (c1 : S1.cells M = some (m.v ve)) (l1 : M < S1.n)
  (f1 : fr 1 = .ptr (some (M, 0))) (f3 : fr 3 = v3) (b3 : BM S S1 v3 m.hd) (n3 : ∀ n, v3 ≠ .msl M 0 n 1)
  (hQ : ∀ S' v', BT S S' v' (msB m) → Keeps (fun _ => False) S S' → Q (.ret v') S') : wCode (RSim Try.prog w0) r_raft_message_encode_2 fr S1 (resQ [.tmp 2] Q) := by
 have hone := hE.one
 have hcl := cells_one hone
 have hmn := hm.n
 obtain ⟨ce, hve⟩ := hE.len
 have hE' := fun {j : Nat} {x : LE} (h : m.ents[j]? = some x) => hE.at_ h
 clear hE
 subst hve
 have cvl : ∀ S, V.conv S (.int .u64) (.int .i64 (m.ents.length : Int)) = some (.int .u64 (m.ents.length : Int)) := fun S => by
  simp only [V.conv]; rw [wu64 (by omega) (by omega)]
 have c1' := c1
 unfold Ms.v at c1
 simp only [r_raft_message_encode_2, go_sem, f1, c1, cvl]
 refine loop_rule RSim.le (k := 5) (fun q fr Sa => ∃ (j : Nat) (v : V), q = 5 - j ∧ j ≤ 5 ∧ fr 1 = .ptr (some (M, 0)) ∧ fr 3 = v ∧ fr 27 = .sl (m.nums.map fun n => V.int .u64 (n : Nat)) 5 1 .cap ∧ fr 28 = .int .i64 5 ∧ fr 29 = .int .i64 (j : Nat) ∧
   BM S Sa v (m.hd ++ (m.nums.take j).flatMap uvar) ∧ (j ≠ 0 → BT S Sa v (m.hd ++ (m.nums.take j).flatMap uvar)) ∧ (∀ n, v ≠ .msl M 0 n 1) ∧ Keeps (fun _ => False) S Sa ∧ Sa.cells M = some (m.v (.sl ce m.ents.length 2 te)) ∧ M < Sa.n) ?_
  ⟨0, _, rfl, by omega, by simp only [go_sem, f1], by simp only [go_sem, f3], by simp only [go_sem, Ms.nums], by simp only [go_sem]; rfl, by simp only [go_sem]; rfl, by simpa using b3, fun h => absurd rfl h, n3, k1, c1', l1⟩
 rintro q fr Sa ⟨j, v, hq, hj, f1, f3, f27, f28, f29, bA, bA2, nA, kA, cA, lA⟩
 simp only [l_raft_message_encode_0, go_sem, f28, f29]
 refine wc_ite (b := decide ((j : Int) < 5)) (by simp only [go_sem]) (fun hc => ?_) (fun hc => ?_)
 ·have hlt : j < 5 := by have := of_decide_eq_true hc; omega
  have w1 : IntKind.i64.wrap ((j : Int) + 1) = ((j + 1 : Nat) : Int) := by rw [w64 (by omega) (by omega)]; omega
  obtain ⟨x, hx, hd, hx64⟩ : ∃ x, m.nums[j]? = some x ∧ ((m.nums.map fun n => V.int .u64 (n : Nat)).drop (j * 1)).head? = some (.int .u64 (x : Nat)) ∧ x < 18446744073709551616 := by
   have hxj : m.nums[j]? = some (m.nums[j]'(by simpa [Ms.nums] using hlt)) := List.getElem?_eq_getElem _
   refine ⟨_, hxj, by rw [Nat.mul_one, List.head?_drop, List.getElem?_map, hxj]; rfl, ?_⟩
   have h1 := hm.term
   have h2 := hm.index
   have h3 := hm.at_
   have h4 := hm.commit
   have hmem := List.getElem_mem (l := m.nums) (n := j) (by simpa [Ms.nums] using hlt)
   generalize m.nums[j] = x at hmem
   simp only [Ms.nums, List.mem_cons, List.not_mem_nil, or_false] at hmem
   omega
  have hjt : (j < 5) = True := eq_true hlt
  simp only [go_sem, r_raft_message_encode_0, f27, f29, hjt, hd]
  refine wi_call ?_
  simp only [go_sem]
  refine uvarint_own hx64 fun Sb vb bb kb => ?_
  have bA := bA.keep kb
  have cB := kb.cells cA lA _root_.id
  have lB := kb.lt lA
  have kB := kA.trans kb (fun _ _ => _root_.id)
  have nl := nums_len m hm j
  have ul := uvar_len10 hx64
  simp only [go_sem]
  refine wi_appendBM (cs := uvar x) (by simp only [go_sem, f3]) bA (by simp only [go_sem]; exact bb.is.elems _) (by rw [List.length_append]; simp only [Ms.hd, List.length_cons, List.length_nil]; omega) kB fun v' Sc kc bc pc => ?_
  obtain ⟨cC, lC⟩ := pc _ _ cB lB nA
  simp only [go_sem, f29, w1]
  have ht : m.nums.take (j + 1) = m.nums.take j ++ [x] := take_snoc hx
  have bc' : BT S Sc v' (m.hd ++ (m.nums.take (j + 1)).flatMap uvar) := by rw [ht, List.flatMap_append, ← List.append_assoc]; simpa using bc
  exact ⟨5 - (j + 1), by omega, j + 1, v', rfl, by omega, f1, rfl, f27, f28, rfl, .inl bc', fun _ => bc', bc.msl M, kc, cC, lC⟩
 ·have hj5 : j = 5 := by have := of_decide_eq_false hc; omega
  subst hj5
  have hnt : m.nums.take 5 = m.nums := rfl
  have bA := bA2 (by decide)
  rw [hnt] at bA
  have cA' := cA
  unfold Ms.v at cA'
  simp only [go_sem, f1, cA']
  have nl := nums_len m hm 5
  rw [hnt] at nl
  refine loop_rule RSim.le (k := m.ents.length) (fun q fr Sb => ∃ (j : Nat) (v : V), q = m.ents.length - j ∧ j ≤ m.ents.length ∧ fr 3 = v ∧ fr 39 = .sl ce m.ents.length 2 te ∧ fr 40 = .int .i64 (m.ents.length : Nat) ∧ fr 41 = .int .i64 (j : Nat) ∧
    BT S Sb v (m.hd ++ m.nums.flatMap uvar ++ (m.ents.take j).flatMap leB) ∧ Keeps (fun _ => False) S Sb) ?_
   ⟨0, v, rfl, by omega, by simp only [go_sem, f3], by simp only [go_sem], by simp only [go_sem], by simp only [go_sem]; rfl, by simpa using bA, kA⟩
  rintro q fr Sb ⟨j, v, hq, hj, f3, f39, f40, f41, bB, kB⟩
  simp only [l_raft_message_encode_1, go_sem, f40, f41]
  refine wc_ite (b := decide ((j : Int) < (m.ents.length : Int))) (by simp only [go_sem]) (fun hc => ?_) (fun hc => ?_)
  ·have hlt : j < m.ents.length := by have := of_decide_eq_true hc; omega
   have w1 : IntKind.i64.wrap ((j : Int) + 1) = ((j + 1 : Nat) : Int) := by rw [w64 (by omega) (by omega)]; omega
   obtain ⟨x, hx⟩ : ∃ x, m.ents[j]? = some x := ⟨_, List.getElem?_eq_getElem hlt⟩
   have hxo := hm.ents x (List.mem_of_getElem? hx)
   have hxt := hxo.t
   have hxd := hxo.d
   obtain ⟨cs, c, e1, hne, hjl, ht, hcl2, _, dv, rfl, hdv⟩ := hE' hx
   injection e1 with e1 _
   subst e1
   have hjt : (j < m.ents.length) = True := eq_true hlt
   have htn : (te = .nil) = False := eq_false hne
   have hdo := hdv.one
   have hdc := cells_one hdo
   have cvd : ∀ S, V.conv S .bytesStr dv = some (.str (mkS x.d)) := fun S => hdv.convS S
   have kC := (kB.add (.cells [.int .u64 0, .sl [] 0 1 .nil])).set (.inr kB.n) (.cells [.int .u64 (x.t : Nat), dv])
   have cC : ((Sb.add (.cells [.int .u64 0, .sl [] 0 1 .nil])).set Sb.n (.cells [.int .u64 (x.t : Nat), dv])).cells Sb.n = some [.int .u64 (x.t : Nat), dv] := by rw [cells_setc, if_pos rfl]
   have lC : Sb.n < ((Sb.add (.cells [.int .u64 0, .sl [] 0 1 .nil])).set Sb.n (.cells [.int .u64 (x.t : Nat), dv])).n := by rw [St.set_n, St.add_n]; omega
   have bC : BT S ((Sb.add (.cells [.int .u64 0, .sl [] 0 1 .nil])).set Sb.n (.cells [.int .u64 (x.t : Nat), dv])) v (m.hd ++ m.nums.flatMap uvar ++ (m.ents.take j).flatMap leB) := bB.keep (((Keeps.refl _ Sb).add _).set (.inr (Nat.le_refl _)) _)
   have tk : (m.ents.take j).length ≤ 1000000 := by rw [List.length_take]; omega
   have ll := les_len (l := m.ents.take j) fun y hy => hm.ents y (List.mem_of_mem_take hy)
   have u1 := uvar_len10 (v := x.t) (by omega)
   have u2 := uvar_len10 (v := x.d.length) (by omega)
   simp only [go_sem, r_raft_message_encode_1, f39, f41, hjt, htn, ht, hdo, hdc]
   generalize (Sb.add (.cells [.int .u64 0, .sl [] 0 1 .nil])).set Sb.n (.cells [.int .u64 (x.t : Nat), dv]) = Sc at *
   refine wi_call ?_
   simp only [go_sem]
   refine uvarint_own (v := x.t) (by omega) fun Sd vd bd kd => ?_
   have bD := bC.keep kd
   have cD := kd.cells cC lC _root_.id
   have lD := kd.lt lC
   have kD := kC.trans kd (fun _ _ => _root_.id)
   simp only [go_sem]
   refine wi_appendBT (cs := uvar x.t) (by simp only [go_sem, f3]) bD (by simp only [go_sem]; exact bd.is.elems _) (by simp only [List.length_append, Ms.hd, List.length_cons, List.length_nil]; omega) kD fun v' Se ke be pe => ?_
   obtain ⟨cE, lE⟩ := pe _ _ cD lD
   simp only [go_sem, cE, cvd]
   refine wi_call ?_
   simp only [go_sem]
   refine text_runs (s := x.d) (by omega) fun Sf vf bf kf => ?_
   have bF := be.keep kf
   have kF := ke.trans kf (fun _ _ => _root_.id)
   simp only [go_sem]
   refine wi_appendBT (cs := textB x.d) (by simp only [go_sem]) bF (by simp only [go_sem]; exact bf.is.elems _) (by simp only [List.length_append, Ms.hd, List.length_cons, List.length_nil, textB]; omega) kF fun v2 Sg kg bg pg => ?_
   simp only [go_sem, f41, w1]
   have ht2 : m.ents.take (j + 1) = m.ents.take j ++ [x] := take_snoc hx
   refine ⟨m.ents.length - (j + 1), by omega, j + 1, v2, rfl, by omega, rfl, f39, f40, rfl, ?_, kg⟩
   rw [ht2, List.flatMap_append]
   simpa [leB] using bg
  ·have hje : j = m.ents.length := by have := of_decide_eq_false hc; omega
   subst hje
   rw [List.take_length] at bB
   simp only [go_sem, f3]
   exact hQ Sb v bB kB
theorem encodeM_runs {w0 : World} {S : St} {Q : AEnd → St → Prop} {m : Ms} {ve : V} {te : Tok} (hm : m.Ok) (hE : IsSlice LER 2 ve m.ents te) (hQ : ∀ S' v', BT S S' v' (msB m) → Keeps (fun _ => False) S S' → Q (.ret v') S') :
  RSim Try.prog w0 n_raft_message_encode [.agg (m.v ve)] S Q := by
 have hone := hE.one
 have hcl := cells_one hone
 have hmk := hm.kind
 have u8e : V.int .u8 (m.kind : Nat) = u8V (UInt8.ofNat m.kind) := by rw [u8V_ofNat, Nat.mod_eq_of_lt hmk]
 have k1 : ∀ c, Keeps (fun _ => False) S ((S.add (.cells (m.v ve))).add (.cells c)) := fun c => ((Keeps.refl _ S).add _).add _
 have c1 : ∀ c, ((S.add (.cells (m.v ve))).add (.cells c)).cells S.n = some (m.v ve) := fun c => by rw [cells_addc, if_neg (by rw [St.add_n]; omega), cells_addc, if_pos rfl]
 have hne : ¬ S.n = S.n + 1 := by omega
 have L1 : ∀ c, S.n < ((S.add (.cells (m.v ve))).add (.cells c)).n := fun c => by rw [St.add_n, St.add_n]; omega
 have nm : ∀ n, V.msl (S.n + 1) 0 2 1 ≠ .msl S.n 0 n 1 := fun n e => by injection e with e; omega
 cases hok : m.ok with
 | false =>
  have hhd : m.hd.map u8V = [.int .u8 (m.kind : Nat), .int .u8 0] := by unfold Ms.hd; rw [hok, u8e]; rfl
  have go := fun (fr : Fr) (f1 : fr 1 = _) (f3 : fr 3 = _) => encode_nums (w0 := w0) (Q := Q) (fr := fr) (v3 := .msl (S.n + 1) 0 2 1) (M := S.n) hm hE (k1 [.int .u8 (m.kind : Nat), .int .u8 0]) (Nat.le_refl _) (c1 _) (L1 _) f1 f3 (.inr ⟨S.n + 1, rfl, by rw [cells_addc, if_pos (by rw [St.add_n]), hhd], by rw [St.add_n, St.add_n]; omega, by omega⟩) nm hQ
  unfold Ms.v at go ⊢
  rw [hok] at go ⊢
  refine RSim.run mixed k_raft_message_encode ?_ (by simp)
  simp only [b_raft_message_encode, go_sem, hone, hne, wi_bs1]
  refine wc_ite (b := false) (by simp only [go_sem] <;> rfl) (fun h => by cases h) (fun _ => ?_)
  simp only [go_sem]
  exact go _ (by simp only [go_sem]) (by simp only [go_sem])
 | true =>
  have hhd : m.hd.map u8V = [.int .u8 (m.kind : Nat), .int .u8 1] := by unfold Ms.hd; rw [hok, u8e]; rfl
  have k2 : ∀ c d, Keeps (fun _ => False) S (((S.add (.cells (m.v ve))).add (.cells c)).set (S.n + 1) (.cells d)) := fun c d => (k1 c).set (.inr (by omega)) _
  have c2 : ∀ c d, (((S.add (.cells (m.v ve))).add (.cells c)).set (S.n + 1) (.cells d)).cells S.n = some (m.v ve) := fun c d => by rw [cells_setc, if_neg hne, c1 c]
  have go := fun (fr : Fr) (f1 : fr 1 = _) (f3 : fr 3 = _) => encode_nums (w0 := w0) (Q := Q) (fr := fr) (v3 := .msl (S.n + 1) 0 2 1) (M := S.n) hm hE (k2 [.int .u8 (m.kind : Nat), .int .u8 0] [.int .u8 (m.kind : Nat), .int .u8 1]) (Nat.le_refl _) (c2 _ _) (L1 [.int .u8 (m.kind : Nat), .int .u8 0]) f1 f3 (.inr ⟨S.n + 1, rfl, by rw [cells_setc, if_pos rfl, hhd], by rw [St.set_n, St.add_n, St.add_n]; omega, by omega⟩) nm hQ
  unfold Ms.v at go ⊢
  rw [hok] at go ⊢
  refine RSim.run mixed k_raft_message_encode ?_ (by simp)
  simp only [b_raft_message_encode, go_sem, hone, hne, wi_bs1]
  refine wc_ite (b := true) (by simp only [go_sem] <;> rfl) (fun _ => ?_) (fun h => by cases h)
  simp only [go_sem, wi_bs1, toN1, lt12]
  exact go _ (by simp only [go_sem]) (by simp only [go_sem])
def rdN (bs : List UInt8) : Nat → Nat → Option (List Nat × Nat)
 | 0, a => some ([], a)
 | k + 1, a => match ruv 0 0 (bs.drop a) with
  | none => none
  | some (x, n) => if 4611686018427387904 ≤ x then none else (rdN bs k (a + n)).map fun q => (x :: q.1, q.2)
def rdE (bs : List UInt8) : Nat → Nat → Option (List LE × Nat)
 | 0, a => some ([], a)
 | k + 1, a => match ruv 0 0 (bs.drop a) with
  | none => none
  | some (t, n) => match readT 200 (bs.drop (a + n)) with
   | .inl _ => none
   | .inr (s, m) => (rdE bs k (a + n + m)).map fun q => (⟨t, s⟩ :: q.1, q.2)
def decM (bs : List UInt8) : Option Ms :=
 match bs with
 | k :: o :: _ => if k.toNat < 1 ∨ k.toNat > 4 ∨ o.toNat > 1 then none else match rdN bs 5 2 with
  | some ([t, i, a, c, n], p) => match rdE bs n p with
   | some (es, e) => if e = bs.length then some ⟨k.toNat, o == 1, t, i, a, c, es⟩ else none
   | none => none
  | _ => none
 | _ => none
def msZ : List V := [.int .u8 0, .int .u64 0, .int .u64 0, .int .u64 0, .int .u64 0, .bool false, .sl [] 0 2 .nil]
def mixN (l : List Nat) (kind : Nat) (ok : Bool) (ve : V) : List V := [.int .u8 (kind : Nat), .int .u64 ((l.getD 0 0 : Nat) : Int), .int .u64 ((l.getD 1 0 : Nat) : Int), .int .u64 ((l.getD 2 0 : Nat) : Int), .int .u64 ((l.getD 3 0 : Nat) : Int), .bool ok, ve]
theorem readT_err0 {most : Nat} {l : List UInt8} {e : Int} (h : readT most l = .inl e) : e ≠ 0 := by
 unfold readT at h
 split at h
 ·injection h with h; omega
 ·split at h
  ·injection h with h; omega
  ·split at h
   ·injection h with h; omega
   ·cases h
structure DecS (S S1 : St) (kind : Nat) (ok : Bool) (nums : List Nat) (ve : V) : Prop where
 z : S1.cells S.n = some msZ
 m : S1.cells (S.n + 1) = some (mixN nums kind ok ve)
 c : S1.cells (S.n + 1 + 1) = some [.int .u64 ((nums.getD 4 0 : Nat) : Int)]
 k : Keeps (fun _ => False) S S1
 n : S.n + 1 + 1 < S1.n
theorem DecS.step {S S1 : St} {kind : Nat} {ok : Bool} {nums : List Nat} {ve : V} {x j : Nat} (h : DecS S S1 kind ok nums ve) (hl : nums.length = j) (hj : j < 5) :
  DecS S (if j = 4 then S1.set (S.n + 1 + 1) (.cells [.int .u64 (x : Nat)]) else S1.set (S.n + 1) (.cells (splice (mixN nums kind ok ve) (j + 1) [.int .u64 (x : Nat)]))) kind ok (nums ++ [x]) ve := by
 have n1 : ¬ S.n = S.n + 1 + 1 := by omega
 have n2 : ¬ S.n + 1 = S.n + 1 + 1 := by omega
 have n3 : ¬ S.n = S.n + 1 := by omega
 have n4 : ¬ S.n + 1 + 1 = S.n + 1 := by omega
 match nums, j, hl, hj, h with
 | [], 0, _, _, h => exact ⟨by simp [cells_setc, n3, h.z], by simp [cells_setc, mixN, splice], by simp [cells_setc, n4, h.c], h.k.set (.inr (by omega)) _, h.n⟩
 | [a], 1, _, _, h => exact ⟨by simp [cells_setc, n3, h.z], by simp [cells_setc, mixN, splice], by simp [cells_setc, n4, h.c], h.k.set (.inr (by omega)) _, h.n⟩
 | [a, b], 2, _, _, h => exact ⟨by simp [cells_setc, n3, h.z], by simp [cells_setc, mixN, splice], by simp [cells_setc, n4, h.c], h.k.set (.inr (by omega)) _, h.n⟩
 | [a, b, c], 3, _, _, h => exact ⟨by simp [cells_setc, n3, h.z], by simp [cells_setc, mixN, splice], by simp [cells_setc, n4, h.c], h.k.set (.inr (by omega)) _, h.n⟩
 | [a, b, c, d], 4, _, _, h => exact ⟨by simp [cells_setc, n1, h.z], by simp [cells_setc, n2, h.m, mixN], by simp [cells_setc], h.k.set (.inr (by omega)) _, h.n⟩
theorem decodeM_runs {w0 : World} {S : St} {Q : AEnd → St → Prop} {v : V} {bs : List UInt8} (hv : IsBytes v bs) (hl : bs.length ≤ 1000000000)
  (hQ : ∀ m ve te S', decM bs = some m → IsSlice LER 2 ve m.ents te → (∀ x ∈ m.ents, x.d.length ≤ 200 ∧ x.t < 18446744073709551616) → Keeps (fun _ => False) S S' → Q (.ret (.tup [.agg (m.v ve), .bool true])) S')
  (hQ' : ∀ cs S', decM bs = none → cs.length = 7 → cs.all V.one = true → Keeps (fun _ => False) S S' → Q (.ret (.tup [.agg cs, .bool false])) S') : RSim Try.prog w0 n_raft_decode [v] S Q := by
 obtain ⟨t, rfl, ht⟩ := id hv
 have c2 : (S.add (.cells msZ)).cells S.n = some msZ := by rw [cells_addc, if_pos rfl]
 have l2 : S.n < (S.add (.cells msZ)).n := by rw [St.add_n]; omega
 have k2 := (Keeps.refl (fun _ => False) S).add (.cells msZ)
 have fail : decM bs = none → ∀ S', Keeps (fun _ => False) S S' → Q (.ret (.tup [.agg msZ, .bool false])) (S'.set S.n (.cells msZ)) := fun h S' k => hQ' msZ _ h rfl rfl (k.set (.inr (Nat.le_refl _)) _)
 simp only [msZ] at c2 l2 k2 fail
 by_cases hlen : bs.length < 2
 ·have q : decide ((bs.length : Int) < 2) = true := decide_eq_true (by omega)
  have hn : decM bs = none := by
   match bs, hlen with
   | [], _ => rfl
   | [b], _ => rfl
   | a :: b :: r, h => exfalso; simp only [List.length_cons] at h; omega
  refine RSim.run mixed k_raft_decode ?_ (by simp)
  simp only [b_raft_decode, go_sem, q]
  refine wc_ite (b := true) (by simp only [go_sem] <;> rfl) (fun _ => ?_) (fun h => by cases h)
  simp only [go_sem]
  exact fail hn _ k2
 have q : decide ((bs.length : Int) < 2) = false := decide_eq_false (by omega)
 obtain ⟨kb, ob, rest, hbs⟩ : ∃ kb ob rest, bs = kb :: ob :: rest := by
  match bs, hlen with
  | [], h => exact absurd (by simp) h
  | [b], h => exact absurd (by simp) h
  | a :: b :: r, h => exact ⟨a, b, r, rfl⟩
 have j0 : (0 < bs.length) = True := eq_true (by omega)
 have j1 : (1 < bs.length) = True := eq_true (by omega)
 have d0 : (bs.map u8V).drop (0 * 1) = .int .u8 kb.toNat :: (ob :: rest).map u8V := by rw [hbs]; rfl
 have d1 : (bs.map u8V).drop (1 * 1) = .int .u8 ob.toNat :: rest.map u8V := by rw [hbs]; rfl
 have htn : (t = .nil) = False := eq_false fun h => by have := ht h; rw [this] at hlen; simp at hlen
 have p1 : decide ((kb.toNat : Int) < 1) = decide (kb.toNat < 1) := decide_eq_decide.mpr (by omega)
 have p2 : decide ((kb.toNat : Int) > 4) = decide (kb.toNat > 4) := decide_eq_decide.mpr (by omega)
 have p3 : decide ((ob.toNat : Int) > 1) = decide (ob.toNat > 1) := decide_eq_decide.mpr (by omega)
 by_cases hbad : kb.toNat < 1 ∨ kb.toNat > 4 ∨ ob.toNat > 1
 ·have hn : decM bs = none := by rw [hbs]; exact if_pos hbad
  have hb3 : decide (kb.toNat < 1) = true ∨ decide (kb.toNat < 1) = false ∧ (decide (kb.toNat > 4) = true ∨ decide (kb.toNat > 4) = false ∧ decide (ob.toNat > 1) = true) := by
   by_cases h1 : kb.toNat < 1
   ·exact .inl (decide_eq_true h1)
   ·by_cases h2 : kb.toNat > 4
    ·exact .inr ⟨decide_eq_false h1, .inl (decide_eq_true h2)⟩
    ·exact .inr ⟨decide_eq_false h1, .inr ⟨decide_eq_false h2, decide_eq_true (by omega)⟩⟩
  rcases hb3 with h1 | ⟨h1, h2 | ⟨h2, h3⟩⟩
  ·rw [h1] at p1
   refine RSim.run mixed k_raft_decode ?_ (by simp)
   simp only [b_raft_decode, go_sem, q, toN0, toN1, j0, j1, d0, d1, htn, p1]
   refine wc_ite (b := true) (by simp only [go_sem] <;> rfl) (fun _ => ?_) (fun h => by cases h)
   simp only [go_sem]
   exact fail hn _ k2
  ·rw [h1] at p1
   rw [h2] at p2
   refine RSim.run mixed k_raft_decode ?_ (by simp)
   simp only [b_raft_decode, go_sem, q, toN0, toN1, j0, j1, d0, d1, htn, p1, p2]
   refine wc_ite (b := true) (by simp only [go_sem] <;> rfl) (fun _ => ?_) (fun h => by cases h)
   simp only [go_sem]
   exact fail hn _ k2
  ·rw [h1] at p1
   rw [h2] at p2
   rw [h3] at p3
   refine RSim.run mixed k_raft_decode ?_ (by simp)
   simp only [b_raft_decode, go_sem, q, toN0, toN1, j0, j1, d0, d1, htn, p1, p2, p3]
   refine wc_ite (b := true) (by simp only [go_sem] <;> rfl) (fun _ => ?_) (fun h => by cases h)
   simp only [go_sem]
   exact fail hn _ k2
 have hk : kb.toNat ≤ 4 := by omega
 have hdec : decM bs = match rdN bs 5 2 with
  | some ([t, i, a, c, n], p) => match rdE bs n p with
   | some (es, e) => if e = bs.length then some ⟨kb.toNat, ob == 1, t, i, a, c, es⟩ else none
   | none => none
  | _ => none := by
  conv => lhs; unfold decM
  rw [hbs]
  exact if_neg hbad
 rw [decide_eq_false fun h => hbad (.inl h)] at p1
 rw [decide_eq_false fun h => hbad (.inr (.inl h))] at p2
 rw [decide_eq_false fun h => hbad (.inr (.inr h))] at p3
 have qo : ((ob.toNat : Int) == 1) = (ob == 1) := by
  rw [Bool.eq_iff_iff, beq_iff_eq, beq_iff_eq]
  constructor
  ·intro h; exact UInt8.toNat_inj.1 (by show ob.toNat = 1; omega)
  ·intro h; rw [h]; rfl
 refine RSim.run mixed k_raft_decode ?_ (by simp)
 simp only [b_raft_decode, go_sem, q, toN0, toN1, j0, j1, d0, d1, htn, p1, p2, p3]
 refine wc_ite (b := false) (by simp only [go_sem] <;> rfl) (fun h => by cases h) (fun _ => ?_)
 simp only [go_sem, q, toN0, toN1, j0, j1, d0, d1, htn, qo]
 generalize hob : (ob == 1) = okb at *
 have hl2 : 2 ≤ bs.length := by omega
 refine loop_rule RSim.le (k := 5) (fun q fr S1 => ∃ (j a : Nat) (nums : List Nat), q = 5 - j ∧ j ≤ 5 ∧ fr 0 = .sl (bs.map u8V) bs.length 1 t ∧ fr 2 = .ptr (some (S.n, 0)) ∧ fr 4 = .ptr (some (S.n + 1, 0)) ∧ fr 5 = .int .i64 (a : Nat) ∧ fr 6 = .ptr (some (S.n + 1 + 1, 0)) ∧
   fr 51 = .sl [.ptr (some (S.n + 1, 1)), .ptr (some (S.n + 1, 2)), .ptr (some (S.n + 1, 3)), .ptr (some (S.n + 1, 4)), .ptr (some (S.n + 1 + 1, 0))] 5 1 .cap ∧ fr 52 = .int .i64 5 ∧ fr 53 = .int .i64 (j : Nat) ∧ nums.length = j ∧ a ≤ bs.length ∧
   rdN bs 5 2 = (rdN bs (5 - j) a).map (fun q => (nums ++ q.1, q.2)) ∧ (∀ x ∈ nums, x < 4611686018427387904) ∧ DecS S S1 kb.toNat okb nums (.sl [] 0 2 .nil)) ?_
  ⟨0, 2, [], rfl, by omega, by simp only [go_sem], by simp only [go_sem], by simp only [go_sem], by simp only [go_sem]; rfl, by simp only [go_sem], by simp only [go_sem], by simp only [go_sem]; rfl, by simp only [go_sem]; rfl, rfl, hl2, by simp, fun x h => (by cases h), ?_⟩
 rotate_left
 ·exact ⟨by simp only [go_sem, show ¬ S.n = S.n + 1 by omega, show ¬ S.n = S.n + 1 + 1 by omega]; rfl, by simp only [go_sem, show ¬ S.n + 1 = S.n + 1 + 1 by omega]; rfl, by simp only [go_sem]; rfl, ((((k2.add _).set (.inr (by omega)) _).add _).set (.inr (by omega)) _), by simp only [go_sem]; omega⟩
 clear c2 l2 k2 p1 p2 p3 q
 rintro q fr S1 ⟨j, a, nums, hq, hj, f0, f2, f4, f5, f6, f51, f52, f53, hnl, hal, hrd, hsm, hS⟩
 obtain ⟨cz, cm, cc, kk, ln⟩ := hS
 unfold msZ at cz
 simp only [l_raft_decode_0, go_sem, f52, f53]
 refine wc_ite (b := decide ((j : Int) < 5)) (by simp only [go_sem]) (fun hc => ?_) (fun hc => ?_)
 ·have hlt : j < 5 := by have := of_decide_eq_true hc; omega
  have w1 : IntKind.i64.wrap ((j : Int) + 1) = ((j + 1 : Nat) : Int) := by rw [w64 (by omega) (by omega)]; omega
  have hjt : (j < 5) = True := eq_true hlt
  obtain ⟨pv, rest2, hd⟩ : ∃ pv rest2, [V.ptr (some (S.n + 1, 1)), .ptr (some (S.n + 1, 2)), .ptr (some (S.n + 1, 3)), .ptr (some (S.n + 1, 4)), .ptr (some (S.n + 1 + 1, 0))].drop (j * 1) = pv :: rest2 ∧ pv = (if j = 4 then .ptr (some (S.n + 1 + 1, 0)) else .ptr (some (S.n + 1, j + 1))) := by
   match j, hlt with
   | 0, _ => exact ⟨_, _, rfl, rfl⟩
   | 1, _ => exact ⟨_, _, rfl, rfl⟩
   | 2, _ => exact ⟨_, _, rfl, rfl⟩
   | 3, _ => exact ⟨_, _, rfl, rfl⟩
   | 4, _ => exact ⟨_, _, rfl, rfl⟩
  obtain ⟨hd, hpv⟩ := hd
  have h5 : 5 - j = (5 - (j + 1)) + 1 := by omega
  rw [h5] at hrd
  simp only [go_sem, k_raft_decode_0, f0, f5, f51, f53, hjt, hd, List.head?_cons]
  refine wi_call ?_
  simp only [go_sem]
  refine readUvarint_runs hal (by omega) ht (fun x n hr hx hn => ?_) fun hr => ?_
  ·have px : decide ((x : Int) ≥ 4611686018427387904) = decide (4611686018427387904 ≤ x) := decide_eq_decide.mpr (by omega)
   by_cases hbig : 4611686018427387904 ≤ x
   ·have hn0 : decM bs = none := by
     rw [hdec, hrd]
     unfold rdN
     rw [hr]
     simp only [if_pos hbig, Option.map_none]
    rw [decide_eq_true hbig] at px
    simp only [go_sem, px]
    refine wc_ite (b := true) (by simp only [go_sem] <;> rfl) (fun _ => ?_) (fun h => by cases h)
    simp only [go_sem, f2, cz]
    exact fail hn0 S1 kk
   ·rw [decide_eq_false hbig] at px
    have hrd2 : rdN bs 5 2 = (rdN bs (5 - (j + 1)) (a + n)).map (fun q => (nums ++ [x] ++ q.1, q.2)) := by
     rw [hrd]
     conv => lhs; unfold rdN
     rw [hr]
     simp only [if_neg hbig, Option.map_map]
     congr 1
     funext q
     simp
    have hsm2 : ∀ y ∈ nums ++ [x], y < 4611686018427387904 := fun y hy => by
     rcases List.mem_append.1 hy with hy | hy
     ·exact hsm y hy
     ·rw [List.mem_singleton.1 hy]; omega
    have hS2 := DecS.step (x := x) ⟨cz, cm, cc, kk, ln⟩ hnl hlt
    simp only [go_sem, px]
    refine wc_ite (b := false) (by simp only [go_sem] <;> rfl) (fun h => by cases h) (fun _ => ?_)
    by_cases hj4 : j = 4
    ·rw [if_pos hj4] at hpv hS2
     subst hpv
     simp only [go_sem, cc, f53, w1]
     exact ⟨5 - (j + 1), by omega, j + 1, a + n, nums ++ [x], rfl, by omega, f0, f2, f4, rfl, f6, f51, f52, rfl, by simp [hnl], hn, hrd2, hsm2, hS2⟩
    ·rw [if_neg hj4] at hpv hS2
     subst hpv
     have hfit : (j + 1 + 1 ≤ (mixN nums kb.toNat okb (.sl [] 0 2 .nil)).length) = True := eq_true (by simp [mixN]; omega)
     unfold splice at hS2
     simp only [List.length_cons, List.length_nil, Nat.zero_add] at hS2
     simp only [go_sem, cm, f53, w1, hfit]
     exact ⟨5 - (j + 1), by omega, j + 1, a + n, nums ++ [x], rfl, by omega, f0, f2, f4, rfl, f6, f51, f52, rfl, by simp [hnl], hn, hrd2, hsm2, hS2⟩
  ·have hn0 : decM bs = none := by
    rw [hdec, hrd]
    unfold rdN
    rw [hr]
    simp only [Option.map_none]
   simp only [go_sem]
   refine wc_ite (b := true) (by simp only [go_sem] <;> rfl) (fun _ => ?_) (fun h => by cases h)
   simp only [go_sem, f2, cz]
   exact fail hn0 S1 kk
 ·have hj5 : j = 5 := by have := of_decide_eq_false hc; omega
  subst hj5
  have hN : rdN bs 5 2 = some (nums, a) := by
   rw [hrd]; simp [rdN]
  obtain ⟨n0, n1, n2, n3, n4, rfl⟩ : ∃ n0 n1 n2 n3 n4, nums = [n0, n1, n2, n3, n4] := by
   match nums, hnl with
   | [n0, n1, n2, n3, n4], _ => exact ⟨_, _, _, _, _, rfl⟩
  have hN4 := hsm n4 (by simp)
  rw [hN] at hdec
  simp only at hdec
  have cc' : S1.cells (S.n + 1 + 1) = some [.int .u64 (n4 : Nat)] := cc
  simp only [go_sem, s_raft_decode_0, f6, cc']
  refine loop_rule RSim.le (k := bs.length - a) (fun q fr S2 => ∃ (j b : Nat) (es : List LE) (ve : V) (te : Tok), q = bs.length - b ∧ fr 0 = .sl (bs.map u8V) bs.length 1 t ∧ fr 2 = .ptr (some (S.n, 0)) ∧ fr 4 = .ptr (some (S.n + 1, 0)) ∧ fr 5 = .int .i64 (b : Nat) ∧ fr 76 = .int .u64 (n4 : Nat) ∧ fr 77 = .int .u64 (j : Nat) ∧ j ≤ n4 ∧ b ≤ bs.length ∧ es.length ≤ b ∧
    rdE bs n4 a = (rdE bs (n4 - j) b).map (fun q => (es ++ q.1, q.2)) ∧ IsSlice LER 2 ve es te ∧ TokOk S2 te ∧ (∀ k, te = .at k → S.n + 1 + 1 + 1 ≤ k) ∧ (∀ x ∈ es, x.d.length ≤ 200 ∧ x.t < 18446744073709551616) ∧ DecS S S2 kb.toNat okb [n0, n1, n2, n3, n4] ve) ?_
   ⟨0, a, [], _, .nil, rfl, by simp only [go_sem, f0], by simp only [go_sem, f2], by simp only [go_sem, f4], by simp only [go_sem, f5], by simp only [go_sem], by simp only [go_sem]; rfl, Nat.zero_le _, hal, Nat.zero_le _, by simp, isSlice_nil LER 2, trivial, fun k h => (by cases h), fun x h => (by cases h), ⟨cz, cm, cc, kk, ln⟩⟩
  clear cz cm cc cc' kk ln f0 f2 f4 f5 f6 f51 f52 f53 hc hrd hsm
  rintro q fr S2 ⟨j, b, es, ve, te, hq, f0, f2, f4, f5, f76, f77, hj, hbl, hel, hrd, hE, hte, htn2, hsm, hS⟩
  obtain ⟨cz, cm, cc, kk, ln⟩ := id hS
  unfold msZ at cz
  have pj : decide ((j : Int) < (n4 : Int)) = decide (j < n4) := decide_eq_decide.mpr (by omega)
  simp only [l_raft_decode_1, go_sem, f76, f77, pj]
  refine wc_ite (b := decide (j < n4)) (by simp only [go_sem]) (fun hc => ?_) (fun hc => ?_)
  ·have hlt : j < n4 := of_decide_eq_true hc
   have w1 : IntKind.u64.wrap ((j : Int) + 1) = ((j + 1 : Nat) : Int) := by rw [wu64 (by omega) (by omega)]; omega
   have h5 : n4 - j = (n4 - (j + 1)) + 1 := by omega
   rw [h5] at hrd
   simp only [go_sem, k_raft_decode_1, f0, f5]
   refine wi_call ?_
   simp only [go_sem]
   refine readUvarint_runs hbl (by omega) ht (fun x n hr hx hn => ?_) fun hr => ?_
   ·simp only [go_sem]
    refine wc_ite (b := false) (by simp only [go_sem] <;> rfl) (fun h => by cases h) (fun _ => ?_)
    simp only [go_sem, f0]
    refine wi_call ?_
    simp only [go_sem]
    refine readText_runs (most := 200) hn (by omega) (by decide) ht (fun s m hr2 hm hs => ?_) fun e hr2 => ?_
    ·have hpos := ruv_pos hr
     have hone := hE.one
     have hvc := cells_one hone
     have hrd2 : rdE bs n4 a = (rdE bs (n4 - (j + 1)) (b + n + m)).map (fun q => (es ++ [⟨x, s⟩] ++ q.1, q.2)) := by
      rw [hrd]
      conv => lhs; unfold rdE
      rw [hr]
      simp only [hr2, Option.map_map]
      congr 1
      funext q
      simp
     simp only [go_sem]
     refine wc_ite (b := false) (by simp only [go_sem] <;> rfl) (fun h => by cases h) (fun _ => ?_)
     simp only [go_sem, f4, cm, mixN]
     refine wi_strB (l := s) (by simp only [go_sem]) fun ts hts => ?_
     have hcm : mixN [n0, n1, n2, n3, n4] kb.toNat okb ve = [.int .u8 (kb.toNat : Nat), .int .u64 (n0 : Nat), .int .u64 (n1 : Nat), .int .u64 (n2 : Nat), .int .u64 (n3 : Nat), .bool okb, ve] := rfl
     have k3 := (Keeps.refl (fun _ => False) S2).add .tok
     have cm3 := k3.cells cm (by omega) _root_.id
     have cz3 := k3.cells cz (by omega) _root_.id
     have cc3 := k3.cells cc ln _root_.id
     have ln3 := k3.lt ln
     have hte3 := hte.keep k3 fun _ _ => _root_.id
     have kk3 := kk.trans k3 (fun _ _ => _root_.id)
     rw [hcm] at cm3
     generalize S2.add .tok = S3 at *
     simp only [go_sem]
     refine wi_appendR (v := ve) (l := es) (y := ⟨x, s⟩) (c := [.int .u64 (x : Nat), .sl (s.map u8V) s.length 1 ts]) (by simp only [go_sem]) hE (by simp only [go_sem]; rfl) rfl ⟨_, rfl, ts, rfl, fun h => absurd h hts⟩ (by omega) hte3 fun te' S4 ve' hE' k4 hte' hn4 hne4 => ?_
     have k40 : Keeps (fun _ => False) S S4 := keeps_new kk3 k4 fun k hk => by have := htn2 k hk; omega
     have no : ∀ i, i ≤ S.n + 1 + 1 → ¬ tokOwn te i := fun i hi ho => by have := htn2 i ho; omega
     have cm4 := k4.cells cm3 (by omega) (no _ (by omega))
     have cz4 := k4.cells cz3 (by omega) (no _ (by omega))
     have cc4 := k4.cells cc3 ln3 (no _ (by omega))
     have ln4 := k4.lt ln3
     have hone' := hE'.one
     have hvc' := cells_one hone'
     simp only [go_sem, f4, cm4, f77, w1, hone', hvc']
     have kset : Keeps (fun j => j = S.n + 1) S4 (S4.set (S.n + 1) (.cells [.int .u8 (kb.toNat : Nat), .int .u64 (n0 : Nat), .int .u64 (n1 : Nat), .int .u64 (n2 : Nat), .int .u64 (n3 : Nat), .bool okb, ve'])) := Keeps.set1 _ _ _
     refine ⟨bs.length - (b + n + m), by omega, j + 1, b + n + m, es ++ [⟨x, s⟩], ve', te', rfl, f0, f2, rfl, f76, rfl, by omega, hm, by simp; omega, hrd2, hE', hte'.keep kset (fun k hk e => by have := hn4 k hk; omega), fun k hk => by have := hn4 k hk; omega, fun y hy => ?_, ?_⟩
     ·rcases List.mem_append.1 hy with hy | hy
      ·exact hsm y hy
      ·rw [List.mem_singleton.1 hy]; exact ⟨hs, hx⟩
     ·exact ⟨kset.cells cz4 (by omega) (by omega), by rw [cells_setc, if_pos rfl]; rfl, kset.cells cc4 ln4 (by omega), k40.set (.inr (by omega)) _, ln4⟩
    ·have hn0 : decM bs = none := by
      rw [hdec, hrd]
      unfold rdE
      rw [hr]
      simp only [hr2, Option.map_none]
     have hne := readT_err0 hr2
     have qe : (e != 0) = true := by simpa using hne
     simp only [go_sem, qe]
     refine wc_ite (b := true) (by simp only [go_sem] <;> rfl) (fun _ => ?_) (fun h => by cases h)
     simp only [go_sem, f2, cz]
     exact fail hn0 S2 kk
   ·have hn0 : decM bs = none := by
     rw [hdec, hrd]
     unfold rdE
     rw [hr]
     simp only [Option.map_none]
    simp only [go_sem]
    refine wc_ite (b := true) (by simp only [go_sem] <;> rfl) (fun _ => ?_) (fun h => by cases h)
    simp only [go_sem, f2, cz]
    exact fail hn0 S2 kk
  ·have hj5 : j = n4 := by have := of_decide_eq_false hc; omega
   subst hj5
   have hE2 : rdE bs j a = some (es, b) := by rw [hrd]; simp [rdE]
   rw [hE2] at hdec
   simp only at hdec
   have hone := hE.one
   have hvc := cells_one hone
   have qb : ((b : Int) == (bs.length : Int)) = decide (b = bs.length) := by rw [Bool.eq_iff_iff, beq_iff_eq, decide_eq_true_iff]; omega
   have hcm : mixN [n0, n1, n2, n3, j] kb.toNat okb ve = [.int .u8 (kb.toNat : Nat), .int .u64 (n0 : Nat), .int .u64 (n1 : Nat), .int .u64 (n2 : Nat), .int .u64 (n3 : Nat), .bool okb, ve] := rfl
   rw [hcm] at cm
   have kset : Keeps (fun _ => False) S (S2.set S.n (.cells [.int .u8 (kb.toNat : Nat), .int .u64 (n0 : Nat), .int .u64 (n1 : Nat), .int .u64 (n2 : Nat), .int .u64 (n3 : Nat), .bool okb, ve])) := kk.set (.inr (Nat.le_refl _)) _
   simp only [go_sem, f0, f2, f4, f5, cm, cz, hone, hvc, qb]
   by_cases he : b = bs.length
   ·rw [if_pos he] at hdec
    rw [decide_eq_true he]
    exact hQ _ ve te _ hdec hE hsm kset
   ·rw [if_neg he] at hdec
    rw [decide_eq_false he]
    exact hQ' _ _ hdec rfl (by simp only [List.all_cons, List.all_nil, hone]; rfl) kset
end Go.VM
namespace Go.VM
open Go Go.RowKit Go.Proofs
def lastT (l : List LE) : Nat → Nat
 | 0 => 0
 | i + 1 => ((l[i]?).map LE.t).getD 0
def RN.hardB (X : RN) : List UInt8 := 72 :: (uvar X.term ++ uvar (X.vote + 1).toNat)
def recE (i : Nat) (x : LE) : List UInt8 := 69 :: (uvar i ++ uvar x.t ++ x.d)
def RN.rest (X : RN) : RN := { X with idle := 0, limit := 10 + X.draw % 10 }
def RN.failed (X : RN) : RN := { X with bad := true, out := [] }
def RN.sent (X : RN) (to : Nat) (m : Ms) : RN := { X with out := X.out ++ [⟨X.me, to, msB { m with term := X.term }⟩] }
def keepL : List (List UInt8) → DS → List (List UInt8) → Int × DS × List (List UInt8)
 | [], D, R => ((D.syncL raftN R).1, (D.syncL raftN R).2, R)
 | p :: l, D, R => if (D.grow raftN (frameB p) false).1 ≠ 0 then ((D.grow raftN (frameB p) false).1, (D.grow raftN (frameB p) false).2, R) else keepL l (D.grow raftN (frameB p) false).2 (R ++ [p])
def RN.keep (X : RN) (l : List (List UInt8)) : Int × RN :=
 let K := keepL l X.D X.R
 if K.1 = 0 then (0, X.dr K.2.1 K.2.2) else (K.1, (X.dr K.2.1 K.2.2).failed)
theorem le_at {v : V} {l : List LE} {t : Tok} {ce : List V} (h : IsSlice LER 2 v l t) (hv : v = .sl ce l.length 2 t) {j : Nat} {x : LE} (hx : l[j]? = some x) :
  ∃ dv rest, ce.drop (j * 2) = .int .u64 (x.t : Nat) :: dv :: rest ∧ IsBytes dv x.d ∧ t ≠ .nil ∧ j < l.length := by
 obtain ⟨cs, c, e1, hne, hjl, ht, _, hc2, dv, rfl, hdv⟩ := h.at_ hx
 rw [hv] at e1
 injection e1 with e1 _
 subst e1
 refine ⟨dv, (ce.drop (j * 2)).drop 2, ?_, hdv, hne, hjl⟩
 conv => lhs; rw [← List.take_append_drop 2 (ce.drop (j * 2)), hc2]
 rfl
theorem last_runs {w0 : World} {S : St} {Q : AEnd → St → Prop} {L : RL} {X : RN} {i : Int} (h : RaftAt S L X) (hi : i < 9223372036854775808) (h0 : 0 ≤ i) (hQ : Q (.ret (.int .u64 (lastT X.log i.toNat : Nat))) S) : RSim Try.prog w0 n_raft_Node_last [.ptr (some (L.r, 0)), .int .i64 i] S Q := by
 have ex := h.ex
 have hll := h.ok.ll
 obtain ⟨hE, _⟩ := h.lg
 obtain ⟨ce, he⟩ := hE.len
 unfold RN.cells at ex
 rw [he] at ex
 by_cases hb : i < 1 ∨ i > X.log.length
 ·have hz : lastT X.log i.toNat = 0 := by
   rcases hb with hb | hb
   ·have : i.toNat = 0 := by omega
    rw [this]; rfl
   ·obtain ⟨k, hk⟩ : ∃ k, i.toNat = k + 1 := ⟨i.toNat - 1, by omega⟩
    rw [hk]
    show ((X.log[k]?).map LE.t).getD 0 = 0
    rw [List.getElem?_eq_none (by omega)]; rfl
  rw [hz] at hQ
  by_cases h1 : i < 1
  ·have q1 : decide (i < 1) = true := decide_eq_true h1
   refine RSim.run mixed k_raft_Node_last ?_ (by simp)
   simp only [b_raft_Node_last, go_sem, q1]
   refine wc_ite (b := true) (by simp only [go_sem] <;> rfl) (fun _ => ?_) (fun h => by cases h)
   simp only [go_sem]
   exact hQ
  ·have q1 : decide (i < 1) = false := decide_eq_false h1
   have q2 : decide (i > (X.log.length : Int)) = true := decide_eq_true (hb.resolve_left h1)
   refine RSim.run mixed k_raft_Node_last ?_ (by simp)
   simp only [b_raft_Node_last, go_sem, q1, ex, q2]
   refine wc_ite (b := true) (by simp only [go_sem] <;> rfl) (fun _ => ?_) (fun h => by cases h)
   simp only [go_sem]
   exact hQ
 ·have q1 : decide (i < 1) = false := decide_eq_false fun h => hb (.inl h)
  have q2 : decide (i > (X.log.length : Int)) = false := decide_eq_false fun h => hb (.inr h)
  obtain ⟨k, hk⟩ : ∃ k : Nat, i = ((k + 1 : Nat) : Int) := ⟨i.toNat - 1, by omega⟩
  subst hk
  have hkl : k < X.log.length := by omega
  obtain ⟨x, hx⟩ : ∃ x, X.log[k]? = some x := ⟨_, List.getElem?_eq_getElem hkl⟩
  have w1 : IntKind.i64.wrap (((k + 1 : Nat) : Int) - 1) = ((k : Nat) : Int) := by rw [w64 (by omega) (by omega)]; omega
  obtain ⟨dv, rest, hd, hdv, hne, _⟩ := le_at hE he hx
  have hjt : (k < X.log.length) = True := eq_true hkl
  have htn : (L.tl = .nil) = False := eq_false hne
  have hlt : lastT X.log ((k + 1 : Nat) : Int).toNat = x.t := by
   rw [Int.toNat_natCast]
   show ((X.log[k]?).map LE.t).getD 0 = x.t
   rw [hx]; rfl
  rw [hlt] at hQ
  refine RSim.run mixed k_raft_Node_last ?_ (by simp)
  simp only [b_raft_Node_last, go_sem, q1, ex, q2]
  refine wc_ite (b := false) (by simp only [go_sem] <;> rfl) (fun h => by cases h) (fun _ => ?_)
  simp only [go_sem, ex, w1, hjt, htn, hd]
  exact hQ
theorem rest_runs {w0 : World} {S : St} {Q : AEnd → St → Prop} {L : RL} {X : RN} (h : RaftAt S L X) (hQ : ∀ S', RAft S L X S' L X.rest → Q (.ret (.tup [])) S') : RSim Try.prog w0 n_raft_Node_rest [.ptr (some (L.r, 0))] S Q := by
 have ex := h.ex
 have hk := h.ok
 have hd := hk.draw
 have tm : (X.draw : Int).tmod 10 = ((X.draw % 10 : Nat) : Int) := by rw [Int.tmod_eq_emod_of_nonneg (by omega)]; omega
 have cv : ∀ S, V.conv S (.int .i64) (.int .u64 ((X.draw % 10 : Nat) : Int)) = some (.int .i64 ((X.draw % 10 : Nat) : Int)) := fun S => by simp only [V.conv]; rw [w64 (by omega) (by omega)]
 have w1 : IntKind.i64.wrap (10 + ((X.draw % 10 : Nat) : Int)) = ((10 + X.draw % 10 : Nat) : Int) := by rw [w64 (by omega) (by omega)]; omega
 have a := h.put (X' := X.rest) rfl rfl rfl rfl rfl rfl rfl ⟨hk.n0, hk.n5, hk.me, hk.term, hk.v0, hk.vn, hk.log, hk.ll, hk.cm, hk.role, hk.h0, hk.hn, hk.cand, hk.lead, hk.next, hk.mat, Nat.zero_le _, by simp only [RN.rest]; omega, hk.draw, hk.out, hk.rl⟩ rfl
 unfold RN.cells at ex a
 refine RSim.run mixed k_raft_Node_rest ?_ (by simp)
 simp only [b_raft_Node_rest, go_sem, ex, tm, cv, w1]
 exact hQ _ a
theorem fail_runs {w0 : World} {S : St} {Q : AEnd → St → Prop} {L : RL} {X : RN} {e : Int} (h : RaftAt S L X) (hQ : ∀ S' L', RAft S L X S' L' X.failed → L'.D = L.D → Q (.ret (.int .i64 e)) S') : RSim Try.prog w0 n_raft_Node_fail [.ptr (some (L.r, 0)), .int .i64 e] S Q := by
 have ex := h.ex
 have hk := h.ok
 have a : RAft S L X (S.set L.r (.cells (RN.cells X.failed { L with vo := .sl [] 0 3 .nil, to := .nil }))) { L with vo := .sl [] 0 3 .nil, to := .nil } X.failed := by
  have ok' : X.failed.Ok := ⟨hk.n0, hk.n5, hk.me, hk.term, hk.v0, hk.vn, hk.log, hk.ll, hk.cm, hk.role, hk.h0, hk.hn, hk.cand, hk.lead, hk.next, hk.mat, hk.idle, hk.limit, hk.draw, Nat.zero_le _, hk.rl⟩
  refine RAft.of h ?_ h.d ok' rfl
  have a1 : Aft S (.list PkR 3 L.vo X.out L.to) S (.list PkR 3 (.sl [] 0 3 .nil) [] .nil) := ⟨⟨isSlice_nil PkR 3, trivial⟩, Keeps.refl _ _, fun j hj => by cases hj⟩
  have b1 := Aft.part h.h (m := [.cells L.r (X.cells L), .list LER 2 L.vl X.log L.tl, .row L.vv (X.votes.map V.bool) L.ov, .row L.vn (X.next.map natV) L.on, .row L.vm (X.mat.map natV) L.om, .wal L.i L.g L.D raftN X.R L.tw])
   (List.perm_middle (l₁ := [_, _])) a1 (List.perm_middle (l₁ := [Res.cells L.r (X.cells L), Res.list LER 2 L.vl X.log L.tl]))
  have h2 : Hold S _ := b1.p
  exact b1.trans (Aft.part h2 (List.Perm.refl _) (Aft.set h2.head) (List.Perm.refl _))
 unfold RN.cells at ex a
 refine RSim.run mixed k_raft_Node_fail ?_ (by simp)
 simp only [b_raft_Node_fail, go_sem, ex]
 exact hQ _ _ a rfl
theorem hardB_len {X : RN} (h : X.Ok) : X.hardB.length ≤ 21 := by
 have h1 := h.term
 have h2 := h.vn
 have h3 := h.n5
 have u1 := uvar_len10 (v := X.term) (by omega)
 have u2 := uvar_len10 (v := (X.vote + 1).toNat) (by omega)
 simp only [RN.hardB, List.length_cons, List.length_append]; omega
theorem recE_len {i : Nat} {x : LE} (h : x.Ok) (hi : i < 18446744073709551616) : (recE i x).length ≤ 221 := by
 have h1 := h.t
 have h2 := h.d
 have u1 := uvar_len10 hi
 have u2 := uvar_len10 (v := x.t) (by omega)
 simp only [recE, List.length_cons, List.length_append]; omega
theorem hard_runs {w0 : World} {S : St} {Q : AEnd → St → Prop} {L : RL} {X : RN} (h : RaftAt S L X) (hQ : ∀ S' v', BT S S' v' X.hardB → Keeps (fun _ => False) S S' → Q (.ret v') S') : RSim Try.prog w0 n_raft_Node_hard [.ptr (some (L.r, 0))] S Q := by
 have ex := h.ex
 have ht := h.ok.term
 have hv0 := h.ok.v0
 have hvn := h.ok.vn
 have hn5 := h.ok.n5
 have w1 : IntKind.i64.wrap (X.vote + 1) = X.vote + 1 := w64 (by omega) (by omega)
 have cv : ∀ S, V.conv S (.int .u64) (.int .i64 (X.vote + 1)) = some (.int .u64 (((X.vote + 1).toNat : Nat) : Int)) := fun S => by simp only [V.conv]; rw [wu64 (by omega) (by omega)]; congr 2; omega
 unfold RN.cells at ex
 refine RSim.run mixed k_raft_Node_hard ?_ (by simp)
 simp only [b_raft_Node_hard, go_sem, ex]
 refine wi_call ?_
 simp only [go_sem]
 refine uvarint_own (v := X.term) (by omega) fun S1 v1 b1 k1 => ?_
 have u1 := uvar_len10 (v := X.term) (by omega)
 have u2 := uvar_len10 (v := (X.vote + 1).toNat) (by omega)
 simp only [go_sem]
 refine wi_appendBT (S0 := S) (v := .sl [.int .u8 72] 1 1 .cap) (bs := [72]) (cs := uvar X.term) (by simp only [go_sem]) ⟨.cap, rfl, trivial, fun h => (by cases h), fun j h => (by cases h)⟩ (by simp only [go_sem]; exact b1.is.elems _) (by simp only [List.length_cons, List.length_nil]; omega) k1 fun v2 S2 k2 b2 p2 => ?_
 have ex2 := k2.cells ex h.lt _root_.id
 simp only [go_sem, ex2, w1, cv]
 refine wi_call ?_
 simp only [go_sem]
 refine uvarint_own (v := (X.vote + 1).toNat) (by omega) fun S3 v3 b3 k3 => ?_
 have b2 := b2.keep k3
 have k3 := k2.trans k3 (fun _ _ => _root_.id)
 simp only [go_sem]
 refine wi_appendBT (cs := uvar (X.vote + 1).toNat) (by simp only [go_sem]) b2 (by simp only [go_sem]; exact b3.is.elems _) (by simp only [List.length_cons, List.length_nil, List.length_append]; omega) k3 fun v4 S4 k4 b4 p4 => ?_
 simp only [go_sem]
 exact hQ S4 v4 b4 k4
theorem record_runs {w0 : World} {S : St} {Q : AEnd → St → Prop} {L : RL} {X : RN} {i : Nat} {x : LE} (h : RaftAt S L X) (hi : 1 ≤ i) (hx : X.log[i - 1]? = some x) (hQ : ∀ S' v', BT S S' v' (recE i x) → Keeps (fun _ => False) S S' → Q (.ret v') S') : RSim Try.prog w0 n_raft_Node_record [.ptr (some (L.r, 0)), .int .i64 (i : Nat)] S Q := by
 have ex := h.ex
 have hll := h.ok.ll
 have hjl := (List.getElem?_eq_some_iff.1 hx).1
 have hxo := h.ok.log x (List.mem_of_getElem? hx)
 have hxt := hxo.t
 have hxd := hxo.d
 obtain ⟨hE, _⟩ := h.lg
 obtain ⟨ce, he⟩ := hE.len
 obtain ⟨dv, rest, hd, hdv, hne, _⟩ := le_at hE he hx
 have hjt : (i - 1 < X.log.length) = True := eq_true hjl
 have htn : (L.tl = .nil) = False := eq_false hne
 have w1 : IntKind.i64.wrap ((i : Int) - 1) = ((i - 1 : Nat) : Int) := by rw [w64 (by omega) (by omega)]; omega
 have cv : ∀ S, V.conv S (.int .u64) (.int .i64 (i : Int)) = some (.int .u64 (i : Int)) := fun S => by simp only [V.conv]; rw [wu64 (by omega) (by omega)]
 unfold RN.cells at ex
 rw [he] at ex
 have u1 := uvar_len10 (v := i) (by omega)
 have u2 := uvar_len10 (v := x.t) (by omega)
 refine RSim.run mixed k_raft_Node_record ?_ (by simp)
 simp only [b_raft_Node_record, go_sem, cv]
 refine wi_call ?_
 simp only [go_sem]
 refine uvarint_own (v := i) (by omega) fun S1 v1 b1 k1 => ?_
 simp only [go_sem]
 refine wi_appendBT (S0 := S) (v := .sl [.int .u8 69] 1 1 .cap) (bs := [69]) (cs := uvar i) (by simp only [go_sem]) ⟨.cap, rfl, trivial, fun h => (by cases h), fun j h => (by cases h)⟩ (by simp only [go_sem]; exact b1.is.elems _) (by simp only [List.length_cons, List.length_nil]; omega) k1 fun v2 S2 k2 b2 p2 => ?_
 have ex2 := k2.cells ex h.lt _root_.id
 simp only [go_sem, ex2, w1, hjt, htn, hd]
 refine wi_call ?_
 simp only [go_sem]
 refine uvarint_own (v := x.t) (by omega) fun S3 v3 b3 k3 => ?_
 have b2 := b2.keep k3
 have k3 := k2.trans k3 (fun _ _ => _root_.id)
 simp only [go_sem]
 refine wi_appendBT (cs := uvar x.t) (by simp only [go_sem]) b2 (by simp only [go_sem]; exact b3.is.elems _) (by simp only [List.length_cons, List.length_nil, List.length_append]; omega) k3 fun v4 S4 k4 b4 p4 => ?_
 have ex4 := k4.cells ex h.lt _root_.id
 simp only [go_sem, ex4, w1, hjt, htn, hd]
 refine wi_appendBT (cs := x.d) (by simp only [go_sem]) b4 (by simp only [go_sem]; exact hdv.elems _) (by simp only [List.length_cons, List.length_nil, List.length_append]; omega) k4 fun v5 S5 k5 b5 p5 => ?_
 simp only [go_sem]
 refine hQ S5 v5 ?_ k5
 simpa [recE] using b5
theorem keep_runs {w0 : World} {S : St} {Q : AEnd → St → Prop} {L : RL} {X : RN} {l : List (List UInt8)} {vl : V} {tl : Tok} (h : RaftAt S L X) (hl : IsSlice BytesR 1 vl l tl) (hs : ∀ r ∈ l, r.length ≤ 65535) (hr : X.R.length + l.length ≤ 1000000)
  (hQ : ∀ S' L', RAft S L X S' L' (X.keep l).2 → Q (.ret (.int .i64 (X.keep l).1)) S') : RSim Try.prog w0 n_raft_Node_keep [.ptr (some (L.r, 0)), vl] S Q := by
 obtain ⟨cl, rfl⟩ := hl.len
 have hlat := fun {j : Nat} {p : List UInt8} (hp : l[j]? = some p) => hl.at_ hp
 clear hl
 refine RSim.run mixed k_raft_Node_keep ?_ (by simp)
 simp only [b_raft_Node_keep, go_sem]
 refine loop_rule RSim.le (k := l.length) (fun m fr Sa => ∃ (j : Nat) (La : RL) (Da : DS) (Ra : List (List UInt8)), m = l.length - j ∧ j ≤ l.length ∧ fr 0 = .ptr (some (L.r, 0)) ∧ fr 9 = .sl cl l.length 1 tl ∧ fr 10 = .int .i64 (l.length : Nat) ∧ fr 11 = .int .i64 (j : Nat) ∧
   keepL l X.D X.R = keepL (l.drop j) Da Ra ∧ Ra.length = X.R.length + j ∧ RAft S L X Sa La (X.dr Da Ra)) ?_
  ⟨0, L, X.D, X.R, rfl, by omega, by simp only [go_sem], by simp only [go_sem], by simp only [go_sem], by simp only [go_sem]; rfl, rfl, rfl, RAft.refl h⟩
 rintro m fr Sa ⟨j, La, Da, Ra, hm, hj, f0, f9, f10, f11, hK, hRl, hA⟩
 have exA := hA.w.ex
 have hrA : La.r = L.r := hA.2.1
 have hdA : Da = La.D.abs := hA.w.d
 rw [hrA] at exA
 unfold RN.cells at exA
 simp only [l_raft_Node_keep_0, go_sem, f10, f11]
 refine wc_ite (b := decide ((j : Int) < (l.length : Int))) (by simp only [go_sem]) (fun hc => ?_) (fun hc => ?_)
 ·have hlt : j < l.length := by have := of_decide_eq_true hc; omega
  have w1 : IntKind.i64.wrap ((j : Int) + 1) = ((j + 1 : Nat) : Int) := by rw [w64 (by omega) (by omega)]; omega
  obtain ⟨p, hp⟩ : ∃ p, l[j]? = some p := ⟨_, List.getElem?_eq_getElem hlt⟩
  have hps := hs p (List.mem_of_getElem? hp)
  obtain ⟨cs, c, e1, hne, hjl, ht, _, hc2, pv, rfl, hpv⟩ := hlat hp
  injection e1 with e1 _
  subst e1
  have hjt : (j < l.length) = True := eq_true hlt
  have htn : (tl = .nil) = False := eq_false hne
  have hhd : (cl.drop (j * 1)).head? = some pv := by
   cases hcd : cl.drop (j * 1) with
   | nil => rw [hcd] at hc2; simp at hc2
   | cons a b => rw [hcd] at hc2; simp at hc2; rw [hc2]; rfl
  have hdr : l.drop j = p :: l.drop (j + 1) := by
   rw [List.drop_eq_getElem_cons hlt]
   congr 1
   exact (List.getElem?_eq_some_iff.1 hp).2
  rw [hdr] at hK
  conv at hK => rhs; unfold keepL
  simp only [go_sem, f0, f9, f11, hjt, htn, hhd, exA]
  refine wi_call ?_
  simp only [go_sem]
  refine logAppend_runs hA.w.w hpv (show Ra.length ≤ _ by omega) (fun h => by omega) (fun Sb Db _ W a hne' => ?_) fun Sb Db tb _ W a he => ?_
  ·rw [← hdA] at a hne' ⊢
   rw [if_pos hne'] at hK
   have hB := hA.trans (hA.w.wal W hA.w.ok.rl)
   have qe : ((Da.grow raftN (frameB p) false).1 != 0) = true := by simpa using hne'
   simp only [go_sem, qe]
   refine wc_ite (b := true) (by simp only [go_sem] <;> rfl) (fun _ => ?_) (fun h => by cases h)
   simp only [go_sem, f0]
   refine wi_call ?_
   simp only [go_sem]
   rw [← hrA]
   refine fail_runs (L := { La with D := Db, tw := La.tw }) hB.w fun Sc Lc C _ => ?_
   simp only [go_sem]
   unfold RN.keep at hQ
   rw [hK] at hQ
   simp only at hQ
   rw [if_neg hne'] at hQ
   have hC := hB.trans C
   rw [a] at hC
   exact hQ Sc Lc hC
  ·rw [← hdA] at a he
   rw [if_neg (by rw [he]; simp)] at hK
   have hB := hA.trans (hA.w.wal W (show (Ra ++ [p]).length ≤ _ by simp only [List.length_append, List.length_cons, List.length_nil]; omega))
   rw [a] at hB
   simp only [go_sem]
   refine wc_ite (b := false) (by simp only [go_sem] <;> rfl) (fun h => by cases h) (fun _ => ?_)
   simp only [go_sem, f11, w1]
   exact ⟨l.length - (j + 1), by omega, j + 1, _, _, _, rfl, by omega, f0, f9, f10, rfl, hK, by simp only [List.length_append, List.length_cons, List.length_nil]; omega, hB⟩
 ·have hje : j = l.length := by have := of_decide_eq_false hc; omega
  subst hje
  rw [List.drop_length] at hK
  conv at hK => rhs; unfold keepL
  simp only [go_sem, s_raft_Node_keep_0, f0, exA]
  refine wi_call ?_
  simp only [go_sem]
  refine logSync_runs hA.w.w fun Sb Db W a => ?_
  rw [← hdA] at a ⊢
  have hRR : (X.dr Da Ra).R = Ra := rfl
  rw [hRR] at a ⊢
  have hB := hA.trans (hA.w.wal W hA.w.ok.rl)
  unfold RN.keep at hQ
  rw [hK] at hQ
  rw [a] at hB
  simp only at hQ
  by_cases e0 : (Da.syncL raftN Ra).1 = 0
  ·rw [if_pos e0] at hQ
   have qe : ((Da.syncL raftN Ra).1 != 0) = false := by rw [e0]; rfl
   simp only [go_sem, qe]
   refine wc_ite (b := false) (by simp only [go_sem] <;> rfl) (fun h => by cases h) (fun _ => ?_)
   simp only [go_sem]
   exact hQ Sb _ hB
  ·rw [if_neg e0] at hQ
   have qe : ((Da.syncL raftN Ra).1 != 0) = true := by simpa using e0
   simp only [go_sem, qe]
   refine wc_ite (b := true) (by simp only [go_sem] <;> rfl) (fun _ => ?_) (fun h => by cases h)
   simp only [go_sem, f0]
   refine wi_call ?_
   simp only [go_sem]
   rw [← hrA]
   refine fail_runs (L := { La with D := Db, tw := La.tw }) hB.w fun Sc Lc C _ => ?_
   simp only [go_sem]
   exact hQ Sc Lc (hB.trans C)
theorem send_runs {w0 : World} {S : St} {Q : AEnd → St → Prop} {L : RL} {X : RN} {m : Ms} {ve : V} {te : Tok} {to : Nat} (h : RaftAt S L X) (hm : m.Ok) (hE : IsSlice LER 2 ve m.ents te) (ho : X.out.length < 1000000)
  (hQ : ∀ S' L', RAft S L X S' L' (X.sent to m) → Q (.ret (.tup [])) S') : RSim Try.prog w0 n_raft_Node_send [.ptr (some (L.r, 0)), .int .i64 (to : Nat), .agg (m.v ve)] S Q := by
 have hone := hE.one
 have hcl := cells_one hone
 have ex := h.ex
 have hrl := h.lt
 have hk := h.ok
 have hne : ¬ L.r = S.n := by omega
 have htm := hk.term
 have hm' : ({ m with term := X.term } : Ms).Ok := ⟨hm.kind, by simp only; omega, hm.index, hm.at_, hm.commit, hm.n, hm.ents⟩
 have k0 : Keeps (fun _ => False) S ((S.add (.cells (m.v ve))).set S.n (.cells (({ m with term := X.term } : Ms).v ve))) := ((Keeps.refl _ S).add _).set (.inr (Nat.le_refl _)) _
 have c0 : ((S.add (.cells (m.v ve))).set S.n (.cells (({ m with term := X.term } : Ms).v ve))).cells S.n = some (({ m with term := X.term } : Ms).v ve) := by rw [cells_setc, if_pos rfl]
 have l0 : S.n < ((S.add (.cells (m.v ve))).set S.n (.cells (({ m with term := X.term } : Ms).v ve))).n := by rw [St.set_n, St.add_n]; omega
 have go : ∀ (S1 : St) (Q' : AEnd → St → Prop), (∀ S' v', BT S1 S' v' (msB { m with term := X.term }) → Keeps (fun _ => False) S1 S' → Q' (.ret v') S') → RSim Try.prog w0 n_raft_message_encode [.agg (({ m with term := X.term } : Ms).v ve)] S1 Q' := fun S1 Q' hQ' => encodeM_runs hm' hE hQ'
 unfold RN.cells at ex
 simp only [Ms.v] at k0 c0 l0 go ⊢
 refine RSim.run mixed k_raft_Node_send ?_ (by simp)
 simp only [b_raft_Node_send, go_sem, ex, hone, hne]
 generalize (S.add (.cells _)).set S.n (.cells _) = S1 at *
 have h1 := h.stay k0
 have ex1 := h1.ex
 obtain ⟨hO, hto⟩ := h1.ou
 obtain ⟨co, hvo⟩ := hO.len
 have hoone := hO.one
 have hocl := cells_one hoone
 unfold RN.cells at ex1
 refine wi_call ?_
 simp only [go_sem]
 refine go S1 _ fun S2 v2 b2 k2 => ?_
 have h2 := h1.stay k2
 have ex2 := h2.ex
 obtain ⟨hO2, hto2⟩ := h2.ou
 have hvone := b2.is.one
 have hvcl := cells_one hvone
 unfold RN.cells at ex2
 simp only [go_sem, ex2, hvone, hvcl]
 refine wi_appendR (v := L.vo) (l := X.out) (y := ⟨X.me, to, msB { m with term := X.term }⟩) (c := [.int .i64 (X.me : Nat), .int .i64 (to : Nat), v2]) (by simp only [go_sem]) hO2 (by simp only [go_sem]; rfl) rfl ⟨v2, rfl, b2.is⟩ (by omega) hto2 fun to' S3 vo' hO3 k3 hto3 hn3 hne3 => ?_
 have a1 : Aft S2 (.list PkR 3 L.vo X.out L.to) S3 (.list PkR 3 vo' (X.out ++ [⟨X.me, to, msB { m with term := X.term }⟩]) to') := ⟨⟨hO3, hto3⟩, k3.mono fun j _ hj => hj, fun j hj => .inr (hn3 j hj)⟩
 have hout := h2.lg
 have exk : S3.cells L.r = some (X.cells L) := k3.cells h2.ex h2.lt fun ho => by
  have : TokOk S2 L.to := hto2
  have hcell := this.not_own h2.ex
  exact hcell ho
 have hone3 := hO3.one
 have hcl3 := cells_one hone3
 have b1 := Aft.part h2.h (m := [Res.cells L.r (X.cells L), Res.list LER 2 L.vl X.log L.tl, Res.row L.vv (X.votes.map V.bool) L.ov, Res.row L.vn (X.next.map natV) L.on, Res.row L.vm (X.mat.map natV) L.om, Res.wal L.i L.g L.D raftN X.R L.tw])
   (List.perm_middle (l₁ := [_, _])) a1 (List.perm_middle (l₁ := [Res.cells L.r (X.cells L), Res.list LER 2 L.vl X.log L.tl]))
 have hh2 : Hold S3 _ := b1.p
 have b2' := b1.trans (Aft.part hh2 (List.Perm.refl _) (Aft.set (cs' := RN.cells (X.sent to m) { L with vo := vo', to := to' }) hh2.head) (List.Perm.refl _))
 have ok' : (X.sent to m).Ok := ⟨hk.n0, hk.n5, hk.me, hk.term, hk.v0, hk.vn, hk.log, hk.ll, hk.cm, hk.role, hk.h0, hk.hn, hk.cand, hk.lead, hk.next, hk.mat, hk.idle, hk.limit, hk.draw, by simp only [RN.sent, List.length_append, List.length_cons, List.length_nil]; omega, hk.rl⟩
 have fin := (RAft.new h (k0.trans k2 fun _ _ => _root_.id)).trans (RAft.of (L' := { L with vo := vo', to := to' }) (X' := X.sent to m) h2 b2' h.d ok' rfl)
 unfold RN.cells at exk fin
 simp only [go_sem, exk, hone3, hcl3]
 exact hQ _ _ fin
end Go.VM
namespace Go.VM
open Go Go.RowKit Go.Proofs
theorem wc_alt {cl : Cl} {fr : Fr} {S : St} {Q : CPost} {i j : Nat} {a b : Cd} (ha : wCode cl a fr S Q) (hb : wCode cl b fr S Q) : wCode cl (.alt i j a b) fr S Q := ⟨ha, hb⟩
theorem IsSlice.part {α : Type} {R : List V → α → Prop} {sz : Nat} {cs : List V} {n : Nat} {l : List α} {t t' : Tok} (h : IsSlice R sz (.sl cs n sz t) l t) {a b : Nat} (hab : a ≤ b) (hb : b ≤ l.length) (ht' : t' ≠ .nil) :
  IsSlice R sz (.sl ((cs.drop (a * sz)).take ((b - a) * sz)) (b - a) sz t') ((l.drop a).take (b - a)) t' := by
 obtain ⟨L, e, hn, hs, hl, hR⟩ := h.ex
 injection e with e1 e2
 subst e1
 have h1 : ∀ c ∈ L.drop a, c.length = sz := fun c hc => hs c (List.mem_of_mem_drop hc)
 refine ⟨(L.drop a).take (b - a), ?_, fun e => absurd e ht', fun c hc => h1 c (List.mem_of_mem_take hc), by rw [List.length_take, List.length_take, List.length_drop, List.length_drop, hl], fun j c x hc hx => ?_⟩
 ·rw [flat_drop a hs, flat_take (b - a) h1, List.length_take, List.length_drop, Nat.min_eq_left (by omega)]
 ·have hj : j < b - a := by
   have := (List.getElem?_eq_some_iff.1 hx).1
   rw [List.length_take] at this; omega
  rw [List.getElem?_take, if_pos hj, List.getElem?_drop] at hc hx
  exact hR _ c x hc hx
def RN.ask (X : RN) (to : Nat) : Ms := ⟨3, false, 0, X.next.getD to 1 - 1, lastT X.log (X.next.getD to 1 - 1), X.commit, (X.log.drop (X.next.getD to 1 - 1)).take 16⟩
def RN.tellOne (X : RN) (to : Nat) : RN := X.sent to (X.ask to)
theorem lastT_lt {l : List LE} (h : ∀ x ∈ l, x.Ok) (i : Nat) : lastT l i < 9223372036854775808 := by
 cases i with
 | zero => exact (show (0 : Nat) < 9223372036854775808 by decide)
 | succ i =>
  show ((l[i]?).map LE.t).getD 0 < _
  cases hx : l[i]? with
  | none => exact (show (0 : Nat) < 9223372036854775808 by decide)
  | some x => exact (h x (List.mem_of_getElem? hx)).t
theorem row_at {S : St} {v : V} {l : List Nat} {o : Nat} (h : RowAt S v (l.map natV) l.length 1 o) {j k : Nat} (hk : l[j]? = some k) : v = .msl o 0 l.length 1 ∧ S.cells o = some (l.map natV) ∧ o < S.n ∧ j < l.length ∧ ((l.map natV).drop (j * 1)).head? = some (.int .i64 (k : Nat)) := by
 have hj := (List.getElem?_eq_some_iff.1 hk).1
 rcases h with ⟨h0, _⟩ | ⟨_, h1, h2, _, h4⟩
 ·omega
 ·exact ⟨h1, h2, h4, hj, by rw [Nat.mul_one, List.head?_drop, List.getElem?_map, hk]; rfl⟩
theorem tellOne_runs {w0 : World} {S : St} {Q : AEnd → St → Prop} {L : RL} {X : RN} {to : Nat} (h : RaftAt S L X) (hr : X.role = 2) (ht : to < X.n) (ho : X.out.length < 1000000)
  (hQ : ∀ S' L', RAft S L X S' L' (X.tellOne to) → Q (.ret (.tup [])) S') : RSim Try.prog w0 n_raft_Node_tellOne [.ptr (some (L.r, 0)), .int .i64 (to : Nat)] S Q := by
 have ex := h.ex
 have hk := h.ok
 have hll := hk.ll
 have hcm := hk.cm
 have hnl := (hk.lead hr).1
 obtain ⟨k, hkk⟩ : ∃ k, X.next[to]? = some k := ⟨_, List.getElem?_eq_getElem (by omega)⟩
 obtain ⟨k1, k2, _⟩ := hk.next k (List.mem_of_getElem? hkk)
 have k2 := k2 hr
 obtain ⟨hv, hcn, hon, hjl, hhd⟩ := row_at h.vn hkk
 have hgd : X.next.getD to 1 = k := by rw [List.getD_eq_getElem?_getD, hkk]; rfl
 obtain ⟨f, hf⟩ : ∃ f, k = f + 1 := ⟨k - 1, by omega⟩
 subst hf
 have hgf : X.next.getD to 1 - 1 = f := by omega
 have w1 : IntKind.i64.wrap (((f + 1 : Nat) : Int) - 1) = ((f : Nat) : Int) := by rw [w64 (by omega) (by omega)]; omega
 have cvf : ∀ S, V.conv S (.int .u64) (.int .i64 (f : Int)) = some (.int .u64 (f : Int)) := fun S => by simp only [V.conv]; rw [wu64 (by omega) (by omega)]
 have cvc : ∀ S, V.conv S (.int .u64) (.int .i64 (X.commit : Int)) = some (.int .u64 (X.commit : Int)) := fun S => by simp only [V.conv]; rw [wu64 (by omega) (by omega)]
 have w16 : IntKind.i64.wrap ((f : Int) + 16) = ((f + 16 : Nat) : Int) := by rw [w64 (by omega) (by omega)]; omega
 have hmin : (if (((f + 16 : Nat) : Int) < (X.log.length : Int)) then ((f + 16 : Nat) : Int) else (X.log.length : Int)) = ((min X.log.length (f + 16) : Nat) : Int) := by
  split
  ·rw [Nat.min_eq_right (by omega)]
  ·rw [Nat.min_eq_left (by omega)]
 have hlt := lastT_lt hk.log f
 have hjt : (to < X.next.length) = True := eq_true hjl
 -- from where the message is made
 have tail : ∀ (fr : Fr) (S1 : St) (M : Nat), Keeps (fun _ => False) S S1 → S.n ≤ M → M < S1.n → S1.cells M = some (Ms.v ⟨3, false, 0, f, lastT X.log f, X.commit, []⟩ (.sl [] 0 2 .nil)) → fr 0 = .ptr (some (L.r, 0)) → fr 1 = .int .i64 (to : Nat) → fr 4 = .int .i64 (f : Nat) → fr 5 = .ptr (some (M, 0)) →
   wCode (RSim Try.prog w0) r_raft_Node_tellOne_0 fr S1 (resQ [] Q) := by
  intro fr S1 M kk hM lM cM f0 f1 f4 f5
  have h1 := h.stay kk
  have ex1 := h1.ex
  obtain ⟨hE, _⟩ := h1.lg
  obtain ⟨ce, he⟩ := hE.len
  unfold RN.cells at ex1
  rw [he] at ex1 hE
  have hMr : ¬ L.r = M := by have := h.lt; omega
  have hmm : min X.log.length (f + 16) ≤ X.log.length := Nat.min_le_left _ _
  have hfm : f ≤ min X.log.length (f + 16) := by omega
  have hfm' : (f ≤ min X.log.length (f + 16)) = True := eq_true hfm
  have hmm' : (min X.log.length (f + 16) ≤ X.log.length) = True := eq_true hmm
  have hents : (X.log.drop f).take 16 = (X.log.drop f).take (min X.log.length (f + 16) - f) := by
   by_cases hb : X.log.length ≤ f + 16
   ·rw [Nat.min_eq_left hb, List.take_of_length_le (by rw [List.length_drop]; omega), List.take_of_length_le (by rw [List.length_drop]; omega)]
   ·rw [Nat.min_eq_right (by omega)]; congr 1; omega
  have fin : ∀ (S2 : St) (ve : V) (te : Tok) (Q' : AEnd → St → Prop), S2 = S1.set M (.cells (Ms.v ⟨3, false, 0, f, lastT X.log f, X.commit, (X.log.drop f).take 16⟩ ve)) → IsSlice LER 2 ve ((X.log.drop f).take 16) te → (∀ S3 L3, RAft S L X S3 L3 (X.tellOne to) → Q' (.ret (.tup [])) S3) →
    RSim Try.prog w0 n_raft_Node_send [.ptr (some (L.r, 0)), .int .i64 (to : Nat), .agg (Ms.v ⟨3, false, 0, f, lastT X.log f, X.commit, (X.log.drop f).take 16⟩ ve)] S2 Q' := by
   intro S2 ve te Q' hS2 hve hQ'
   have k2 : Keeps (fun _ => False) S S2 := by rw [hS2]; exact kk.set (.inr hM) _
   have hask : X.ask to = ⟨3, false, 0, f, lastT X.log f, X.commit, (X.log.drop f).take 16⟩ := by unfold RN.ask; rw [hgf]
   have hmok : (⟨3, false, 0, f, lastT X.log f, X.commit, (X.log.drop f).take 16⟩ : Ms).Ok :=
    ⟨show 3 < 256 by decide, show 0 < 18446744073709551616 by decide, by simp only; omega, by simp only; omega, by simp only; omega, by simp only [List.length_take]; omega, fun x hx => hk.log x (List.mem_of_mem_drop (List.mem_of_mem_take hx))⟩
   have h2 := h.stay k2
   refine send_runs (m := ⟨3, false, 0, f, lastT X.log f, X.commit, (X.log.drop f).take 16⟩) (ve := ve) (te := te) h2 hmok hve ho fun S3 L3 a3 => ?_
   rw [← hask] at a3
   exact hQ' S3 L3 ((RAft.new h k2).trans a3)
  unfold Ms.v at cM fin
  by_cases htl : L.tl = .nil
  ·have hl0 : X.log = [] := by obtain ⟨_, _, hn, _⟩ := hE.ex; exact hn htl
   have hf0 : f = 0 := by rw [hl0] at k2; simp at k2; omega
   have htn : (L.tl = .nil) = True := eq_true htl
   simp only [r_raft_Node_tellOne_0, go_sem, f0, f1, f4, f5, ex1, w16, minmaxL, minmaxV, hmin, hfm', hmm', htn, cM, hMr]
   refine wi_call ?_
   simp only [go_sem]
   refine fin _ _ .nil _ rfl ?_ fun S3 L3 a3 => (by simp only [go_sem]; exact hQ S3 L3 a3)
   have e0 : (X.log.drop f).take 16 = X.log := by rw [hl0]; simp
   rw [e0]
   have hE0 := hE
   rw [htl] at hE0 ⊢
   exact hE0
  ·have htn : (L.tl = .nil) = False := eq_false htl
   by_cases hend : min X.log.length (f + 16) = X.log.length
   ·have hen : (min X.log.length (f + 16) = X.log.length) = True := eq_true hend
    simp only [r_raft_Node_tellOne_0, go_sem, f0, f1, f4, f5, ex1, w16, minmaxL, minmaxV, hmin, hfm', hmm', htn, hen, cM, hMr]
    refine wi_call ?_
    simp only [go_sem]
    refine fin _ _ L.tl _ rfl ?_ fun S3 L3 a3 => (by simp only [go_sem]; exact hQ S3 L3 a3)
    rw [hents]
    exact hE.part hfm hmm htl
   ·have hen : (min X.log.length (f + 16) = X.log.length) = False := eq_false hend
    simp only [r_raft_Node_tellOne_0, go_sem, f0, f1, f4, f5, ex1, w16, minmaxL, minmaxV, hmin, hfm', hmm', htn, hen, cM, hMr]
    refine wi_call ?_
    simp only [go_sem]
    refine fin _ _ .no _ rfl ?_ fun S3 L3 a3 => (by simp only [go_sem]; exact hQ S3 L3 a3)
    rw [hents]
    exact hE.part hfm hmm (by simp)
 have hxl := h.lt
 have hrn : ¬ L.r = S.n := by omega
 have hz : ((0 : Nat) : Int) = 0 := rfl
 have h3 : ((3 : Nat) : Int) = 3 := rfl
 unfold RN.cells at ex
 rw [hv] at ex
 unfold Ms.v at tail
 refine RSim.run mixed k_raft_Node_tellOne ?_ (by simp)
 simp only [b_raft_Node_tellOne, go_sem, ex, hcn, hjt, hhd, w1]
 refine wc_alt ?_ ?_
 ·simp only [go_sem, ex, cvf, cvc]
  refine wi_call ?_
  simp only [go_sem]
  refine last_runs h (by omega) (by omega) ?_
  rw [Int.toNat_natCast]
  simp only [go_sem, ex, hrn]
  refine tail _ _ S.n (((Keeps.refl _ S).add _).set (.inr (Nat.le_refl _)) _) (Nat.le_refl _) (by rw [St.set_n, St.add_n]; omega) (by rw [cells_setc, if_pos rfl]; rfl) (by simp only [go_sem]) (by simp only [go_sem]) (by simp only [go_sem]) (by simp only [go_sem])
 ·simp only [go_sem, ex, cvf, cvc, hrn]
  refine wi_call ?_
  simp only [go_sem]
  have k0 := (Keeps.refl (fun _ => False) S).add (.cells [.int .u8 0, .int .u64 0, .int .u64 0, .int .u64 0, .int .u64 0, .bool false, .sl [] 0 2 .nil])
  refine last_runs (h.stay k0) (by omega) (by omega) ?_
  rw [Int.toNat_natCast]
  simp only [go_sem, ex, hrn]
  refine tail _ _ S.n (k0.set (.inr (Nat.le_refl _)) _) (Nat.le_refl _) (by rw [St.set_n, St.add_n]; omega) (by rw [cells_setc, if_pos rfl]; rfl) (by simp only [go_sem]) (by simp only [go_sem]) (by simp only [go_sem]) (by simp only [go_sem])
def RN.asks (X : RN) (k : Nat) : List Pk := ((List.range k).filter fun to => to != X.me).map fun to => ⟨X.me, to, msB { X.ask to with term := X.term }⟩
def RN.tellK (X : RN) (k : Nat) : RN := { X with out := X.out ++ X.asks k }
def RN.tell (X : RN) : RN := X.tellK X.n
theorem asks_len (X : RN) (k : Nat) : (X.asks k).length ≤ k := by
 unfold RN.asks
 rw [List.length_map]
 exact Nat.le_trans (List.length_filter_le _ _) (by simp)
theorem tellK_succ (X : RN) (k : Nat) : X.tellK (k + 1) = if k = X.me then X.tellK k else (X.tellK k).tellOne k := by
 unfold RN.tellK RN.tellOne RN.sent RN.asks
 rw [List.range_succ, List.filter_append]
 by_cases h : k = X.me
 ·rw [if_pos h]
  have : (List.filter (fun to => to != X.me) [k]) = [] := by simp [h]
  rw [this, List.append_nil]
 ·rw [if_neg h]
  have : (List.filter (fun to => to != X.me) [k]) = [k] := by simp [h]
  rw [this, List.map_append, List.map_cons, List.map_nil, ← List.append_assoc]
  rfl
theorem tell_runs {w0 : World} {S : St} {Q : AEnd → St → Prop} {L : RL} {X : RN} (h : RaftAt S L X) (hr : X.role = 2) (ho : X.out.length + 5 ≤ 1000000) (hQ : ∀ S' L', RAft S L X S' L' X.tell → Q (.ret (.tup [])) S') : RSim Try.prog w0 n_raft_Node_tell [.ptr (some (L.r, 0))] S Q := by
 have ex := h.ex
 have hn5 := h.ok.n5
 unfold RN.cells at ex
 refine RSim.run mixed k_raft_Node_tell ?_ (by simp)
 simp only [b_raft_Node_tell, go_sem, ex]
 refine loop_rule RSim.le (k := X.n) (fun m fr Sa => ∃ (j : Nat) (La : RL), m = X.n - j ∧ j ≤ X.n ∧ fr 0 = .ptr (some (L.r, 0)) ∧ fr 6 = .int .i64 (X.n : Nat) ∧ fr 7 = .int .i64 (j : Nat) ∧ RAft S L X Sa La (X.tellK j)) ?_
  ⟨0, L, rfl, by omega, by simp only [go_sem], by simp only [go_sem], by simp only [go_sem]; rfl, by
   have e : X.tellK 0 = X := by unfold RN.tellK RN.asks; simp
   rw [e]; exact RAft.refl h⟩
 rintro m fr Sa ⟨j, La, hm, hj, f0, f6, f7, hA⟩
 have hrA : La.r = L.r := hA.2.1
 have exA := hA.w.ex
 rw [hrA] at exA
 unfold RN.cells at exA
 have hme : (X.tellK j).me = X.me := rfl
 rw [hme] at exA
 simp only [l_raft_Node_tell_0, go_sem, f6, f7]
 refine wc_ite (b := decide ((j : Int) < (X.n : Int))) (by simp only [go_sem]) (fun hc => ?_) (fun hc => ?_)
 ·have hlt : j < X.n := by have := of_decide_eq_true hc; omega
  have w1 : IntKind.i64.wrap ((j : Int) + 1) = ((j + 1 : Nat) : Int) := by rw [w64 (by omega) (by omega)]; omega
  have q1 : ((j : Int) != (X.me : Int)) = decide (j ≠ X.me) := by rw [Bool.eq_iff_iff, bne_iff_ne, decide_eq_true_iff]; omega
  have hsucc := tellK_succ X j
  by_cases hjm : j = X.me
  ·rw [decide_eq_false (by simpa using hjm)] at q1
   rw [if_pos hjm] at hsucc
   simp only [go_sem, f0, f7, exA, q1]
   refine wc_ite (b := false) (by simp only [go_sem] <;> rfl) (fun h => by cases h) (fun _ => ?_)
   simp only [go_sem, f7, w1]
   exact ⟨X.n - (j + 1), by omega, j + 1, La, rfl, by omega, f0, f6, rfl, by rw [hsucc]; exact hA⟩
  ·rw [decide_eq_true hjm] at q1
   rw [if_neg hjm] at hsucc
   simp only [go_sem, f0, f7, exA, q1]
   refine wc_ite (b := true) (by simp only [go_sem] <;> rfl) (fun _ => ?_) (fun h => by cases h)
   simp only [go_sem, f0]
   refine wi_call ?_
   simp only [go_sem]
   rw [← hrA]
   have hal := asks_len X j
   refine tellOne_runs hA.w hr hlt (by show (X.out ++ X.asks j).length < _; rw [List.length_append]; omega) fun Sb Lb b => ?_
   simp only [go_sem, f7, w1]
   exact ⟨X.n - (j + 1), by omega, j + 1, Lb, rfl, by omega, by rw [hrA]; exact f0, f6, rfl, by rw [hsucc]; exact hA.trans b⟩
 ·have hje : j = X.n := by have := of_decide_eq_false hc; omega
  subst hje
  simp only [go_sem]
  exact hQ Sa La hA
def cntM (me i : Nat) (l : List Nat) : Nat := ((List.range l.length).filter fun to => (to != me) && decide (i ≤ l.getD to 0)).length
def RN.adv (X : RN) : Nat → RN
 | 0 => X
 | i + 1 => if X.commit < i + 1 ∧ lastT X.log (i + 1) = X.term then (if X.n < 2 * (1 + cntM X.me (i + 1) X.mat) then { X with commit := i + 1 } else X.adv i) else X
theorem row_at' {S : St} {v : V} {l : List Nat} {o : Nat} (h : RowAt S v (l.map natV) l.length 1 o) (h0 : l ≠ []) : v = .msl o 0 l.length 1 ∧ S.cells o = some (l.map natV) ∧ o < S.n := by
 rcases h with ⟨h1, _⟩ | ⟨_, h1, h2, _, h4⟩
 ·exact absurd (List.eq_nil_of_length_eq_zero h1) h0
 ·exact ⟨h1, h2, h4⟩
theorem cnt_take (me i : Nat) (l : List Nat) (j : Nat) : ((List.range (j + 1)).filter fun to => (to != me) && decide (i ≤ l.getD to 0)).length = ((List.range j).filter fun to => (to != me) && decide (i ≤ l.getD to 0)).length + (if ((j != me) && decide (i ≤ l.getD j 0)) = true then 1 else 0) := by
 rw [List.range_succ, List.filter_append, List.length_append]
 congr 1
 by_cases h : ((j != me) && decide (i ≤ l.getD j 0)) = true
 ·rw [if_pos h, List.filter_cons, if_pos h]; rfl
 ·rw [if_neg h, List.filter_cons, if_neg h]; rfl
theorem advance_runs {w0 : World} {S : St} {Q : AEnd → St → Prop} {L : RL} {X : RN} (h : RaftAt S L X) (hr : X.role = 2) (hQ : ∀ S', RAft S L X S' L (X.adv X.log.length) → Q (.ret (.tup [])) S') : RSim Try.prog w0 n_raft_Node_advance [.ptr (some (L.r, 0))] S Q := by
 have ex := h.ex
 have hk := h.ok
 have hll := hk.ll
 have hcm := hk.cm
 have hn0 := hk.n0
 have hn5 := hk.n5
 have hml := (hk.lead hr).2
 obtain ⟨hvm, hcm2, hom⟩ := row_at' h.vm (fun e => by rw [e] at hml; simp at hml; omega)
 obtain ⟨hE, _⟩ := h.lg
 obtain ⟨ce, he⟩ := hE.len
 have exX := ex
 unfold RN.cells at ex
 rw [he, hvm] at ex
 refine RSim.run mixed k_raft_Node_advance ?_ (by simp)
 simp only [b_raft_Node_advance, go_sem, ex]
 refine loop_rule RSim.le (k := X.log.length) (fun m fr Sa => ∃ (i : Nat), m = i ∧ i ≤ X.log.length ∧ fr 0 = .ptr (some (L.r, 0)) ∧ fr 2 = .int .i64 (i : Nat) ∧ X.adv X.log.length = X.adv i ∧ Sa = S) ?_
  ⟨X.log.length, rfl, Nat.le_refl _, by simp only [go_sem], by simp only [go_sem], rfl, rfl⟩
 rintro m fr Sa ⟨i, hm, hi, f0, f2, hadv, hSa⟩
 subst hm
 subst hSa
 have q1 : decide ((m : Int) > (X.commit : Int)) = decide (X.commit < m) := decide_eq_decide.mpr (by omega)
 have q2 : ((lastT X.log m : Int) == (X.term : Int)) = decide (lastT X.log m = X.term) := by rw [Bool.eq_iff_iff, beq_iff_eq, decide_eq_true_iff]; omega
 by_cases hgo : X.commit < m
 ·rw [decide_eq_true hgo] at q1
  obtain ⟨i, rfl⟩ : ∃ i, m = i + 1 := ⟨m - 1, by omega⟩
  simp only [l_raft_Node_advance_1, go_sem, f0, f2, ex, q1]
  refine wi_call ?_
  simp only [go_sem]
  refine last_runs h (by omega) (by omega) ?_
  rw [Int.toNat_natCast]
  by_cases hlast : lastT X.log (i + 1) = X.term
  ·rw [decide_eq_true hlast] at q2
   simp only [go_sem, ex, q2]
   refine wc_ite (b := true) (by simp only [go_sem] <;> rfl) (fun _ => ?_) (fun h => by cases h)
   simp only [go_sem, f0, ex]
   refine loop_rule RSim.le (k := X.mat.length) (fun q fr1 Sb => ∃ (j : Nat), q = X.mat.length - j ∧ j ≤ X.mat.length ∧ fr1 0 = .ptr (some (L.r, 0)) ∧ fr1 2 = .int .i64 ((i + 1 : Nat) : Int) ∧ fr1 32 = .msl L.om 0 X.mat.length 1 ∧ fr1 33 = .int .i64 (X.mat.length : Nat) ∧ fr1 34 = .int .i64 (j : Nat) ∧
     fr1 3 = .int .i64 ((1 + ((List.range j).filter fun to => (to != X.me) && decide (i + 1 ≤ X.mat.getD to 0)).length : Nat) : Int) ∧ Sb = Sa) ?_
    ⟨0, rfl, Nat.zero_le _, by simp only [go_sem, f0], by simp only [go_sem, f2], by simp only [go_sem], by simp only [go_sem], by simp only [go_sem]; rfl, by simp only [go_sem]; rfl, rfl⟩
   rintro q fr1 Sb ⟨j, hq, hj, g0, g2, g32, g33, g34, g3, hSb⟩
   subst hSb
   simp only [l_raft_Node_advance_0, go_sem, g33, g34]
   refine wc_ite (b := decide ((j : Int) < (X.mat.length : Int))) (by simp only [go_sem]) (fun hc => ?_) (fun hc => ?_)
   ·have hlt : j < X.mat.length := by have := of_decide_eq_true hc; omega
    have w1 : IntKind.i64.wrap ((j : Int) + 1) = ((j + 1 : Nat) : Int) := by rw [w64 (by omega) (by omega)]; omega
    obtain ⟨k, hkk⟩ : ∃ k, X.mat[j]? = some k := ⟨_, List.getElem?_eq_getElem hlt⟩
    obtain ⟨_, _, _, _, hhd⟩ := row_at h.vm hkk
    have hgd : X.mat.getD j 0 = k := by rw [List.getD_eq_getElem?_getD, hkk]; rfl
    have hjt : (j < X.mat.length) = True := eq_true hlt
    have p1 : ((j : Int) != (X.me : Int)) = (j != X.me) := by rw [Bool.eq_iff_iff, bne_iff_ne, bne_iff_ne]; omega
    have p2 : decide ((k : Int) ≥ ((i + 1 : Nat) : Int)) = decide (i + 1 ≤ X.mat.getD j 0) := by rw [hgd]; exact decide_eq_decide.mpr (by omega)
    have hct := cnt_take X.me (i + 1) X.mat j
    generalize hcc : ((List.range j).filter fun to => (to != X.me) && decide (i + 1 ≤ X.mat.getD to 0)).length = c at *
    have hcj : c ≤ j := by rw [← hcc]; exact Nat.le_trans (List.length_filter_le _ _) (by simp)
    have w2 : IntKind.i64.wrap (((1 + c : Nat) : Int) + 1) = ((1 + (c + 1) : Nat) : Int) := by rw [w64 (by omega) (by omega)]; omega
    generalize hb1 : (j != X.me) = b1 at *
    generalize hb2 : decide (i + 1 ≤ X.mat.getD j 0) = b2 at *
    cases b1
    ·simp only [go_sem, g0, g2, g32, g34, hjt, hcm2, hhd, ex, p1, p2]
     refine wc_ite (b := false) (by simp only [go_sem] <;> rfl) (fun h => by cases h) (fun _ => ?_)
     simp only [go_sem, g34, w1]
     exact ⟨X.mat.length - (j + 1), by omega, j + 1, rfl, by omega, g0, g2, g32, g33, rfl, by rw [hct, if_neg (by simp)]; exact g3⟩
    ·cases b2
     ·simp only [go_sem, g0, g2, g32, g34, hjt, hcm2, hhd, ex, p1, p2]
      refine wc_ite (b := false) (by simp only [go_sem] <;> rfl) (fun h => by cases h) (fun _ => ?_)
      simp only [go_sem, g34, w1]
      exact ⟨X.mat.length - (j + 1), by omega, j + 1, rfl, by omega, g0, g2, g32, g33, rfl, by rw [hct, if_neg (by simp)]; exact g3⟩
     ·simp only [go_sem, g0, g2, g32, g34, hjt, hcm2, hhd, ex, p1, p2]
      refine wc_ite (b := true) (by simp only [go_sem] <;> rfl) (fun _ => ?_) (fun h => by cases h)
      simp only [go_sem, g3, g34, w1, w2]
      exact ⟨X.mat.length - (j + 1), by omega, j + 1, rfl, by omega, g0, g2, g32, g33, rfl, by rw [hct, if_pos (by simp)]⟩
   ·have hje : j = X.mat.length := by have := of_decide_eq_false hc; omega
    subst hje
    have hcnt : ((List.range X.mat.length).filter fun to => (to != X.me) && decide (i + 1 ≤ X.mat.getD to 0)).length = cntM X.me (i + 1) X.mat := rfl
    rw [hcnt] at g3
    have hcl : cntM X.me (i + 1) X.mat ≤ X.mat.length := by rw [← hcnt]; exact Nat.le_trans (List.length_filter_le _ _) (by simp)
    have w2 : IntKind.i64.wrap (2 * ((1 + cntM X.me (i + 1) X.mat : Nat) : Int)) = ((2 * (1 + cntM X.me (i + 1) X.mat) : Nat) : Int) := by rw [w64 (by omega) (by omega)]; omega
    have p3 : decide (((2 * (1 + cntM X.me (i + 1) X.mat) : Nat) : Int) > (X.n : Int)) = decide (X.n < 2 * (1 + cntM X.me (i + 1) X.mat)) := decide_eq_decide.mpr (by omega)
    have hrec : X.adv (i + 1) = if X.commit < i + 1 ∧ lastT X.log (i + 1) = X.term then (if X.n < 2 * (1 + cntM X.me (i + 1) X.mat) then { X with commit := i + 1 } else X.adv i) else X := rfl
    rw [if_pos ⟨hgo, hlast⟩] at hrec
    simp only [go_sem, s_raft_Node_advance_0, g0, g3, ex, w2, p3]
    refine wc_ite (b := decide (X.n < 2 * (1 + cntM X.me (i + 1) X.mat))) (by simp only [go_sem]) (fun hc => ?_) (fun hc => ?_)
    ·have hmaj := of_decide_eq_true hc
     rw [if_pos hmaj] at hrec
     have a := h.put (X' := { X with commit := i + 1 }) rfl rfl rfl rfl rfl rfl rfl ⟨hk.n0, hk.n5, hk.me, hk.term, hk.v0, hk.vn, hk.log, hk.ll, Nat.le_trans hi hk.ll, hk.role, hk.h0, hk.hn, hk.cand, hk.lead, hk.next, hk.mat, hk.idle, hk.limit, hk.draw, hk.out, hk.rl⟩ rfl
     unfold RN.cells at a
     rw [he, hvm] at a
     simp only [go_sem, g0, g2, ex]
     rw [hadv, hrec] at hQ
     exact hQ _ a
    ·have hmaj := of_decide_eq_false hc
     rw [if_neg hmaj] at hrec
     have w3 : IntKind.i64.wrap (((i + 1 : Nat) : Int) - 1) = ((i : Nat) : Int) := by rw [w64 (by omega) (by omega)]; omega
     simp only [go_sem, g2, w3]
     exact ⟨i, by omega, i, rfl, by omega, g0, rfl, hadv.trans hrec⟩
  ·rw [decide_eq_false hlast] at q2
   have hrec : X.adv (i + 1) = X := if_neg fun h => hlast h.2
   simp only [go_sem, ex, q2]
   refine wc_ite (b := false) (by simp only [go_sem] <;> rfl) (fun h => by cases h) (fun _ => ?_)
   simp only [go_sem]
   rw [hadv, hrec] at hQ
   exact hQ _ (RAft.refl h)
 ·rw [decide_eq_false hgo] at q1
  have hrec : X.adv m = X := by
   cases m with
   | zero => rfl
   | succ i => exact if_neg fun h => hgo h.1
  simp only [l_raft_Node_advance_1, go_sem, f0, f2, ex, q1]
  refine wc_ite (b := false) (by simp only [go_sem] <;> rfl) (fun h => by cases h) (fun _ => ?_)
  simp only [go_sem]
  rw [hadv, hrec] at hQ
  exact hQ _ (RAft.refl h)
end Go.VM
namespace Go.VM
open Go Go.RowKit Go.Proofs
theorem Keeps.ne {S S' : St} {i : Nat} {cs : List V} (k : Keeps (fun j => j = i) S S') {r : Nat} (h : S.cells r = some cs) (hl : r < S.n) (hn : r ≠ i) : S'.cells r = some cs := k.cells h hl hn
theorem RaftAt.setLog {S S4 : St} {L : RL} {X : RN} {vl' : V} {tl' : Tok} {log' : List LE} (h : RaftAt S L X) (k : Keeps (tokOwn L.tl) S S4) (hE : IsSlice LER 2 vl' log' tl') (ht : TokOk S4 tl') (hn : ∀ j, tl' = .at j → S.n ≤ j) (ok' : ({ X with log := log' } : RN).Ok) {cs : List V}
  (hcs : cs = RN.cells { X with log := log' } { L with vl := vl', tl := tl' }) : RAft S L X (S4.set L.r (.cells cs)) { L with vl := vl', tl := tl' } { X with log := log' } := by
 subst hcs
 refine RAft.of h ?_ h.d ok' rfl
 have a1 : Aft S (.list LER 2 L.vl X.log L.tl) S4 (.list LER 2 vl' log' tl') := ⟨⟨hE, ht⟩, k.mono fun j _ hj => hj, fun j hj => .inr (hn j hj)⟩
 have b1 := Aft.part h.h (m := [Res.cells L.r (X.cells L), Res.list PkR 3 L.vo X.out L.to, Res.row L.vv (X.votes.map V.bool) L.ov, Res.row L.vn (X.next.map natV) L.on, Res.row L.vm (X.mat.map natV) L.om, Res.wal L.i L.g L.D raftN X.R L.tw])
  (List.perm_middle (l₁ := [_])) a1 (List.perm_middle (l₁ := [Res.cells L.r (X.cells L)]))
 have h2 : Hold S4 _ := b1.p
 exact b1.trans (Aft.part h2 (List.Perm.refl _) (Aft.set h2.head) (List.Perm.refl _))
def RN.plus (X : RN) (d : List UInt8) : RN := { X with log := X.log ++ [⟨X.term, d⟩] }
def RN.add (X : RN) (d : List UInt8) : Int × RN :=
 let K := (X.plus d).keep [recE (X.log.length + 1) ⟨X.term, d⟩]
 if K.1 ≠ 0 then K else (0, (K.2.adv K.2.log.length).tell)
def RN.follow (X : RN) (t : Nat) (hd : Int) : Int × RN :=
 if X.term < t then ({ X with role := 0, head := hd, term := t, vote := -1 } : RN).keep [({ X with role := 0, head := hd, term := t, vote := -1 } : RN).hardB] else (0, { X with role := 0, head := hd })
structure RN.Room (X : RN) : Prop where
 log : X.log.length + 30 ≤ 1000000
 out : X.out.length + 30 ≤ 1000000
 rl : X.R.length + 30 ≤ 1000000
theorem keep_fields (X : RN) (l : List (List UInt8)) : (X.keep l).1 = 0 ∧ (∃ D R, (X.keep l).2 = X.dr D R) ∨ (X.keep l).1 ≠ 0 ∧ ∃ D R, (X.keep l).2 = (X.dr D R).failed := by
 unfold RN.keep
 simp only
 split
 ·exact .inl ⟨rfl, _, _, rfl⟩
 ·rename_i h; exact .inr ⟨h, _, _, rfl⟩
theorem clone_runs {w0 : World} {S : St} {Q : AEnd → St → Prop} {v : V} {bs : List UInt8} (hv : IsBytes v bs) (hl : bs.length ≤ 100000000000000) (hQ : ∀ S' v', IsBytes v' bs → Keeps (fun _ => False) S S' → Q (.ret v') S') : RSim Try.prog w0 n_slices_Clone_byte_byte [v] S Q := by
 obtain ⟨t, rfl, ht⟩ := id hv
 by_cases hn : t = .nil
 ·have hb := ht hn
  subst hn
  subst hb
  refine RSim.run mixed k_slices_Clone_byte_byte ?_ (by simp)
  simp only [b_slices_Clone_byte_byte, go_sem]
  refine wc_ite (b := true) (by simp only [go_sem] <;> rfl) (fun _ => ?_) (fun h => by cases h)
  simp only [go_sem]
  exact hQ S _ (by exact isBytes_nil) (Keeps.refl _ _)
 ·have htn : (t = .nil) = False := eq_false hn
  have hb : (t == Tok.nil) = false := by simpa using hn
  refine RSim.run mixed k_slices_Clone_byte_byte ?_ (by simp)
  simp only [b_slices_Clone_byte_byte, go_sem, htn, hb]
  refine wc_ite (b := false) (by cases t <;> first | exact absurd rfl hn | rfl) (fun h => by cases h) (fun _ => ?_)
  simp only [go_sem]
  refine wi_append (n := 0) (cs := []) (t := .cap) (m := bs.length) (xs := bs.map u8V) (by simp only [go_sem]) (by simp only [go_sem]; exact hv.elems _) (by simp) (by simp [roomOk]; omega) trivial (fun e => by cases e) fun t' S' k' _ _ hz => ?_
  simp only [go_sem]
  refine hQ S' _ ⟨t', rfl, fun e => absurd (hz e).2 (by simp)⟩ (k'.mono fun _ _ h => by cases h)
theorem follow_runs {w0 : World} {S : St} {Q : AEnd → St → Prop} {L : RL} {X : RN} {t : Nat} {hd : Int} (h : RaftAt S L X) (ht : t < 9223372036854775808) (h0 : -1 ≤ hd) (hn : hd < X.n) (hR : X.R.length + 1 ≤ 1000000)
  (hQ : ∀ S' L', RAft S L X S' L' (X.follow t hd).2 → Q (.ret (.int .i64 (X.follow t hd).1)) S') : RSim Try.prog w0 n_raft_Node_follow [.ptr (some (L.r, 0)), .int .u64 (t : Nat), .int .i64 hd] S Q := by
 have ex := h.ex
 have hk := h.ok
 have hn1 := hk.n0
 unfold RN.follow at hQ
 have q1 : decide ((t : Int) > (X.term : Int)) = decide (X.term < t) := decide_eq_decide.mpr (by omega)
 unfold RN.cells at ex
 refine RSim.run mixed k_raft_Node_follow ?_ (by simp)
 simp only [b_raft_Node_follow, go_sem, ex, q1]
 refine wc_ite (b := decide (X.term < t)) (by simp only [go_sem]) (fun hc => ?_) (fun hc => ?_)
 ·have hlt := of_decide_eq_true hc
  rw [if_pos hlt] at hQ
  have a := h.put (X' := { X with role := 0, head := hd, term := t, vote := -1 }) rfl rfl rfl rfl rfl rfl rfl ⟨hk.n0, hk.n5, hk.me, ht, by simp only; omega, by simp only; omega, hk.log, hk.ll, hk.cm, by simp only; omega, h0, hn, hk.cand, fun h => (by cases h), fun k hk' => ⟨(hk.next k hk').1, fun h => (by cases h), (hk.next k hk').2.2⟩, fun k hk' => ⟨fun h => (by cases h), (hk.mat k hk').2⟩, hk.idle, hk.limit, hk.draw, hk.out, hk.rl⟩ rfl
  have ahB := hardB_len a.w.ok
  unfold RN.cells at a
  simp only [go_sem, ex]
  generalize S.set L.r (.cells _) = S1 at *
  refine wi_call ?_
  simp only [go_sem]
  refine hard_runs a.w fun S2 v2 b2 k2 => ?_
  have a2 := a.trans (RAft.new a.w k2)
  have hone := b2.is.one
  have hcl := cells_one hone
  simp only [go_sem, hone, hcl]
  refine wi_call ?_
  simp only [go_sem]
  refine keep_runs (l := [({ X with role := 0, head := hd, term := t, vote := -1 } : RN).hardB]) (tl := .cap) a2.w ⟨[[v2]], rfl, fun e => (by cases e), fun c hc => by rw [List.mem_singleton.1 hc]; rfl, rfl, fun j c x hc hx => by
   cases j with
   | zero => simp only [List.getElem?_cons_zero, Option.some.injEq] at hc hx; subst hc; subst hx; exact ⟨v2, rfl, b2.is⟩
   | succ j => simp at hc⟩ (fun r hr => by rw [List.mem_singleton.1 hr]; omega) (by simp only [List.length_cons, List.length_nil]; omega) fun S3 L3 a3 => ?_
  simp only [go_sem]
  exact hQ S3 L3 (a2.trans a3)
 ·have hlt := of_decide_eq_false hc
  rw [if_neg hlt] at hQ
  have a := h.put (X' := { X with role := 0, head := hd }) rfl rfl rfl rfl rfl rfl rfl ⟨hk.n0, hk.n5, hk.me, hk.term, hk.v0, hk.vn, hk.log, hk.ll, hk.cm, by simp only; omega, h0, hn, hk.cand, fun h => (by cases h), fun k hk' => ⟨(hk.next k hk').1, fun h => (by cases h), (hk.next k hk').2.2⟩, fun k hk' => ⟨fun h => (by cases h), (hk.mat k hk').2⟩, hk.idle, hk.limit, hk.draw, hk.out, hk.rl⟩ rfl
  unfold RN.cells at a
  simp only [go_sem]
  exact hQ _ _ a
theorem add_runs {w0 : World} {S : St} {Q : AEnd → St → Prop} {L : RL} {X : RN} {v : V} {d : List UInt8} (h : RaftAt S L X) (hr : X.role = 2) (hv : IsBytes v d) (hdl : d.length ≤ 200) (hR : X.Room)
  (hQ : ∀ S' L', RAft S L X S' L' (X.add d).2 → Q (.ret (.int .i64 (X.add d).1)) S') : RSim Try.prog w0 n_raft_Node_add [.ptr (some (L.r, 0)), v] S Q := by
 have ex := h.ex
 have hk := h.ok
 have hRl := hR.log
 have hRo := hR.out
 have hRr := hR.rl
 have hterm := hk.term
 obtain ⟨hE, htl⟩ := h.lg
 obtain ⟨ce, he⟩ := hE.len
 have heo := hE.one
 have hec := cells_one heo
 have hxo : (⟨X.term, d⟩ : LE).Ok := ⟨hterm, hdl⟩
 have okp : (X.plus d).Ok := ⟨hk.n0, hk.n5, hk.me, hk.term, hk.v0, hk.vn, fun x hx => (List.mem_append.1 hx).elim (hk.log x) fun hx => by rw [List.mem_singleton.1 hx]; exact hxo, by simp only [RN.plus, List.length_append, List.length_cons, List.length_nil]; omega, by have := hk.cm; simp only [RN.plus, List.length_append, List.length_cons, List.length_nil]; omega, hk.role, hk.h0, hk.hn, hk.cand, hk.lead,
  fun k hk' => ⟨(hk.next k hk').1, fun hh => by have := (hk.next k hk').2.1 hh; simp only [RN.plus, List.length_append, List.length_cons, List.length_nil]; omega, (hk.next k hk').2.2⟩, fun k hk' => ⟨fun hh => by have := (hk.mat k hk').1 hh; simp only [RN.plus, List.length_append, List.length_cons, List.length_nil]; omega, (hk.mat k hk').2⟩, hk.idle, hk.limit, hk.draw, hk.out, hk.rl⟩
 have exX := ex
 unfold RN.cells at ex
 refine RSim.run mixed k_raft_Node_add ?_ (by simp)
 simp only [b_raft_Node_add, go_sem, ex]
 refine wi_call ?_
 simp only [go_sem]
 refine clone_runs hv (by omega) fun S1 v1 b1 k1 => ?_
 have h1 := h.stay k1
 have ex1 := h1.ex
 have hone := b1.one
 have hcl := cells_one hone
 unfold RN.cells at ex1
 simp only [go_sem, ex1, hone, hcl, heo, hec]
 refine wi_appendR (v := L.vl) (l := X.log) (y := ⟨X.term, d⟩) (c := [.int .u64 (X.term : Nat), v1]) (by simp only [go_sem]) hE (by simp only [go_sem]; rfl) rfl ⟨v1, rfl, b1⟩ (by omega) (htl.keep k1 fun _ _ => _root_.id) fun tl' S2 vl' hE2 k2 ht2 hn2 hne2 => ?_
 have ex2 : S2.cells L.r = some (X.cells L) := k2.cells h1.ex h1.lt (h1.lg.2.not_own h1.ex)
 obtain ⟨cl2, hvl2⟩ := hE2.len
 have hlen : (X.log ++ [(⟨X.term, d⟩ : LE)]).length = X.log.length + 1 := by simp
 rw [hlen] at hvl2
 subst hvl2
 have a2 := (RAft.new h k1).trans (h1.setLog (log' := X.log ++ [(⟨X.term, d⟩ : LE)]) k2 hE2 ht2 hn2 okp rfl)
 unfold RN.cells at ex2 a2
 simp only [go_sem, ex2]
 generalize S2.set L.r (.cells _) = S3 at *
 refine wi_call ?_
 simp only [go_sem]
 refine record_runs (L := { L with vl := .sl cl2 (X.log.length + 1) 2 tl', tl := tl' }) (i := X.log.length + 1) (x := ⟨X.term, d⟩) a2.w (by omega) (by show (X.log ++ [(⟨X.term, d⟩ : LE)])[X.log.length + 1 - 1]? = _; simp) fun S4 v4 b4 k4 => ?_
 have a4 := a2.trans (RAft.new a2.w k4)
 have hone4 := b4.is.one
 have hcl4 := cells_one hone4
 have hrl := recE_len (i := X.log.length + 1) hxo (by omega)
 simp only [go_sem, hone4, hcl4]
 refine wi_call ?_
 simp only [go_sem]
 unfold RN.add at hQ
 refine keep_runs (L := { L with vl := .sl cl2 (X.log.length + 1) 2 tl', tl := tl' }) (l := [recE (X.log.length + 1) ⟨X.term, d⟩]) (tl := .cap) a4.w ⟨[[v4]], rfl, fun e => (by cases e), fun c hc => by rw [List.mem_singleton.1 hc]; rfl, rfl, fun j c x hc hx => by
   cases j with
   | zero => simp only [List.getElem?_cons_zero, Option.some.injEq] at hc hx; subst hc; subst hx; exact ⟨v4, rfl, b4.is⟩
   | succ j => simp at hc⟩ (fun r hr => by rw [List.mem_singleton.1 hr]; omega) (by simp only [List.length_cons, List.length_nil]; omega) fun S5 L5 a5 => ?_
 have a5' := a4.trans a5
 have hpl : ({ X with log := X.log ++ [⟨X.term, d⟩] } : RN) = X.plus d := rfl
 rw [hpl] at a5 a5' ⊢
 have hr5 : L5.r = L.r := a5.2.1
 by_cases e0 : ((X.plus d).keep [recE (X.log.length + 1) ⟨X.term, d⟩]).1 = 0
 ·have qe : (((X.plus d).keep [recE (X.log.length + 1) ⟨X.term, d⟩]).1 != 0) = false := by rw [e0]; rfl
  simp only at hQ
  rw [if_neg (by rw [e0]; simp)] at hQ
  obtain ⟨D', R', hf⟩ : ∃ D R, ((X.plus d).keep [recE (X.log.length + 1) ⟨X.term, d⟩]).2 = (X.plus d).dr D R := by
   rcases keep_fields (X.plus d) [recE (X.log.length + 1) ⟨X.term, d⟩] with ⟨_, hf⟩ | ⟨hne, _⟩
   ·exact hf
   ·exact absurd e0 hne
  rw [hf] at hQ a5'
  simp only [go_sem, qe]
  refine wc_ite (b := false) (by simp only [go_sem] <;> rfl) (fun h => by cases h) (fun _ => ?_)
  simp only [go_sem]
  refine wi_call ?_
  simp only [go_sem]
  rw [← hr5]
  refine advance_runs a5'.w hr fun S6 a6 => ?_
  have a6' := a5'.trans a6
  simp only [go_sem]
  refine wi_call ?_
  simp only [go_sem]
  have hrole : (((X.plus d).dr D' R').adv ((X.plus d).dr D' R').log.length).role = 2 ∧ (((X.plus d).dr D' R').adv ((X.plus d).dr D' R').log.length).out = X.out := by
   have key : ∀ i (Y : RN), (Y.adv i).role = Y.role ∧ (Y.adv i).out = Y.out := by
    intro i
    induction i with
    | zero => intro Y; exact ⟨rfl, rfl⟩
    | succ i ih =>
     intro Y
     unfold RN.adv
     split
     ·split
      ·exact ⟨rfl, rfl⟩
      ·exact ih Y
     ·exact ⟨rfl, rfl⟩
   obtain ⟨e1, e2⟩ := key ((X.plus d).dr D' R').log.length ((X.plus d).dr D' R')
   exact ⟨e1.trans hr, e2⟩
  refine tell_runs a6'.w hrole.1 (by rw [hrole.2]; omega) fun S7 L7 a7 => ?_
  simp only [go_sem]
  exact hQ S7 L7 (a6'.trans a7)
 ·have qe : (((X.plus d).keep [recE (X.log.length + 1) ⟨X.term, d⟩]).1 != 0) = true := by simpa using e0
  simp only at hQ
  rw [if_pos e0] at hQ
  simp only [go_sem, qe]
  refine wc_ite (b := true) (by simp only [go_sem] <;> rfl) (fun _ => ?_) (fun h => by cases h)
  simp only [go_sem]
  exact hQ S5 L5 a5'
end Go.VM
namespace Go.VM
open Go Go.RowKit Go.Proofs
def cntV (l : List Bool) : Nat := (l.filter id).length
def RN.lead (X : RN) : RN := { X with role := 2, head := X.me, idle := 0, next := List.replicate X.n (X.log.length + 1), mat := List.replicate X.n 0 }
def RN.count (X : RN) : Int × RN := if X.role ≠ 1 ∨ 2 * cntV X.votes ≤ X.n then (0, X) else X.lead.add []
theorem lead_ok {X : RN} (h : X.Ok) (hl : X.log.length + 1 ≤ 1000000) : X.lead.Ok :=
 ⟨h.n0, h.n5, h.me, h.term, h.v0, h.vn, h.log, h.ll, h.cm, Nat.le_refl 2, by simp only [RN.lead]; omega, by have := h.me; simp only [RN.lead]; omega, h.cand, fun _ => ⟨by simp [RN.lead], by simp [RN.lead]⟩,
  fun k hk => by have := (List.mem_replicate.1 hk).2; subst this; exact ⟨by omega, fun _ => Nat.le_refl _, by omega⟩, fun k hk => by have := (List.mem_replicate.1 hk).2; subst this; exact ⟨fun _ => Nat.zero_le _, by omega⟩, Nat.zero_le _, h.limit, h.draw, h.out, h.rl⟩
theorem parts_new2 {S S' : St} {L L' : RL} {X X' : RN} (h : Hold S (parts L X)) (hr : L'.r = L.r) (hg : L'.g = L.g ∧ L'.i = L.i ∧ L'.D = L.D ∧ L'.tw = L.tw ∧ L'.vl = L.vl ∧ L'.tl = L.tl ∧ L'.vo = L.vo ∧ L'.to = L.to ∧ L'.vv = L.vv ∧ L'.ov = L.ov)
  (hx : X'.log = X.log ∧ X'.out = X.out ∧ X'.votes = X.votes ∧ X'.R = X.R) (k : Keeps (fun j => j = L.r) S S') (hc : S'.cells L.r = some (X'.cells L')) (hn : (Res.row L'.vn (X'.next.map natV) L'.on).P S') (hm : (Res.row L'.vm (X'.mat.map natV) L'.om).P S')
  (h1 : S.n ≤ L'.on) (h2 : S.n ≤ L'.om) (h3 : L'.on ≠ L'.om) : Aft S (Res.all (parts L X)) S' (Res.all (parts L' X')) := by
 obtain ⟨g1, g2, g3, g4, g5, g6, g7, g8, g9, g10⟩ := hg
 obtain ⟨x1, x2, x3, x4⟩ := hx
 unfold parts at h ⊢
 rw [hr, g1, g2, g3, g4, g5, g6, g7, g8, g9, g10, x1, x2, x3, x4]
 obtain ⟨p1, q1, p2, q2, p3, q3, p4, q4, p5, q5, p6, q6, p7, q7, _⟩ := h
 have lt : ∀ (x : Res), x.P S → ∀ j, x.own j → j < S.n := fun x hx j hj => x.lt hx hj
 have kp : ∀ x : Res, x.P S → (∀ j, j = L.r → ¬ x.own j) → x.P S' := fun x hx ho => x.keep hx k fun j hj e => ho j e hj
 have r2 := q1 (.list LER 2 L.vl X.log L.tl) (by simp)
 have r3 := q1 (.list PkR 3 L.vo X.out L.to) (by simp)
 have r4 := q1 (.row L.vv (X.votes.map V.bool) L.ov) (by simp)
 have r7 := q1 (.wal L.i L.g L.D raftN X.R L.tw) (by simp)
 have rl := p1.2
 refine ⟨⟨⟨hc, k.lt p1.2⟩, fun y hy j hj hyj => ?_, kp _ p2 fun j e => r2 j e, fun y hy j hj hyj => ?_, kp _ p3 fun j e => r3 j e, fun y hy j hj hyj => ?_, kp _ p4 fun j e => r4 j e, fun y hy j hj hyj => ?_, hn, fun y hy j hj hyj => ?_, hm, fun y hy j hj hyj => ?_, kp _ p7 fun j e => r7 j e, fun y hy => (by cases hy), trivial⟩, ?_, fun j hj => ?_⟩
 ·simp only [List.mem_cons, List.not_mem_nil, or_false] at hy
  rcases hy with rfl | rfl | rfl | rfl | rfl | rfl
  ·exact r2 j hj hyj
  ·exact r3 j hj hyj
  ·exact r4 j hj hyj
  ·have : j = L'.on := hyj.2; have : j = L.r := hj; omega
  ·have : j = L'.om := hyj.2; have : j = L.r := hj; omega
  ·exact r7 j hj hyj
 ·simp only [List.mem_cons, List.not_mem_nil, or_false] at hy
  have hlt := lt _ p2 j hj
  rcases hy with rfl | rfl | rfl | rfl | rfl
  ·exact q2 _ (by simp) j hj hyj
  ·exact q2 _ (by simp) j hj hyj
  ·have : j = L'.on := hyj.2; omega
  ·have : j = L'.om := hyj.2; omega
  ·exact q2 _ (by simp) j hj hyj
 ·simp only [List.mem_cons, List.not_mem_nil, or_false] at hy
  have hlt := lt _ p3 j hj
  rcases hy with rfl | rfl | rfl | rfl
  ·exact q3 _ (by simp) j hj hyj
  ·have : j = L'.on := hyj.2; omega
  ·have : j = L'.om := hyj.2; omega
  ·exact q3 _ (by simp) j hj hyj
 ·simp only [List.mem_cons, List.not_mem_nil, or_false] at hy
  have hlt := lt _ p4 j hj
  rcases hy with rfl | rfl | rfl
  ·have : j = L'.on := hyj.2; omega
  ·have : j = L'.om := hyj.2; omega
  ·exact q4 _ (by simp) j hj hyj
 ·simp only [List.mem_cons, List.not_mem_nil, or_false] at hy
  have hj' : j = L'.on := hj.2
  rcases hy with rfl | rfl
  ·have : j = L'.om := hyj.2; omega
  ·have := lt _ p7 j hyj; omega
 ·simp only [List.mem_cons, List.not_mem_nil, or_false] at hy
  have hj' : j = L'.om := hj.2
  subst hy
  have := lt _ p7 j hyj; omega
 ·exact k.mono fun j _ e => ⟨.cells L.r (X.cells L), by simp, e⟩
 ·obtain ⟨x, hx, hj⟩ := hj
  simp only [List.mem_cons, List.not_mem_nil, or_false] at hx
  rcases hx with rfl | rfl | rfl | rfl | rfl | rfl | rfl
  ·exact .inl ⟨.cells L.r (X.cells L), by simp, hj⟩
  ·exact .inl ⟨_, by simp, hj⟩
  ·exact .inl ⟨.list PkR 3 L.vo X.out L.to, by simp, hj⟩
  ·exact .inl ⟨.row L.vv (X.votes.map V.bool) L.ov, by simp, hj⟩
  ·have : j = L'.on := hj.2; exact .inr (by omega)
  ·have : j = L'.om := hj.2; exact .inr (by omega)
  ·exact .inl ⟨.wal L.i L.g L.D raftN X.R L.tw, by simp, hj⟩
theorem cntV_take {l : List Bool} {j : Nat} {b : Bool} (h : l[j]? = some b) : cntV (l.take (j + 1)) = cntV (l.take j) + (if b = true then 1 else 0) := by
 unfold cntV
 rw [take_snoc h, List.filter_append, List.length_append]
 cases b <;> rfl
theorem count_lead {w0 : World} {S S1 : St} {Q : AEnd → St → Prop} {L L1 : RL} {X : RN} {fr : Fr} (h : RaftAt S L X) (hR : X.Room) (hn0 : 1 ≤ X.n)
  (a : Aft S (Res.all (parts L X)) S1 (Res.all (parts L1 { X.lead with next := List.replicate X.n 0 }))) (hd : L1.D = L.D) (hr1 : L1.r = L.r) (hi1 : L1.i = L.i) (f0 : fr 0 = .ptr (some (L.r, 0)))
  (hQ : ∀ S' L', RAft S L X S' L' (X.lead.add []).2 → Q (.ret (.int .i64 (X.lead.add []).1)) S') : wCode (RSim Try.prog w0) r_raft_Node_count_0 fr S1 (resQ [.tmp 2] Q) := by
 have hk := h.ok
 have hn5 := hk.n5
 have hRl := hR.log
 have hc1 : S1.cells L.r = some (RN.cells { X.lead with next := List.replicate X.n 0 } L1) := by have := (Hold.mem a.p _ (List.mem_cons_self ..)).1; rw [hr1] at this; exact this
 have hrow : ∀ {S2 : St} {l : List Nat} {L2 : RL}, Hold S2 (parts L2 { X.lead with next := l }) → l ≠ [] → L2.vn = .msl L2.on 0 l.length 1 ∧ S2.cells L2.on = some (l.map natV) ∧ L2.on < S2.n := by
  intro S2 l L2 hh hl
  have h2 : RowAt S2 L2.vn (l.map natV) (l.map natV).length 1 L2.on := Hold.mem hh (.row L2.vn (l.map natV) L2.on) (by simp [parts])
  rw [List.length_map] at h2
  exact row_at' h2 hl
 obtain ⟨hE, _⟩ : IsSlice LER 2 L1.vl X.log L1.tl ∧ TokOk S1 L1.tl := Hold.mem a.p (.list LER 2 L1.vl X.log L1.tl) (by simp [parts, RN.lead])
 obtain ⟨ce, he⟩ := hE.len
 have hne : List.replicate X.n 0 ≠ [] := fun e => by have := congrArg List.length e; simp at this; omega
 obtain ⟨v1, v2, v3⟩ := hrow a.p hne
 rw [List.length_replicate] at v1
 have hc1' := hc1
 unfold RN.cells at hc1
 rw [v1, he] at hc1
 simp only [r_raft_Node_count_0, go_sem, f0, hc1]
 refine loop_rule RSim.le (k := X.n) (fun q fr Sa => ∃ (j : Nat), q = X.n - j ∧ j ≤ X.n ∧ fr 0 = .ptr (some (L.r, 0)) ∧ fr 67 = .int .i64 (X.n : Nat) ∧ fr 68 = .int .i64 (j : Nat) ∧
   Aft S (Res.all (parts L X)) Sa (Res.all (parts L1 { X.lead with next := List.replicate j (X.log.length + 1) ++ List.replicate (X.n - j) 0 }))) ?_
  ⟨0, rfl, Nat.zero_le _, by simp only [go_sem, f0], by simp only [go_sem], by simp only [go_sem]; rfl, by simpa using a⟩
 rintro q fr Sa ⟨j, hq, hj, g0, g67, g68, aA⟩
 simp only [l_raft_Node_count_1, go_sem, g67, g68]
 have hcA : Sa.cells L.r = some (RN.cells { X.lead with next := List.replicate j (X.log.length + 1) ++ List.replicate (X.n - j) 0 } L1) := by have := (Hold.mem aA.p _ (List.mem_cons_self ..)).1; rw [hr1] at this; exact this
 refine wc_ite (b := decide ((j : Int) < (X.n : Int))) (by simp only [go_sem]) (fun hc => ?_) (fun hc => ?_)
 ·have hlt : j < X.n := by have := of_decide_eq_true hc; omega
  have w1 : IntKind.i64.wrap ((j : Int) + 1) = ((j + 1 : Nat) : Int) := by rw [w64 (by omega) (by omega)]; omega
  have w2 : IntKind.i64.wrap ((X.log.length : Int) + 1) = ((X.log.length + 1 : Nat) : Int) := by rw [w64 (by omega) (by omega)]; omega
  have hlen : (List.replicate j (X.log.length + 1) ++ List.replicate (X.n - j) 0).length = X.n := by simp; omega
  obtain ⟨u1, u2, u3⟩ := hrow aA.p (fun e => by have := congrArg List.length e; rw [hlen] at this; simp at this; omega)
  have hjt : (j < X.n) = True := eq_true hlt
  have hcA' := hcA
  unfold RN.cells at hcA'
  rw [v1, he] at hcA'
  have hfit : (j * 1 + 1 ≤ (List.map natV (List.replicate j (X.log.length + 1) ++ List.replicate (X.n - j) 0)).length) = True := eq_true (by rw [List.length_map, hlen]; omega)
  have hsp : splice (List.map natV (List.replicate j (X.log.length + 1) ++ List.replicate (X.n - j) 0)) (j * 1) [.int .i64 ((X.log.length + 1 : Nat) : Int)] = List.map natV (List.replicate (j + 1) (X.log.length + 1) ++ List.replicate (X.n - (j + 1)) 0) := by
   have hrep : List.replicate (X.n - j) 0 = 0 :: List.replicate (X.n - (j + 1)) 0 := by
    rw [show X.n - j = (X.n - (j + 1)) + 1 by omega, List.replicate_succ]
   have hll : (List.map natV (List.replicate j (X.log.length + 1))).length = j := by simp
   rw [hrep, List.replicate_succ', List.map_append, List.map_append, List.map_append, List.map_cons, List.map_cons, List.map_nil, splice, Nat.mul_one]
   rw [List.take_left' hll]
   congr 1
   show List.drop (j + 1) _ = _
   rw [List.drop_append, List.drop_of_length_le (by rw [hll]; omega), hll, Nat.add_sub_cancel_left]
   rfl
  unfold splice at hsp
  simp only [List.length_cons, List.length_nil, Nat.zero_add] at hsp
  simp only [go_sem, g0, g68, hcA', w2, u2, hjt, hfit, hsp, w1]
  refine ⟨X.n - (j + 1), by omega, j + 1, rfl, by omega, g67, rfl, aA.trans ?_⟩
  have a1 : Aft Sa (.row L1.vn ((List.replicate j (X.log.length + 1) ++ List.replicate (X.n - j) 0).map natV) L1.on) (Sa.set L1.on (.cells ((List.replicate (j + 1) (X.log.length + 1) ++ List.replicate (X.n - (j + 1)) 0).map natV))) (.row L1.vn ((List.replicate (j + 1) (X.log.length + 1) ++ List.replicate (X.n - (j + 1)) 0).map natV) L1.on) := by
   have hlen2 : (List.replicate (j + 1) (X.log.length + 1) ++ List.replicate (X.n - (j + 1)) 0).length = X.n := by simp; omega
   have z1 : (List.map natV (List.replicate j (X.log.length + 1) ++ List.replicate (X.n - j) 0)).length ≠ 0 := by rw [List.length_map, hlen]; omega
   have z2 : (List.map natV (List.replicate (j + 1) (X.log.length + 1) ++ List.replicate (X.n - (j + 1)) 0)).length = X.n := by rw [List.length_map, hlen2]
   exact ⟨.inr ⟨by rw [z2]; omega, by rw [z2, v1], by rw [cells_setc, if_pos rfl], by rw [Nat.mul_one], u3⟩, (Keeps.set1 _ _ _).mono fun j' _ e => ⟨z1, e⟩, fun j' hj' => .inl ⟨z1, hj'.2⟩⟩
  have hps : ∀ l, parts L1 { X.lead with next := l } = [.cells L1.r (RN.cells X.lead L1), .list LER 2 L1.vl X.log L1.tl, .list PkR 3 L1.vo X.out L1.to, .row L1.vv (X.votes.map V.bool) L1.ov, .row L1.vn (l.map natV) L1.on, .row L1.vm (X.lead.mat.map natV) L1.om, .wal L1.i L1.g L1.D raftN X.R L1.tw] := fun l => rfl
  have aAp := aA.p
  rw [hps] at aAp ⊢
  rw [hps]
  exact Aft.part aAp (List.perm_middle (l₁ := [_, _, _, _])) a1 (List.perm_middle (l₁ := [_, _, _, _]))
 ·have hje : j = X.n := by have := of_decide_eq_false hc; omega
  subst hje
  have e0 : List.replicate X.n (X.log.length + 1) ++ List.replicate (X.n - X.n) 0 = X.lead.next := by simp [RN.lead]
  rw [e0] at aA
  have aL : RAft S L X Sa L1 X.lead := RAft.of h aA (by rw [hd]; exact h.d) (lead_ok hk (by omega)) hr1 hi1
  simp only [go_sem, g0]
  refine wi_call ?_
  simp only [go_sem]
  rw [← hr1]
  refine add_runs (d := []) aL.w rfl isBytes_nil (by simp) ⟨hR.log, hR.out, hR.rl⟩ fun S2 L2 a2 => ?_
  simp only [go_sem]
  exact hQ S2 L2 (aL.trans a2)
theorem count_runs {w0 : World} {S : St} {Q : AEnd → St → Prop} {L : RL} {X : RN} (h : RaftAt S L X) (hR : X.Room) (hvl : X.votes.length ≤ 1000)
  (hQ : ∀ S' L', RAft S L X S' L' X.count.2 → Q (.ret (.int .i64 X.count.1)) S') : RSim Try.prog w0 n_raft_Node_count [.ptr (some (L.r, 0))] S Q := by
 have hk := h.ok
 have hn0 := hk.n0
 have hn5 := hk.n5
 have ex := h.ex
 have hlt := h.lt
 have hrow := h.vv
 have exX := ex
 unfold RN.cells at ex
 obtain ⟨cs, hvs⟩ : ∃ cs, L.vv.elems S 1 = some (X.votes.length, cs) := ⟨_, hrow.elems⟩
 have hlen : ∀ fr : Fr, aF (.len .sl (.c L.vv)) fr S = some (.int .i64 (X.votes.length : Nat)) := fun fr => by
  rcases hrow with ⟨h0, h1, _⟩ | ⟨_, h1, _⟩
  ·rw [h1, h0]; rfl
  ·rw [h1]; rfl
 -- behind the count of the votes
 have back : ∀ (fr : Fr), fr 0 = .ptr (some (L.r, 0)) → fr 3 = .int .i64 (cntV X.votes : Nat) → wCode (RSim Try.prog w0) s_raft_Node_count_0 fr S (resQ [.tmp 2] Q) := by
  intro fr f0 f3
  have hcl : cntV X.votes ≤ X.votes.length := List.length_filter_le _ _
  have w2 : IntKind.i64.wrap (2 * (cntV X.votes : Int)) = ((2 * cntV X.votes : Nat) : Int) := by rw [w64 (by omega) (by omega)]; omega
  have p1 : ((X.role : Int) != 1) = decide (X.role ≠ 1) := by rw [Bool.eq_iff_iff, bne_iff_ne, decide_eq_true_iff]; omega
  have p2 : decide (((2 * cntV X.votes : Nat) : Int) ≤ (X.n : Int)) = decide (2 * cntV X.votes ≤ X.n) := decide_eq_decide.mpr (by omega)
  unfold RN.count at hQ
  by_cases hbad : X.role ≠ 1 ∨ 2 * cntV X.votes ≤ X.n
  ·rw [if_pos hbad] at hQ
   have hb : decide (X.role ≠ 1) = true ∨ decide (X.role ≠ 1) = false ∧ decide (2 * cntV X.votes ≤ X.n) = true := by
    by_cases h1 : X.role ≠ 1
    ·exact .inl (decide_eq_true h1)
    ·exact .inr ⟨decide_eq_false h1, decide_eq_true (hbad.resolve_left h1)⟩
   rcases hb with q | ⟨q, q2⟩
   ·rw [q] at p1
    simp only [s_raft_Node_count_0, go_sem, f0, f3, ex, p1]
    refine wc_ite (b := true) (by simp only [go_sem] <;> rfl) (fun _ => ?_) (fun h => by cases h)
    simp only [go_sem]
    exact hQ S L (RAft.refl h)
   ·rw [q] at p1
    rw [q2] at p2
    simp only [s_raft_Node_count_0, go_sem, f0, f3, ex, p1, w2, p2]
    refine wc_ite (b := true) (by simp only [go_sem] <;> rfl) (fun _ => ?_) (fun h => by cases h)
    simp only [go_sem]
    exact hQ S L (RAft.refl h)
  ·rw [if_neg hbad] at hQ
   rw [decide_eq_false fun h => hbad (.inl h)] at p1
   rw [decide_eq_false fun h => hbad (.inr h)] at p2
   have hne : ¬ S.n = S.n + 1 := by omega
   have hrn : ¬ L.r = S.n := by omega
   have hrn1 : ¬ L.r = S.n + 1 := by omega
   have hnr : ¬ S.n = L.r := by omega
   have hnr1 : ¬ S.n + 1 = L.r := by omega
   have hne' : ¬ S.n + 1 = S.n := by omega
   have hrp : ∀ (n : Nat), roomOk X.n 8 = true := fun _ => by simp [roomOk]; omega
   have hfl : (List.replicate X.n [V.int .i64 0]).flatten = (List.replicate X.n 0).map natV := by
    rw [List.map_replicate]
    generalize X.n = m
    induction m with
    | zero => rfl
    | succ m ih => rw [List.replicate_succ, List.replicate_succ, List.flatten_cons, ih]; rfl
   -- the store when both rows are there
   have made : ∀ (S1 : St) (on om : Nat), Keeps (fun j => j = L.r) S S1 → S1.cells L.r = some (RN.cells { X.lead with next := List.replicate X.n 0 } { L with vn := .msl on 0 X.n 1, on := on, vm := .msl om 0 X.n 1, om := om }) → S1.cells on = some ((List.replicate X.n 0).map natV) → S1.cells om = some ((List.replicate X.n 0).map natV) → on < S1.n → om < S1.n → S.n ≤ on → S.n ≤ om → on ≠ om →
     Aft S (Res.all (parts L X)) S1 (Res.all (parts { L with vn := .msl on 0 X.n 1, on := on, vm := .msl om 0 X.n 1, om := om } { X.lead with next := List.replicate X.n 0 })) := by
    intro S1 on om k hc h1 h2 l1 l2 n1 n2 hne
    have hrl : ((List.replicate X.n 0).map natV).length = X.n := by simp
    have hml : ((X.lead.mat).map natV).length = X.n := by simp [RN.lead]
    refine parts_new2 h.h rfl ⟨rfl, rfl, rfl, rfl, rfl, rfl, rfl, rfl, rfl, rfl⟩ ⟨rfl, rfl, rfl, rfl⟩ k hc ?_ ?_ n1 n2 hne
    ·exact .inr ⟨by rw [hrl]; omega, by rw [hrl], h1, by rw [Nat.mul_one], l1⟩
    ·exact .inr ⟨by rw [hml]; omega, by rw [hml], h2, by rw [Nat.mul_one], l2⟩
   have idx : (V.int .i64 (X.n : Int)).idx = some X.n := by simp only [go_sem]
   have kr : ∀ cs, Keeps (fun j => j = L.r) S (S.set L.r (.cells cs)) := fun cs => Keeps.set1 _ _ _
   simp only [s_raft_Node_count_0, go_sem, f0, f3, ex, p1, w2, p2]
   refine wc_ite (b := false) (by simp only [go_sem] <;> rfl) (fun h => by cases h) (fun _ => ?_)
   simp only [go_sem, f0, ex]
   refine wc_alt (wc_alt ?_ ?_) ?_
   ·simp only [go_sem, f0, ex]
    refine wi_makeMu (n := X.n) (by simp only [go_sem]) (by simp only [go_sem]) (hrp 0) ?_
    simp only [go_sem, f0, ex, hrn, hne]
    refine wi_makeMu (n := X.n) (by simp only [go_sem]) (by simp only [go_sem]) (hrp 0) ?_
    simp only [go_sem, f0, ex, hrn, hne, hrn1, hnr, hnr1]
    refine count_lead h hR hn0 (made _ (S.n) (S.n + 1) ?_ ?_ ?_ ?_ ?_ ?_ (by omega) (by omega) (by omega)) rfl rfl rfl (by simp only [go_sem, f0]) hQ
    ·exact (((kr _).add _).add _).set (.inl (show L.r = L.r from rfl)) _
    ·rw [cells_setc, if_pos rfl]; rfl
    ·simp only [go_sem, hne, hne', hnr, hnr1, hrn, hrn1, hfl]
    ·simp only [go_sem, hne, hne', hnr, hnr1, hrn, hrn1, hfl]
    ·simp only [go_sem]; omega
    ·simp only [go_sem]; omega
   ·simp only [go_sem, f0, ex]
    refine wi_makeMu (n := X.n) (by simp only [go_sem]) (by simp only [go_sem]) (hrp 0) ?_
    simp only [go_sem, f0, ex, hrn, hne]
    refine wi_makeMu (n := X.n) (by simp only [go_sem]) (by simp only [go_sem]) (hrp 0) ?_
    simp only [go_sem, f0, ex, hrn, hne, hrn1, hnr, hnr1]
    refine count_lead h hR hn0 (made _ (S.n) (S.n + 1) ?_ ?_ ?_ ?_ ?_ ?_ (by omega) (by omega) (by omega)) rfl rfl rfl (by simp only [go_sem, f0]) hQ
    ·exact ((((kr _).add _).set (.inl (show L.r = L.r from rfl)) _).add _).set (.inl (show L.r = L.r from rfl)) _
    ·rw [cells_setc, if_pos rfl]; rfl
    ·simp only [go_sem, hne, hne', hnr, hnr1, hrn, hrn1, hfl]
    ·simp only [go_sem, hne, hne', hnr, hnr1, hrn, hrn1, hfl]
    ·simp only [go_sem]; omega
    ·simp only [go_sem]; omega
   ·simp only [go_sem, f0, ex]
    refine wi_makeMu (n := X.n) (by simp only [go_sem]) (by simp only [go_sem]) (hrp 0) ?_
    simp only [go_sem, f0, ex, hrn, hne]
    refine wi_makeMu (n := X.n) (by simp only [go_sem]) (by simp only [go_sem]) (hrp 0) ?_
    simp only [go_sem, f0, ex, hrn, hne, hrn1, hnr, hnr1]
    refine count_lead h hR hn0 (made _ (S.n + 1) (S.n) ?_ ?_ ?_ ?_ ?_ ?_ (by omega) (by omega) (by omega)) rfl rfl rfl (by simp only [go_sem, f0]) hQ
    ·exact (((kr _).add _).add _).set (.inl (show L.r = L.r from rfl)) _
    ·rw [cells_setc, if_pos rfl]; rfl
    ·simp only [go_sem, hne, hne', hnr, hnr1, hrn, hrn1, hfl]
    ·simp only [go_sem, hne, hne', hnr, hnr1, hrn, hrn1, hfl]
    ·simp only [go_sem]; omega
    ·simp only [go_sem]; omega
 refine RSim.run mixed k_raft_Node_count ?_ (by simp)
 simp only [b_raft_Node_count, go_sem, ex]
 rcases hrow with ⟨h0, h1, _⟩ | ⟨h0, h1, hc1, _, hol⟩
 ·have hv0 : X.votes = [] := List.eq_nil_of_length_eq_zero h0
  rw [h1]
  have z : ((0 : Nat) : Int) = 0 := rfl
  simp only [go_sem, z]
  refine loop_rule RSim.le (k := 0) (fun q fr Sa => q = 0 ∧ fr 0 = .ptr (some (L.r, 0)) ∧ fr 3 = .int .i64 0 ∧ fr 11 = .int .i64 0 ∧ fr 12 = .int .i64 0 ∧ Sa = S) ?_ ⟨rfl, by simp only [go_sem], by simp only [go_sem], by simp only [go_sem], by simp only [go_sem], rfl⟩
  rintro q fr Sa ⟨_, g0, g3, g11, g12, hSa⟩
  subst hSa
  simp only [l_raft_Node_count_0, go_sem, g11, g12]
  refine wc_ite (b := false) (by simp only [go_sem] <;> rfl) (fun h => by cases h) (fun _ => ?_)
  simp only [go_sem]
  exact back _ (by simp only [go_sem, g0]) (by simp only [go_sem, g3, hv0]; rfl)
 ·rw [h1] at ex ⊢
  simp only [go_sem]
  refine loop_rule RSim.le (k := X.votes.length) (fun q fr Sa => ∃ (j : Nat), q = X.votes.length - j ∧ j ≤ X.votes.length ∧ fr 0 = .ptr (some (L.r, 0)) ∧ fr 3 = .int .i64 (cntV (X.votes.take j) : Nat) ∧ fr 10 = .msl L.ov 0 X.votes.length 1 ∧ fr 11 = .int .i64 (X.votes.length : Nat) ∧ fr 12 = .int .i64 (j : Nat) ∧ Sa = S) ?_
   ⟨0, rfl, Nat.zero_le _, by simp only [go_sem], by simp only [go_sem]; rfl, by simp only [go_sem], by simp only [go_sem], by simp only [go_sem]; rfl, rfl⟩
  rintro q fr Sa ⟨j, hq, hj, g0, g3, g10, g11, g12, hSa⟩
  subst hSa
  simp only [l_raft_Node_count_0, go_sem, g11, g12]
  refine wc_ite (b := decide ((j : Int) < (X.votes.length : Int))) (by simp only [go_sem]) (fun hc => ?_) (fun hc => ?_)
  ·have hlt : j < X.votes.length := by have := of_decide_eq_true hc; omega
   have w1 : IntKind.i64.wrap ((j : Int) + 1) = ((j + 1 : Nat) : Int) := by rw [w64 (by omega) (by omega)]; omega
   obtain ⟨b, hb⟩ : ∃ b, X.votes[j]? = some b := ⟨_, List.getElem?_eq_getElem hlt⟩
   have hhd : ((X.votes.map V.bool).drop (j * 1)).head? = some (.bool b) := by rw [Nat.mul_one, List.head?_drop, List.getElem?_map, hb]; rfl
   have hjt : (j < X.votes.length) = True := eq_true hlt
   have hct := cntV_take hb
   have hcj : cntV (X.votes.take j) ≤ X.votes.length := Nat.le_trans (List.length_filter_le _ _) (by rw [List.length_take]; omega)
   have w2 : IntKind.i64.wrap ((cntV (X.votes.take j) : Int) + 1) = ((cntV (X.votes.take j) + 1 : Nat) : Int) := by rw [w64 (by omega) (by omega)]; omega
   cases b
   ·simp only [go_sem, g0, g10, g12, hjt, hc1, hhd]
    refine wc_ite (b := false) (by simp only [go_sem] <;> rfl) (fun h => by cases h) (fun _ => ?_)
    simp only [go_sem, g12, w1]
    exact ⟨X.votes.length - (j + 1), by omega, j + 1, rfl, by omega, g0, by rw [hct]; exact g3, g10, g11, rfl⟩
   ·simp only [go_sem, g10, g12, hjt, hc1, hhd]
    refine wc_ite (b := true) (by simp only [go_sem] <;> rfl) (fun _ => ?_) (fun h => by cases h)
    simp only [go_sem, g3, g12, w1, w2]
    exact ⟨X.votes.length - (j + 1), by omega, j + 1, rfl, by omega, g0, by rw [hct]; rfl, g10, g11, rfl⟩
  ·have hje : j = X.votes.length := by have := of_decide_eq_false hc; omega
   subst hje
   rw [List.take_length] at g3
   simp only [go_sem]
   exact back _ (by simp only [go_sem, g0]) (by simp only [go_sem, g3])
end Go.VM
