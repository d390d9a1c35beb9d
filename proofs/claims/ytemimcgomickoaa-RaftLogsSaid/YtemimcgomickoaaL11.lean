/-
  Parts: RfLogs, RfDec, RfGh, RfGu, RfNi, RfKp, RfRecs, RfGo, RfGoL.
-/
import Derived.Test.YtemimcgomickoaaL10
set_option maxRecDepth 20000
set_option linter.unusedVariables false
set_option linter.unusedSimpArgs false
namespace Go.VM
open Go Go.RowKit Go.Proofs
structure LogsI (w0 : World) (n : Nat) (I : Nat → St → WP → Prop) : Prop where
 book : ∀ j S B, I j S B → ∃ W : WB, BookAt S B W ∧ W.bad = false ∧ W.n = n ∧ W.nodes.length = n
 keep : ∀ j S S' B, I j S B → Keeps (fun _ => False) S S' → I j S' B
 pair : ∀ j S B W (a b r r' : Nat), I j S B → BookAt S B W → b < a → W.nodes[a]? = some (some r) → W.nodes[b]? = some (some r') → ∀ Q : AEnd → St → Prop, (∀ S', Keeps (fun _ => False) S S' → Q (.ret (.bool true)) S') → RSim Try.prog w0 n_l15_alike [.ptr (some (r, 0)), .ptr (some (r', 0))] S Q
theorem logs_pairs {w0 : World} {n : Nat} {I : Nat → St → WP → Prop} (hL : LogsI w0 n I) (hn5 : n ≤ 5) {m a : Nat} {S : St} {B : WP} {fr : Fr} {Qc : CPost} (ha : a < n) (h : I m S B) (f5 : fr 5 = .ptr (some (B.w, 0))) (f7 : fr 7 = .int .i64 (a : Nat)) (f8 : fr 8 = .int .i64 (0 : Nat))
  (hQ : ∀ fr' S', I m S' B → (fr' 1 = fr 1 ∧ fr' 5 = fr 5 ∧ fr' 6 = fr 6 ∧ fr' 7 = fr 7) → Qc .normal fr' S') : wCode (RSim Try.prog w0) (.blk 4 (.loop l_l15_RaftLogs_0)) fr S Qc := by
 simp only [go_sem]
 refine loop_rule RSim.le (k := a) (fun q fr1 Sa => ∃ b : Nat, q = a - b ∧ b ≤ a ∧ I m Sa B ∧ (fr1 1 = fr 1 ∧ fr1 5 = fr 5 ∧ fr1 6 = fr 6 ∧ fr1 7 = fr 7) ∧ fr1 8 = .int .i64 (b : Nat)) ?_ ⟨0, rfl, Nat.zero_le _, h, ⟨rfl, rfl, rfl, rfl⟩, f8⟩
 rintro q fr1 Sa ⟨b, hq, hb, hI, ⟨e1, e5, e6, e7⟩, e8⟩
 obtain ⟨W, hB, hbad, hWn, hWl⟩ := hL.book m Sa B hI
 have ex := hB.ex
 have g5 : fr1 5 = .ptr (some (B.w, 0)) := e5.trans f5
 have g7 : fr1 7 = .int .i64 (a : Nat) := e7.trans f7
 have p1 : decide ((b : Int) < (a : Int)) = decide (b < a) := decide_eq_decide.mpr (by omega)
 simp only [l_l15_RaftLogs_0, go_sem, g7, e8, p1]
 refine wc_ite (b := decide (b < a)) (by simp only [go_sem]) (fun hc => ?_) (fun hc => ?_)
 ·have hlt := of_decide_eq_true hc
  have w1 : IntKind.i64.wrap ((b : Int) + 1) = ((b + 1 : Nat) : Int) := by rw [w64 (by omega) (by omega)]; omega
  obtain ⟨oa, hoa⟩ : ∃ o, W.nodes[a]? = some o := ⟨_, List.getElem?_eq_getElem (by omega)⟩
  obtain ⟨ob, hob⟩ : ∃ o, W.nodes[b]? = some o := ⟨_, List.getElem?_eq_getElem (by omega)⟩
  obtain ⟨hvn, hcn, _, hja, hha⟩ := rowf_at hB.nodes hoa
  obtain ⟨_, _, _, hjb, hhb⟩ := rowf_at hB.nodes hob
  unfold WB.cells at ex
  rw [hvn] at ex
  cases oa with
  | none =>
   have hha' : ((W.nodes.map optV).drop (a * 1)).head? = some (.ptr none) := hha
   simp only [go_sem, k_l15_RaftLogs_0, g5, g7, ex, hja, hcn, hha']
   refine wc_ite (b := false) (by simp only [go_sem] <;> rfl) (fun h => by cases h) (fun _ => ?_)
   simp only [go_sem, e8, w1]
   exact ⟨a - (b + 1), by omega, b + 1, rfl, by omega, hI, ⟨e1, e5, e6, e7⟩, rfl⟩
  | some ra =>
   have hha' : ((W.nodes.map optV).drop (a * 1)).head? = some (.ptr (some (ra, 0))) := hha
   cases ob with
   | none =>
    have hhb' : ((W.nodes.map optV).drop (b * 1)).head? = some (.ptr none) := hhb
    simp only [go_sem, k_l15_RaftLogs_0, g5, g7, e8, ex, hja, hjb, hcn, hha', hhb']
    refine wc_ite (b := false) (by simp only [go_sem] <;> rfl) (fun h => by cases h) (fun _ => ?_)
    simp only [go_sem, e8, w1]
    exact ⟨a - (b + 1), by omega, b + 1, rfl, by omega, hI, ⟨e1, e5, e6, e7⟩, rfl⟩
   | some rb =>
    have hhb' : ((W.nodes.map optV).drop (b * 1)).head? = some (.ptr (some (rb, 0))) := hhb
    simp only [go_sem, k_l15_RaftLogs_0, g5, g7, e8, ex, hja, hjb, hcn, hha', hhb']
    refine wi_call ?_
    simp only [go_sem]
    refine hL.pair m Sa B W a b ra rb hI hB hlt hoa hob _ fun Sb kb => ?_
    simp only [go_sem]
    refine wc_ite (b := false) (by simp only [go_sem] <;> rfl) (fun h => by cases h) (fun _ => ?_)
    simp only [go_sem, e8, w1]
    exact ⟨a - (b + 1), by omega, b + 1, rfl, by omega, hL.keep m Sa Sb B hI kb, ⟨e1, e5, e6, e7⟩, rfl⟩
 ·simp only [go_sem]
  exact hQ _ Sa hI ⟨by simp only [go_sem, e1], by simp only [go_sem, e5], by simp only [go_sem, e6], by simp only [go_sem, e7]⟩
theorem raftLogs_runs {w0 : World} {S : St} {Q : AEnd → St → Prop} {nodes : Nat} {v : V} {t : Tok} {script : List (AC × List Int)} {I : Nat → St → WP → Prop} (hnd : nodes < 256) (hs : IsSlice ActR 6 v script t) (hsl : script.length ≤ 10000000000000)
  (haw : ∀ Q' : AEnd → St → Prop, (∀ S', Q' (.ret (.bool true)) S') → RSim Try.prog w0 n_l15_awake [] S Q') (hI : SafeI w0 (1 + nodes % 5) script 150 I) (hL : LogsI w0 (1 + nodes % 5) I) (hQ : ∀ S', Q (.ret (.bool true)) S') :
  RSim Try.prog w0 n_l15_RaftLogs [.int .u8 (nodes : Nat), v] S Q := by
 obtain ⟨cs, rfl⟩ := hs.len
 have hat := fun {j : Nat} {q : AC × List Int} (hq : script[j]? = some q) => hs.at_ hq
 have cv : ∀ S, V.conv S (.int .i64) (.int .u8 (nodes : Int)) = some (.int .i64 (nodes : Int)) := fun S => by simp only [V.conv]; rw [w64 (by omega) (by omega)]
 have tm : (nodes : Int).tmod 5 = ((nodes % 5 : Nat) : Int) := rfl
 have w1 : IntKind.i64.wrap ((nodes % 5 : Nat) : Int) = ((nodes % 5 : Nat) : Int) := by rw [w64 (by omega) (by omega)]
 have w2 : IntKind.i64.wrap (1 + ((nodes % 5 : Nat) : Int)) = ((1 + nodes % 5 : Nat) : Int) := by rw [w64 (by omega) (by omega)]; omega
 refine RSim.run mixed k_l15_RaftLogs ?_ (by simp)
 simp only [b_l15_RaftLogs, go_sem]
 refine wi_call ?_
 simp only [go_sem]
 refine haw _ fun S1 => ?_
 simp only [go_sem]
 refine wc_ite (b := false) (by simp only [go_sem] <;> rfl) (fun h => by cases h) (fun _ => ?_)
 simp only [go_sem, cv, tm, w1, w2]
 refine wi_call ?_
 simp only [go_sem]
 refine hI.begin_ S1 _ fun S2 B h0 => ?_
 simp only [go_sem]
 have fin : ∀ (fr : Fr) (j : Nat) (Sa : St) (Ba : WP), I j Sa Ba → fr 5 = .ptr (some (Ba.w, 0)) → wCode (RSim Try.prog w0) (.seq (.reg [] [.run ⟨(some 88), none, .f (.mv (.t 5))⟩, .run ⟨(some 89), none, .f (.nilCheck (.t 88))⟩, .run ⟨(some 90), none, .f (.fieldAddr 11 (.t 89))⟩, .run ⟨(some 91), none, .f (.load false 1 (.t 90))⟩, .run ⟨(some 92), none, .f (.un .not (.t 91))⟩, .run ⟨(some 4), none, .f (.mv (.t 92))⟩]) .ret) fr Sa (resQ [.tmp 4] Q) := by
  intro fr j Sa Ba hIj f5
  obtain ⟨W, hc, hb⟩ := hI.good j Sa Ba hIj
  unfold WB.cells at hc
  rw [hb] at hc
  simp only [go_sem, f5, hc]
  exact hQ Sa
 refine loop_rule RSim.le (k := script.length) (fun q fr Sa => ∃ (j : Nat) (Ba : WP), q = script.length - j ∧ j ≤ script.length ∧ j ≤ 150 ∧ fr 1 = .sl cs script.length 6 t ∧ fr 5 = .ptr (some (Ba.w, 0)) ∧ fr 6 = .int .i64 (j : Nat) ∧ I j Sa Ba) ?_
  ⟨0, B, rfl, Nat.zero_le _, Nat.zero_le _, by simp only [go_sem], by simp only [go_sem], by simp only [go_sem]; rfl, h0⟩
 rintro q fr Sa ⟨j, Ba, hq, hj, h4, f1, f5, f6, hIj⟩
 obtain ⟨W, hc, hb⟩ := hI.good j Sa Ba hIj
 unfold WB.cells at hc
 rw [hb] at hc
 have p1 : decide ((j : Int) < (script.length : Int)) = decide (j < script.length) := decide_eq_decide.mpr (by omega)
 have p2 : decide ((j : Int) < 150) = decide (j < 150) := decide_eq_decide.mpr (by omega)
 cases b1 : decide (j < script.length)
 ·rw [b1] at p1
  simp only [l_l15_RaftLogs_2, go_sem, f1, f6, p1]
  refine wc_ite (b := false) (by simp only [go_sem] <;> rfl) (fun h => by cases h) (fun _ => ?_)
  simp only [go_sem]
  exact fin _ j Sa Ba hIj (by simp only [go_sem, f5])
 rw [b1] at p1
 have hlt := of_decide_eq_true b1
 cases b2 : decide (j < 150)
 ·rw [b2] at p2
  simp only [l_l15_RaftLogs_2, go_sem, f1, f6, p1, p2]
  refine wc_ite (b := false) (by simp only [go_sem] <;> rfl) (fun h => by cases h) (fun _ => ?_)
  simp only [go_sem]
  exact fin _ j Sa Ba hIj (by simp only [go_sem, f5])
 rw [b2] at p2
 have hlt4 := of_decide_eq_true b2
 have w3 : IntKind.i64.wrap ((j : Int) + 1) = ((j + 1 : Nat) : Int) := by rw [w64 (by omega) (by omega)]; omega
 obtain ⟨x, hx⟩ : ∃ x, script[j]? = some x := ⟨_, List.getElem?_eq_getElem hlt⟩
 obtain ⟨cs', c, e1, hne, hjl, ht, hcl, hc2, vd, kt, hcc, hvd, hkt⟩ := hat hx
 injection e1 with e1 _
 subst e1
 have hjt : (j < script.length) = True := eq_true hlt
 have htn : (t = .nil) = False := eq_false hne
 simp only [l_l15_RaftLogs_2, go_sem, f1, f5, f6, p1, p2, hc]
 refine wc_ite (b := true) (by simp only [go_sem] <;> rfl) (fun _ => ?_) (fun h => by cases h)
 simp only [go_sem, f1, f5, f6, hjt, htn, ht]
 refine wi_call ?_
 simp only [go_sem]
 rw [hcc]
 refine hI.step j x Sa Ba vd kt _ hlt4 hx hvd hkt hIj fun S' B' hw h' => ?_
 simp only [go_sem]
 refine loop_rule RSim.le (k := 1 + nodes % 5) (fun q fr1 Sb => ∃ a : Nat, q = 1 + nodes % 5 - a ∧ a ≤ 1 + nodes % 5 ∧ I (j + 1) Sb B' ∧ fr1 1 = .sl cs script.length 6 t ∧ fr1 5 = .ptr (some (Ba.w, 0)) ∧ fr1 6 = .int .i64 (j : Nat) ∧ fr1 7 = .int .i64 (a : Nat)) ?_
  ⟨0, rfl, Nat.zero_le _, h', by simp only [go_sem, f1], by simp only [go_sem, f5], by simp only [go_sem, f6], by simp only [go_sem]; rfl⟩
 rintro q2 fr1 Sb ⟨a, hq2, ha, hIa, g1, g5, g6, g7⟩
 obtain ⟨W2, hB2, hb2, hn2, hl2⟩ := hL.book (j + 1) Sb B' hIa
 have ex2 := hB2.ex
 rw [hw] at ex2
 unfold WB.cells at ex2
 have p3 : decide ((a : Int) < (W2.n : Int)) = decide (a < 1 + nodes % 5) := decide_eq_decide.mpr (by omega)
 simp only [l_l15_RaftLogs_1, go_sem, g5, g7, ex2, p3]
 refine wc_ite (b := decide (a < 1 + nodes % 5)) (by simp only [go_sem]) (fun hc => ?_) (fun hc => ?_)
 ·have hlta := of_decide_eq_true hc
  have w4 : IntKind.i64.wrap ((a : Int) + 1) = ((a + 1 : Nat) : Int) := by rw [w64 (by omega) (by omega)]; omega
  simp only [go_sem]
  refine logs_pairs hL (by omega) hlta hIa (by simp only [go_sem, g5, hw]) (by simp only [go_sem, g7]) (by simp only [go_sem]; rfl) fun fr' Sc hIc he => ?_
  obtain ⟨e1, e5, e6, e7⟩ := he
  simp only [go_sem, g1, g5, g6, g7] at e1 e5 e6 e7
  simp only [go_sem, e7, w4]
  exact ⟨1 + nodes % 5 - (a + 1), by omega, a + 1, rfl, by omega, hIc, e1, e5, e6, rfl⟩
 ·simp only [go_sem, g6, w3]
  exact ⟨script.length - (j + 1), by omega, j + 1, B', rfl, by omega, by omega, g1, by rw [hw]; exact g5, rfl, hIa⟩
end Go.VM
namespace Go.VM
open Go Go.RowKit Go.Proofs
theorem rdN_back : ∀ (l : List Nat) (bs rest : List UInt8) (a : Nat), bs.drop a = l.flatMap uvar ++ rest → (∀ x ∈ l, x < 4611686018427387904) → rdN bs l.length a = some (l, a + (l.flatMap uvar).length)
 | [], bs, rest, a, _, _ => rfl
 | x :: l, bs, rest, a, h, hx => by
  have hx0 := hx x (by simp)
  rw [List.flatMap_cons, List.append_assoc] at h
  have e1 : ruv 0 0 (bs.drop a) = some (x, (uvar x).length) := by rw [h]; exact ruv_one (by omega) _
  have e2 : bs.drop (a + (uvar x).length) = l.flatMap uvar ++ rest := by rw [← List.drop_drop, h, List.drop_left]
  have ih := rdN_back l bs rest (a + (uvar x).length) e2 fun y hy => hx y (List.mem_cons_of_mem _ hy)
  show rdN bs (l.length + 1) a = _
  unfold rdN
  rw [e1]
  simp only
  rw [if_neg (by omega), ih]
  simp only [Option.map_some, List.flatMap_cons, List.length_append, Nat.add_assoc]
theorem readT_one {s rest : List UInt8} (h : s.length ≤ 200) : readT 200 (textB s ++ rest) = .inr (s, (textB s).length) := by
 unfold readT textB
 rw [List.append_assoc, ruv_one (by omega)]
 simp only
 rw [if_neg (by simp), if_neg (by omega), List.drop_left' rfl, List.take_left' rfl, List.length_append]
theorem rdE_back : ∀ (l : List LE) (bs rest : List UInt8) (a : Nat), bs.drop a = l.flatMap leB ++ rest → (∀ x ∈ l, x.Ok) → rdE bs l.length a = some (l, a + (l.flatMap leB).length)
 | [], bs, rest, a, _, _ => rfl
 | x :: l, bs, rest, a, h, hx => by
  have hx0 := hx x (by simp)
  rw [List.flatMap_cons, List.append_assoc] at h
  unfold leB at h
  rw [List.append_assoc] at h
  have e1 : ruv 0 0 (bs.drop a) = some (x.t, (uvar x.t).length) := by rw [h]; exact ruv_one hx0.t _
  have e2 : bs.drop (a + (uvar x.t).length) = textB x.d ++ (l.flatMap leB ++ rest) := by rw [← List.drop_drop, h, List.drop_left]; rfl
  have e3 : readT 200 (bs.drop (a + (uvar x.t).length)) = .inr (x.d, (textB x.d).length) := by rw [e2]; exact readT_one hx0.d
  have e4 : bs.drop (a + (uvar x.t).length + (textB x.d).length) = l.flatMap leB ++ rest := by rw [← List.drop_drop, e2, List.drop_left]
  have ih := rdE_back l bs rest _ e4 fun y hy => hx y (List.mem_cons_of_mem _ hy)
  show rdE bs (l.length + 1) a = _
  unfold rdE
  rw [e1]
  simp only
  rw [e3]
  simp only
  rw [ih]
  simp only [Option.map_some, List.flatMap_cons, List.length_append, Nat.add_assoc, leB]
theorem decM_msB {m : Ms} (hm : m.Ok) (hk : 1 ≤ m.kind ∧ m.kind ≤ 4) (ht : m.term < 4611686018427387904) (hi : m.index < 4611686018427387904) (ha : m.at_ < 4611686018427387904) (hc : m.commit < 4611686018427387904) : decM (msB m) = some m := by
 have hkn : (UInt8.ofNat m.kind).toNat = m.kind := by rw [UInt8.toNat_ofNat']; omega
 have hn := hm.n
 have e1 := rdN_back [m.term, m.index, m.at_, m.commit, m.ents.length] (msB m) (m.ents.flatMap leB) 2 (by unfold msB; rw [List.append_assoc]; rfl) (by
  intro x hx
  simp only [List.mem_cons, List.not_mem_nil, or_false] at hx
  omega)
 have e2 := rdE_back m.ents (msB m) [] (2 + ([m.term, m.index, m.at_, m.commit, m.ents.length].flatMap uvar).length) (by
  unfold msB
  rw [show 2 + ([m.term, m.index, m.at_, m.commit, m.ents.length].flatMap uvar).length = ([UInt8.ofNat m.kind, if m.ok then 1 else 0] ++ [m.term, m.index, m.at_, m.commit, m.ents.length].flatMap uvar).length by rw [List.length_append]; rfl, List.drop_left, List.append_nil]) hm.ents
 have hlen : 2 + ([m.term, m.index, m.at_, m.commit, m.ents.length].flatMap uvar).length + (m.ents.flatMap leB).length = (msB m).length := by
  unfold msB; rw [List.length_append, List.length_append]; rfl
 have hsplit : ∃ r, msB m = UInt8.ofNat m.kind :: (if m.ok then 1 else 0) :: r := ⟨_, rfl⟩
 obtain ⟨r, hr⟩ := hsplit
 have hok : ((if m.ok then (1 : UInt8) else 0)).toNat ≤ 1 := by cases m.ok <;> decide
 have hok2 : ((if m.ok then (1 : UInt8) else 0) == 1) = m.ok := by cases m.ok <;> rfl
 rw [hr] at e1 e2 hlen ⊢
 unfold decM
 simp only
 rw [if_neg (by rw [hkn]; omega)]
 simp only [List.length_cons, List.length_nil, Nat.zero_add] at e1
 rw [e1]
 simp only
 rw [e2]
 simp only
 rw [if_pos hlen, hkn, hok2]
end Go.VM
namespace Go.VM
open Go Go.RowKit Go.Proofs
structure GH where
 ld : Nat → Option Nat
 LL : Nat → List LE
 CL : Nat → Nat → Option (List LE)
 vt : Nat → Nat → Option Nat
 ak : Nat → Nat → Nat
 lt : Nat → Nat
structure KN where
 prop : List (List UInt8)
 h : Nat
 e : Nat
def Gd (G : GH) (l : List LE) : Prop := ∀ k x, l[k]? = some x → l.take (k + 1) = (G.LL x.t).take (k + 1)
def Skip (G : GH) (P : List LE) (T U : Nat) : Prop := ∃ W c l, T < W ∧ W < U ∧ G.ld W = some c ∧ G.CL W c = some l ∧ ¬ P <+: l
def VP (G : GH) (v U : Nat) (l : List LE) : Prop := ∀ T k, T < U → 1 ≤ k → k ≤ G.ak v T → lastT (G.LL T) k = T → (G.LL T).take k <+: l ∨ Skip G ((G.LL T).take k) T U
def Maj (n : Nat) (s : Nat → Bool) : Prop := n < 2 * ((List.range n).filter s).length
structure GI (n : Nat) (G : GH) (K : KN) : Prop where
 led : ∀ T c, G.ld T = some c → c < n ∧ ∃ l es, G.CL T c = some l ∧ G.LL T = l ++ es ∧ es ≠ [] ∧ ∀ x ∈ es, x.t = T
 no : ∀ T, G.ld T = none → G.LL T = []
 good : ∀ T, Gd G (G.LL T)
 cl : ∀ U c l, G.CL U c = some l → Gd G l ∧ (∀ x ∈ l, x.t < U) ∧ 1 ≤ U ∧ U ≤ K.e
 el : ∀ U c l, G.ld U = some c → G.CL U c = some l → ∃ s, Maj n s ∧ ∀ v, v < n → s v = true → G.vt v U = some c ∧ VP G v U l
 vo : ∀ v U c, G.vt v U = some c → ∃ l, G.CL U c = some l ∧ (G.ld U ≠ none ∨ VP G v U l)
 ak : ∀ v T, G.ak v T ≤ (G.LL T).length
 len : ∀ T, (G.LL T).length ≤ K.prop.length + T
 ok : ∀ T x, x ∈ G.LL T → x.Ok ∧ (x.d = [] ∨ x.d ∈ K.prop)
theorem maj_meet {n : Nat} {s s' : Nat → Bool} (h : Maj n s) (h' : Maj n s') : ∃ v, v < n ∧ s v = true ∧ s' v = true := by
 have key : ∀ l : List Nat, (l.filter s).length + (l.filter s').length ≤ l.length + (l.filter fun v => s v && s' v).length := by
  intro l
  induction l with
  | nil => simp
  | cons a l ih =>
   simp only [List.filter_cons, List.length_cons]
   cases s a <;> cases s' a <;> simp <;> omega
 have k := key (List.range n)
 unfold Maj at h h'
 rw [List.length_range] at k
 have hp : 0 < ((List.range n).filter fun v => s v && s' v).length := by omega
 obtain ⟨v, hv⟩ := List.exists_mem_of_length_pos hp
 rw [List.mem_filter, List.mem_range, Bool.and_eq_true] at hv
 exact ⟨v, hv.1, hv.2.1, hv.2.2⟩
theorem maj_some {n : Nat} {s : Nat → Bool} (h : Maj n s) : ∃ v, v < n ∧ s v = true := by
 obtain ⟨v, h1, h2, _⟩ := maj_meet h h
 exact ⟨v, h1, h2⟩
theorem lastT_succ (l : List LE) (k : Nat) : lastT l (k + 1) = ((l[k]?).map LE.t).getD 0 := rfl
theorem lastT_get {l : List LE} {k : Nat} {x : LE} (h : l[k]? = some x) : lastT l (k + 1) = x.t := by
 rw [lastT_succ, h]; rfl
theorem lastT_take {l m : List LE} {k j : Nat} (h : l.take k = m.take k) (hj : j ≤ k) : lastT l j = lastT m j := by
 cases j with
 | zero => rfl
 | succ j =>
  have e : (l.take k)[j]? = (m.take k)[j]? := by rw [h]
  rw [List.getElem?_take_of_lt (by omega), List.getElem?_take_of_lt (by omega)] at e
  rw [lastT_succ, lastT_succ, e]
theorem get_take {l m : List LE} {k j : Nat} (h : l.take k = m.take k) (hj : j < k) : l[j]? = m[j]? := by
 have e : (l.take k)[j]? = (m.take k)[j]? := by rw [h]
 rwa [List.getElem?_take_of_lt hj, List.getElem?_take_of_lt hj] at e
theorem take_len {l m : List LE} {k : Nat} (h : l.take k = m.take k) (hk : k ≤ l.length) : k ≤ m.length := by
 have := congrArg List.length h
 rw [List.length_take, List.length_take] at this; omega
theorem take_less {l m : List LE} {k j : Nat} (h : l.take k = m.take k) (hj : j ≤ k) : l.take j = m.take j := by
 have e := congrArg (List.take j) h
 rwa [List.take_take, List.take_take, Nat.min_eq_left hj] at e
theorem pre_take {l m : List LE} (h : l <+: m) : m.take l.length = l := (List.prefix_iff_eq_take.1 h).symm
theorem pre_take_le {l m : List LE} {k : Nat} (h : l <+: m) (hk : k ≤ l.length) : m.take k = l.take k := by
 obtain ⟨r, rfl⟩ := h
 exact List.take_append_of_le_length hk
theorem pre_mono {l : List LE} {j k : Nat} (h : j ≤ k) : l.take j <+: l.take k := by
 rw [show l.take j = (l.take k).take j by rw [List.take_take, Nat.min_eq_left h]]
 exact List.take_prefix _ _
variable {n : Nat} {G G' : GH} {K : KN}
theorem gd_nil : Gd G [] := fun k x h => by simp at h
theorem gd_pre {l m : List LE} (h : Gd G m) (p : l <+: m) : Gd G l := fun k x hx => by
 obtain ⟨r, rfl⟩ := p
 have hk : k < l.length := (List.getElem?_eq_some_iff.1 hx).1
 have := h k x (by rw [List.getElem?_append_left hk]; exact hx)
 rwa [List.take_append_of_le_length (by omega)] at this
theorem gd_take {l : List LE} (h : Gd G l) (k : Nat) : Gd G (l.take k) := gd_pre h (List.take_prefix _ _)
theorem GI.le (g : GI n G K) {T : Nat} {x : LE} (h : x ∈ G.LL T) : x.t ≤ T := by
 cases hl : G.ld T with
 | none => rw [g.no T hl] at h; cases h
 | some c =>
  obtain ⟨_, l, es, h1, h2, _, h4⟩ := g.led T c hl
  rw [h2] at h
  rcases List.mem_append.1 h with h | h
  ·exact Nat.le_of_lt ((g.cl T c l h1).2.1 x h)
  ·rw [h4 x h]; exact Nat.le_refl _
theorem gd_mono (g : GI n G K) {l : List LE} (h : Gd G l) {j k : Nat} {x y : LE} (hx : l[j]? = some x) (hy : l[k]? = some y) (hjk : j ≤ k) : x.t ≤ y.t := by
 have e := get_take (h k y hy) (j := j) (by omega)
 rw [hx] at e
 exact g.le (List.mem_of_getElem? e.symm)
theorem gd_mem {l : List LE} (h : Gd G l) {x : LE} (hx : x ∈ l) : x ∈ G.LL x.t := by
 obtain ⟨k, hk⟩ := List.mem_iff_getElem?.1 hx
 have e := get_take (h k x hk) (j := k) (by omega)
 rw [hk] at e
 exact List.mem_of_getElem? e.symm
theorem gd_whole {l : List LE} (h : Gd G l) (h0 : l ≠ []) : l = (G.LL (lastT l l.length)).take l.length ∧ l.length ≤ (G.LL (lastT l l.length)).length := by
 have hp : 0 < l.length := List.length_pos_iff.2 h0
 obtain ⟨x, hx⟩ : ∃ x, l[l.length - 1]? = some x := ⟨_, List.getElem?_eq_getElem (by omega)⟩
 have e := h _ x hx
 have hl := lastT_get hx
 rw [show l.length - 1 + 1 = l.length by omega] at e hl
 rw [hl, ← e, List.take_length]
 refine ⟨rfl, take_len e (Nat.le_refl _)⟩
theorem gd_len (g : GI n G K) {l : List LE} (h : Gd G l) {t : Nat} (ht : ∀ x ∈ l, x.t ≤ t) : l.length ≤ K.prop.length + t := by
 by_cases h0 : l = []
 ·subst h0; simp
 ·obtain ⟨_, h2⟩ := gd_whole h h0
  have h3 := g.len (lastT l l.length)
  have hp : 0 < l.length := List.length_pos_iff.2 h0
  obtain ⟨x, hx⟩ : ∃ x, l[l.length - 1]? = some x := ⟨_, List.getElem?_eq_getElem (by omega)⟩
  have hl := lastT_get hx
  rw [show l.length - 1 + 1 = l.length by omega] at hl
  have := ht x (List.mem_of_getElem? hx)
  omega
theorem gd_ok (g : GI n G K) {l : List LE} (h : Gd G l) {x : LE} (hx : x ∈ l) : x.Ok ∧ (x.d = [] ∨ x.d ∈ K.prop) := g.ok _ _ (gd_mem h hx)
theorem gd_two {l m : List LE} (h : Gd G l) (h' : Gd G m) {k : Nat} {x y : LE} (hx : l[k]? = some x) (hy : m[k]? = some y) (e : x.t = y.t) : l.take (k + 1) = m.take (k + 1) := by
 rw [h k x hx, h' k y hy, e]
theorem lastT_le {l : List LE} {t : Nat} (h : ∀ x ∈ l, x.t ≤ t) (k : Nat) : lastT l k ≤ t := by
 cases k with
 | zero => exact Nat.zero_le _
 | succ k =>
  rw [lastT_succ]
  cases hx : l[k]? with
  | none => exact Nat.zero_le _
  | some x => exact h x (List.mem_of_getElem? hx)
theorem gd_last {l m : List LE} (h : Gd G l) (h' : Gd G m) {k : Nat} (hk : k ≤ l.length) (hk' : k ≤ m.length) (e : lastT l k = lastT m k) : l.take k = m.take k := by
 cases k with
 | zero => simp
 | succ k =>
  obtain ⟨x, hx⟩ : ∃ x, l[k]? = some x := ⟨_, List.getElem?_eq_getElem (by omega)⟩
  obtain ⟨y, hy⟩ : ∃ y, m[k]? = some y := ⟨_, List.getElem?_eq_getElem (by omega)⟩
  rw [lastT_get hx, lastT_get hy] at e
  exact gd_two h h' hx hy e
theorem led_all (g : GI n G K) {T k : Nat} {s : Nat → Bool} (h1 : 1 ≤ k) (hT : lastT (G.LL T) k = T) (hm : Maj n s) (hs : ∀ v, v < n → s v = true → k ≤ G.ak v T) :
  ∀ U c l, T < U → G.ld U = some c → G.CL U c = some l → (G.LL T).take k <+: l := by
 intro U
 induction U using Nat.strongRecOn with
 | ind U ih =>
  intro c l hU hld hcl
  obtain ⟨s', hm', hv⟩ := g.el U c l hld hcl
  obtain ⟨v, hvn, a, b⟩ := maj_meet hm hm'
  rcases (hv v hvn b).2 T k hU h1 (hs v hvn a) hT with h | ⟨W, c', l', w1, w2, w3, w4, w5⟩
  ·exact h
  ·exact absurd (ih W w2 c' l' w1 w3 w4) w5
def SureB (G : GH) (n B : Nat) (P : List LE) : Prop := P = [] ∨ ∃ T k s, T ≤ B ∧ 1 ≤ k ∧ lastT (G.LL T) k = T ∧ Maj n s ∧ (∀ v, v < n → s v = true → k ≤ G.ak v T) ∧ P <+: (G.LL T).take k
theorem sureB_nil {B : Nat} : SureB G n B [] := .inl rfl
theorem SureB.pre {B : Nat} {P R : List LE} (h : SureB G n B P) (p : R <+: P) : SureB G n B R := by
 rcases h with rfl | ⟨T, k, s, h1, h2, h3, h4, h5, h6⟩
 ·exact .inl (List.prefix_nil.1 p)
 ·exact .inr ⟨T, k, s, h1, h2, h3, h4, h5, p.trans h6⟩
theorem SureB.le {B B' : Nat} {P : List LE} (h : SureB G n B P) (hb : B ≤ B') : SureB G n B' P := by
 rcases h with rfl | ⟨T, k, s, h1, h2⟩
 ·exact .inl rfl
 ·exact .inr ⟨T, k, s, Nat.le_trans h1 hb, h2⟩
theorem SureB.led (g : GI n G K) {B U c : Nat} {P : List LE} (h : SureB G n B P) (hb : B ≤ U) (hl : G.ld U = some c) : P <+: G.LL U := by
 rcases h with rfl | ⟨T, k, s, h1, h2, h3, h4, h5, h6⟩
 ·exact List.nil_prefix
 ·by_cases hT : T = U
  ·subst hT; exact h6.trans (List.take_prefix _ _)
  ·obtain ⟨_, l, es, e1, e2, _⟩ := g.led U c hl
   have := led_all g h2 h3 h4 h5 U c l (by omega) hl e1
   rw [e2]
   exact (h6.trans this).trans (List.prefix_append _ _)
theorem sure_led (g : GI n G K) {T k : Nat} (h1 : 1 ≤ k) (hk : k ≤ (G.LL T).length) : ∃ c, G.ld T = some c := by
 cases h : G.ld T with
 | none => rw [g.no T h] at hk; simp at hk; omega
 | some c => exact ⟨c, rfl⟩
theorem SureB.two (g : GI n G K) {B B' : Nat} {P R : List LE} (h : SureB G n B P) (h' : SureB G n B' R) : P <+: R ∨ R <+: P := by
 have key : ∀ {P R : List LE} {T T' k k' : Nat} {s s' : Nat → Bool}, T ≤ T' → 1 ≤ k → lastT (G.LL T) k = T → Maj n s → (∀ v, v < n → s v = true → k ≤ G.ak v T) → P <+: (G.LL T).take k → 1 ≤ k' → lastT (G.LL T') k' = T' → Maj n s' → (∀ v, v < n → s' v = true → k' ≤ G.ak v T') → R <+: (G.LL T').take k' → P <+: R ∨ R <+: P := by
  intro P R T T' k k' s s' hT a1 a2 a3 a4 a5 b1 b2 b3 b4 b5
  obtain ⟨v, hv, hs⟩ := maj_some b3
  have hk' := Nat.le_trans (b4 v hv hs) (g.ak v T')
  obtain ⟨c, hc⟩ := sure_led g b1 hk'
  have p1 : P <+: G.LL T' := SureB.led g (.inr ⟨T, k, s, Nat.le_refl _, a1, a2, a3, a4, a5⟩) hT hc
  have p2 : R <+: G.LL T' := b5.trans (List.take_prefix _ _)
  rcases Nat.le_total P.length R.length with hl | hl
  ·exact .inl (List.prefix_of_prefix_length_le p1 p2 hl)
  ·exact .inr (List.prefix_of_prefix_length_le p2 p1 hl)
 rcases h with rfl | ⟨T, k, s, _, a1, a2, a3, a4, a5⟩
 ·exact .inl List.nil_prefix
 rcases h' with rfl | ⟨T', k', s', _, b1, b2, b3, b4, b5⟩
 ·exact .inr List.nil_prefix
 rcases Nat.le_total T T' with hT | hT
 ·exact key hT a1 a2 a3 a4 a5 b1 b2 b3 b4 b5
 ·exact (key hT b1 b2 b3 b4 b5 a1 a2 a3 a4 a5).symm
structure Grow (G G' : GH) : Prop where
 ld : ∀ T c, G.ld T = some c → G'.ld T = some c
 LL : ∀ T, G.LL T <+: G'.LL T
 CL : ∀ U c l, G.CL U c = some l → G'.CL U c = some l
 vt : ∀ x U c, G.vt x U = some c → G'.vt x U = some c
 ak : ∀ x T, G.ak x T ≤ G'.ak x T
 lt : ∀ x, G'.lt x = G.lt x
theorem Grow.refl (G : GH) : Grow G G := ⟨fun _ _ h => h, fun _ => List.prefix_rfl, fun _ _ _ h => h, fun _ _ _ h => h, fun _ _ => Nat.le_refl _, fun _ => rfl⟩
theorem Grow.trans {G1 : GH} (a : Grow G G1) (b : Grow G1 G') : Grow G G' := ⟨fun T c h => b.ld T c (a.ld T c h), fun T => (a.LL T).trans (b.LL T), fun U c l h => b.CL U c l (a.CL U c l h), fun x U c h => b.vt x U c (a.vt x U c h), fun x T => Nat.le_trans (a.ak x T) (b.ak x T), fun x => (b.lt x).trans (a.lt x)⟩
theorem Grow.take (w : Grow G G') {T k : Nat} (hk : k ≤ (G.LL T).length) : (G'.LL T).take k = (G.LL T).take k := pre_take_le (w.LL T) hk
theorem Grow.last (w : Grow G G') {T k : Nat} (hk : k ≤ (G.LL T).length) : lastT (G'.LL T) k = lastT (G.LL T) k := lastT_take (w.take hk) (Nat.le_refl _)
theorem Grow.gd (w : Grow G G') {l : List LE} (h : Gd G l) : Gd G' l := fun k x hx => by
 have e := h k x hx
 have hk : k < l.length := (List.getElem?_eq_some_iff.1 hx).1
 rw [e, w.take (take_len e (by omega))]
theorem Grow.skip (w : Grow G G') {P : List LE} {T U : Nat} (h : Skip G P T U) : Skip G' P T U := by
 obtain ⟨W, c, l, h1, h2, h3, h4, h5⟩ := h
 exact ⟨W, c, l, h1, h2, w.ld _ _ h3, w.CL _ _ _ h4, h5⟩
theorem Skip.le {P : List LE} {T U U' : Nat} (h : Skip G P T U) (hU : U ≤ U') : Skip G P T U' := by
 obtain ⟨W, c, l, h1, h2, h3⟩ := h
 exact ⟨W, c, l, h1, by omega, h3⟩
theorem Grow.vp (w : Grow G G') (a : ∀ v T, G.ak v T ≤ (G.LL T).length) {v U : Nat} {l : List LE} (hk : ∀ T, T < U → G'.ak v T = G.ak v T) (h : VP G v U l) : VP G' v U l := fun T k hT h1 hle hl => by
 rw [hk T hT] at hle
 have hkl := Nat.le_trans hle (a v T)
 rw [w.last hkl] at hl
 rw [w.take hkl]
 rcases h T k hT h1 hle hl with h | h
 ·exact .inl h
 ·exact .inr (w.skip h)
theorem Grow.sure (w : Grow G G') (a : ∀ v T, G.ak v T ≤ (G.LL T).length) {B : Nat} {P : List LE} (h : SureB G n B P) : SureB G' n B P := by
 rcases h with rfl | ⟨T, k, s, h1, h2, h3, h4, h5, h6⟩
 ·exact .inl rfl
 ·obtain ⟨v, hv, hs⟩ := maj_some h4
  have hkl := Nat.le_trans (h5 v hv hs) (a v T)
  exact .inr ⟨T, k, s, h1, h2, by rw [w.last hkl]; exact h3, h4, fun v hv hs => Nat.le_trans (h5 v hv hs) (w.ak v T), by rw [w.take hkl]; exact h6⟩
end Go.VM
namespace Go.VM
open Go Go.RowKit Go.Proofs
def GH.vote (G : GH) (v U c : Nat) : GH := { G with vt := fun x T => if x = v ∧ T = U then some c else G.vt x T }
def GH.stand (G : GH) (c U : Nat) (l : List LE) : GH := { G with CL := fun T x => if T = U ∧ x = c then some l else G.CL T x, vt := fun x T => if x = c ∧ T = U then some c else G.vt x T }
def GH.win (G : GH) (U c : Nat) (l : List LE) : GH := { G with ld := fun T => if T = U then some c else G.ld T, LL := fun T => if T = U then l else G.LL T }
def GH.add (G : GH) (T : Nat) (x : LE) : GH := { G with LL := fun T' => if T' = T then G.LL T ++ [x] else G.LL T' }
def GH.ack (G : GH) (v T k : Nat) : GH := { G with ak := fun x T' => if x = v ∧ T' = T then max (G.ak v T) k else G.ak x T' }
variable {n : Nat} {G G' : GH} {K K' : KN}
theorem GI.more (g : GI n G K) (hl : K.prop.length ≤ K'.prop.length) (hm : ∀ d ∈ K.prop, d ∈ K'.prop) (he : K.e ≤ K'.e) : GI n G K' :=
 ⟨g.led, g.no, g.good, fun U c l h => ⟨(g.cl U c l h).1, (g.cl U c l h).2.1, (g.cl U c l h).2.2.1, Nat.le_trans (g.cl U c l h).2.2.2 he⟩, g.el, g.vo, g.ak, fun T => Nat.le_trans (g.len T) (by omega), fun T x hx => ⟨(g.ok T x hx).1, (g.ok T x hx).2.imp id (hm _)⟩⟩
theorem vote_grow {v U c : Nat} (ho : ∀ c', G.vt v U = some c' → c' = c) : Grow G (G.vote v U c) :=
 ⟨fun _ _ h => h, fun _ => List.prefix_rfl, fun _ _ _ h => h, fun x T c' h => by
  show (if x = v ∧ T = U then some c else G.vt x T) = some c'
  split
  ·rename_i hx; obtain ⟨rfl, rfl⟩ := hx; rw [ho c' h]
  ·exact h, fun _ _ => Nat.le_refl _, fun _ => rfl⟩
theorem vote_gi {v U c : Nat} {l : List LE} (g : GI n G K) (hc : G.CL U c = some l) (hv : G.ld U ≠ none ∨ VP G v U l) (ho : ∀ c', G.vt v U = some c' → c' = c) : GI n (G.vote v U c) K := by
 have w := vote_grow ho
 refine ⟨g.led, g.no, g.good, g.cl, fun U' c' l' h1 h2 => ?_, fun v' U' c' h => ?_, g.ak, g.len, g.ok⟩
 ·obtain ⟨s, hm, hs⟩ := g.el U' c' l' h1 h2
  exact ⟨s, hm, fun x hx hsx => ⟨w.vt _ _ _ (hs x hx hsx).1, (hs x hx hsx).2⟩⟩
 ·have h' : (if v' = v ∧ U' = U then some c else G.vt v' U') = some c' := h
  split at h'
  ·rename_i hx
   obtain ⟨rfl, rfl⟩ := hx
   injection h' with h'
   subst h'
   exact ⟨l, hc, hv⟩
  ·exact g.vo v' U' c' h'
theorem stand_grow {c U : Nat} {l : List LE} (hn : G.CL U c = none) (hv : G.vt c U = none) : Grow G (G.stand c U l) :=
 ⟨fun _ _ h => h, fun _ => List.prefix_rfl, fun T x l' h => by
  show (if T = U ∧ x = c then some l else G.CL T x) = some l'
  split
  ·rename_i hx; obtain ⟨rfl, rfl⟩ := hx; rw [hn] at h; cases h
  ·exact h, fun x T c' h => by
  show (if x = c ∧ T = U then some c else G.vt x T) = some c'
  split
  ·rename_i hx; obtain ⟨rfl, rfl⟩ := hx; rw [hv] at h; cases h
  ·exact h, fun _ _ => Nat.le_refl _, fun _ => rfl⟩
theorem stand_gi {c U : Nat} {l : List LE} (g : GI n G K) (hn : G.CL U c = none) (hv : G.vt c U = none) (hg : Gd G l) (hl : ∀ x ∈ l, x.t < U) (h1 : 1 ≤ U) (he : U ≤ K.e) (hp : VP G c U l) : GI n (G.stand c U l) K := by
 have w := stand_grow (l := l) hn hv
 have cl1 : (G.stand c U l).CL U c = some l := by show (if U = U ∧ c = c then some l else _) = _; rw [if_pos ⟨rfl, rfl⟩]
 refine ⟨fun T c' h => ?_, g.no, g.good, fun U' c' l' h => ?_, fun U' c' l' h1 h2 => ?_, fun v' U' c' h => ?_, g.ak, g.len, g.ok⟩
 ·obtain ⟨a, l', es, b1, b2⟩ := g.led T c' h
  exact ⟨a, l', es, w.CL _ _ _ b1, b2⟩
 ·have h' : (if U' = U ∧ c' = c then some l else G.CL U' c') = some l' := h
  split at h'
  ·rename_i hx
   obtain ⟨rfl, rfl⟩ := hx
   injection h' with h'
   subst h'
   exact ⟨w.gd hg, hl, h1, he⟩
  ·exact g.cl U' c' l' h'
 ·obtain ⟨_, l0, es, b1, _⟩ := g.led U' c' h1
  rw [w.CL _ _ _ b1] at h2
  injection h2 with h2
  subst h2
  obtain ⟨s, hm, hs⟩ := g.el U' c' l0 h1 b1
  exact ⟨s, hm, fun x hx hsx => ⟨w.vt _ _ _ (hs x hx hsx).1, w.vp g.ak (fun _ _ => rfl) (hs x hx hsx).2⟩⟩
 ·have h' : (if v' = c ∧ U' = U then some c else G.vt v' U') = some c' := h
  split at h'
  ·rename_i hx
   obtain ⟨rfl, rfl⟩ := hx
   injection h' with h'
   subst h'
   exact ⟨l, cl1, .inr (w.vp g.ak (fun _ _ => rfl) hp)⟩
  ·obtain ⟨l0, a, b⟩ := g.vo v' U' c' h'
   exact ⟨l0, w.CL _ _ _ a, b.imp id (w.vp g.ak fun _ _ => rfl)⟩
theorem gd_snoc {l : List LE} {x : LE} (h : Gd G l) (hx : G.LL x.t = l ++ [x]) : Gd G (l ++ [x]) := fun k y hy => by
 rcases Nat.lt_or_ge k l.length with hk | hk
 ·rw [List.getElem?_append_left hk] at hy
  rw [List.take_append_of_le_length (by omega)]
  exact h k y hy
 ·have hk2 : k < (l ++ [x]).length := (List.getElem?_eq_some_iff.1 hy).1
  simp at hk2
  have he : k = l.length := by omega
  subst he
  simp at hy
  subst hy
  rw [hx]
theorem win_grow {U c : Nat} {l : List LE} (g : GI n G K) (hn : G.ld U = none) : Grow G (G.win U c l) :=
 ⟨fun T c' h => by
  show (if T = U then some c else G.ld T) = some c'
  split
  ·rename_i hx; subst hx; rw [hn] at h; cases h
  ·exact h, fun T => by
  show G.LL T <+: (if T = U then l else G.LL T)
  split
  ·rename_i hx; subst hx; rw [g.no T hn]; exact List.nil_prefix
  ·exact List.prefix_rfl, fun _ _ _ h => h, fun _ _ _ h => h, fun _ _ => Nat.le_refl _, fun _ => rfl⟩
theorem win_gi {U c : Nat} {l : List LE} {x : LE} {s : Nat → Bool} (g : GI n G K) (hn : G.ld U = none) (hc : G.CL U c = some l) (cn : c < n) (hm : Maj n s) (hs : ∀ v, v < n → s v = true → G.vt v U = some c) (hx : x.t = U) (hok : x.Ok) (hd : x.d = [] ∨ x.d ∈ K.prop) : GI n (G.win U c (l ++ [x])) K := by
 have w := win_grow (c := c) (l := l ++ [x]) g hn
 obtain ⟨c1, c2, c3, c4⟩ := g.cl U c l hc
 have eL : (G.win U c (l ++ [x])).LL U = l ++ [x] := by show (if U = U then _ else _) = _; rw [if_pos rfl]
 have eL' : ∀ T, T ≠ U → (G.win U c (l ++ [x])).LL T = G.LL T := fun T h => by show (if T = U then _ else _) = _; rw [if_neg h]
 have eD : (G.win U c (l ++ [x])).ld U = some c := by show (if U = U then _ else _) = _; rw [if_pos rfl]
 have eD' : ∀ T, T ≠ U → (G.win U c (l ++ [x])).ld T = G.ld T := fun T h => by show (if T = U then _ else _) = _; rw [if_neg h]
 refine ⟨fun T c' h => ?_, fun T h => ?_, fun T => ?_, fun U' c' l' h => ⟨w.gd (g.cl U' c' l' h).1, (g.cl U' c' l' h).2⟩, fun U' c' l' h1 h2 => ?_, fun v' U' c' h => ?_, fun v T => Nat.le_trans (g.ak v T) (w.LL T).length_le, fun T => ?_, fun T y hy => ?_⟩
 ·by_cases hT : T = U
  ·subst hT
   rw [eD] at h
   injection h with h
   subst h
   exact ⟨cn, l, [x], hc, eL, by simp, fun y hy => by rw [List.mem_singleton.1 hy]; exact hx⟩
  ·rw [eD' T hT] at h
   rw [eL' T hT]
   exact g.led T c' h
 ·by_cases hT : T = U
  ·subst hT; rw [eD] at h; cases h
  ·rw [eD' T hT] at h; rw [eL' T hT]; exact g.no T h
 ·by_cases hT : T = U
  ·subst hT
   rw [eL]
   exact gd_snoc (w.gd c1) (by rw [hx, eL])
  ·rw [eL' T hT]; exact w.gd (g.good T)
 ·by_cases hT : U' = U
  ·subst hT
   rw [eD] at h1
   injection h1 with h1
   subst h1
   have h2' : G.CL U' c = some l' := h2
   rw [hc] at h2'
   injection h2' with h2'
   subst h2'
   refine ⟨s, hm, fun v hv hsv => ⟨hs v hv hsv, ?_⟩⟩
   obtain ⟨l0, a, b⟩ := g.vo v U' c (hs v hv hsv)
   rw [hc] at a
   injection a with a
   subst a
   rcases b with b | b
   ·exact absurd hn b
   ·exact w.vp g.ak (fun _ _ => rfl) b
  ·rw [eD' U' hT] at h1
   obtain ⟨s', hm', hs'⟩ := g.el U' c' l' h1 h2
   exact ⟨s', hm', fun v hv hsv => ⟨(hs' v hv hsv).1, w.vp g.ak (fun _ _ => rfl) (hs' v hv hsv).2⟩⟩
 ·obtain ⟨l0, a, b⟩ := g.vo v' U' c' h
  refine ⟨l0, a, b.imp (fun h => ?_) (w.vp g.ak fun _ _ => rfl)⟩
  by_cases hT : U' = U
  ·subst hT; rw [eD]; simp
  ·rw [eD' U' hT]; exact h
 ·by_cases hT : T = U
  ·subst hT
   rw [eL]
   have := gd_len g c1 (t := T - 1) (fun y hy => by have := c2 y hy; omega)
   simp; omega
  ·rw [eL' T hT]; exact g.len T
 ·by_cases hT : T = U
  ·subst hT
   rw [eL] at hy
   rcases List.mem_append.1 hy with hy | hy
   ·exact gd_ok g c1 hy
   ·rw [List.mem_singleton.1 hy]; exact ⟨hok, hd⟩
  ·rw [eL' T hT] at hy; exact g.ok T y hy
theorem add_grow {T : Nat} {x : LE} : Grow G (G.add T x) :=
 ⟨fun _ _ h => h, fun T' => by
  show G.LL T' <+: (if T' = T then G.LL T ++ [x] else G.LL T')
  split
  ·rename_i hx; subst hx; exact List.prefix_append _ _
  ·exact List.prefix_rfl, fun _ _ _ h => h, fun _ _ _ h => h, fun _ _ => Nat.le_refl _, fun _ => rfl⟩
theorem add_gi {T c : Nat} {x : LE} (g : GI n G K) (hc : G.ld T = some c) (hx : x.t = T) (hok : x.Ok) (hd : x.d = [] ∨ x.d ∈ K.prop) (hlen : (G.LL T).length + 1 ≤ K.prop.length + T) : GI n (G.add T x) K := by
 have w := add_grow (G := G) (T := T) (x := x)
 have eL : (G.add T x).LL T = G.LL T ++ [x] := by show (if T = T then _ else _) = _; rw [if_pos rfl]
 have eL' : ∀ T', T' ≠ T → (G.add T x).LL T' = G.LL T' := fun T' h => by show (if T' = T then _ else _) = _; rw [if_neg h]
 refine ⟨fun T' c' h => ?_, fun T' h => ?_, fun T' => ?_, fun U' c' l' h => ⟨w.gd (g.cl U' c' l' h).1, (g.cl U' c' l' h).2⟩, fun U' c' l' h1 h2 => ?_, fun v' U' c' h => ?_, fun v T => Nat.le_trans (g.ak v T) (w.LL T).length_le, fun T' => ?_, fun T' y hy => ?_⟩
 ·obtain ⟨a, l, es, b1, b2, b3, b4⟩ := g.led T' c' h
  by_cases hT : T' = T
  ·subst hT
   refine ⟨a, l, es ++ [x], b1, by rw [eL, b2, List.append_assoc], by simp, fun y hy => ?_⟩
   rcases List.mem_append.1 hy with hy | hy
   ·exact b4 y hy
   ·rw [List.mem_singleton.1 hy]; exact hx
  ·rw [eL' T' hT]; exact ⟨a, l, es, b1, b2, b3, b4⟩
 ·by_cases hT : T' = T
  ·subst hT
   have h' : G.ld T' = none := h
   rw [hc] at h'; cases h'
  ·rw [eL' T' hT]; exact g.no T' h
 ·by_cases hT : T' = T
  ·subst hT
   rw [eL]
   exact gd_snoc (w.gd (g.good T')) (by rw [hx, eL])
  ·rw [eL' T' hT]; exact w.gd (g.good T')
 ·obtain ⟨s', hm', hs'⟩ := g.el U' c' l' h1 h2
  exact ⟨s', hm', fun v hv hsv => ⟨(hs' v hv hsv).1, w.vp g.ak (fun _ _ => rfl) (hs' v hv hsv).2⟩⟩
 ·obtain ⟨l0, a, b⟩ := g.vo v' U' c' h
  exact ⟨l0, a, b.imp id (w.vp g.ak fun _ _ => rfl)⟩
 ·by_cases hT : T' = T
  ·subst hT; rw [eL]; simp; omega
  ·rw [eL' T' hT]; exact g.len T'
 ·by_cases hT : T' = T
  ·subst hT
   rw [eL] at hy
   rcases List.mem_append.1 hy with hy | hy
   ·exact g.ok T' y hy
   ·rw [List.mem_singleton.1 hy]; exact ⟨hok, hd⟩
  ·rw [eL' T' hT] at hy; exact g.ok T' y hy
theorem ack_grow {v T k : Nat} : Grow G (G.ack v T k) :=
 ⟨fun _ _ h => h, fun _ => List.prefix_rfl, fun _ _ _ h => h, fun _ _ _ h => h, fun x T' => by
  show G.ak x T' ≤ (if x = v ∧ T' = T then max (G.ak v T) k else G.ak x T')
  split
  ·rename_i hx; obtain ⟨rfl, rfl⟩ := hx; exact Nat.le_max_left _ _
  ·exact Nat.le_refl _, fun _ => rfl⟩
theorem ack_gi {v T k : Nat} (g : GI n G K) (hk : k ≤ (G.LL T).length) (hU : ∀ U c, G.vt v U = some c → U ≤ T) : GI n (G.ack v T k) K := by
 have w := ack_grow (G := G) (v := v) (T := T) (k := k)
 have same : ∀ x T', ¬ (x = v ∧ T' = T) → (G.ack v T k).ak x T' = G.ak x T' := fun x T' h => if_neg h
 refine ⟨g.led, g.no, g.good, g.cl, fun U' c' l' h1 h2 => ?_, fun v' U' c' h => ?_, fun x T' => ?_, g.len, g.ok⟩
 ·obtain ⟨s, hm, hs⟩ := g.el U' c' l' h1 h2
  refine ⟨s, hm, fun x hx hsx => ⟨(hs x hx hsx).1, w.vp g.ak (fun T' hT' => same x T' ?_) (hs x hx hsx).2⟩⟩
  rintro ⟨rfl, rfl⟩
  have := hU U' c' (hs x hx hsx).1
  omega
 ·obtain ⟨l0, a, b⟩ := g.vo v' U' c' h
  refine ⟨l0, a, b.imp id (w.vp g.ak fun T' hT' => same v' T' ?_)⟩
  rintro ⟨rfl, rfl⟩
  have := hU U' c' h
  omega
 ·show (if x = v ∧ T' = T then max (G.ak v T) k else G.ak x T') ≤ (G.LL T').length
  split
  ·rename_i hx
   obtain ⟨rfl, rfl⟩ := hx
   have := g.ak x T'
   omega
  ·exact g.ak x T'
structure DI (G : GH) (v t : Nat) (vote : Int) (log : List LE) : Prop where
 v1 : ∀ U c, G.vt v U = some c → U ≤ t ∧ (U = t → vote = (c : Int))
 good : Gd G log
 le : ∀ x ∈ log, x.t ≤ t
 ac : ∀ T k, 1 ≤ k → k ≤ G.ak v T → T ≤ t ∧ ((G.LL T).take k <+: log ∨ Skip G ((G.LL T).take k) T (t + 1))
 cl : ∀ U l, G.CL U v = some l → U ≤ t
 lo : G.lt v ≤ t
theorem vp_grant {v t c : Nat} {vote : Int} {log l : List LE} (g : GI n G K) (d : DI G v t vote log) (hc : G.CL t c = some l) (hf : lastT log log.length < lastT l l.length ∨ lastT log log.length = lastT l l.length ∧ log.length ≤ l.length) : G.ld t ≠ none ∨ VP G v t l := by
 by_cases hl : G.ld t = none
 ·right
  intro T k hT h1 hk hlast
  have hkl := Nat.le_trans hk (g.ak v T)
  obtain ⟨_, hp | ⟨W, c', l', w1, w2, w3, w4, w5⟩⟩ := d.ac T k h1 hk
  ·have eP := pre_take hp
   have hplen := hp.length_le
   rw [List.length_take, Nat.min_eq_left hkl] at eP hplen
   have hlg : lastT log k = T := by rw [← hlast]; exact lastT_take eP (Nat.le_refl _)
   have hb : T ≤ lastT log log.length := by
    obtain ⟨x, hx⟩ : ∃ x, log[k - 1]? = some x := ⟨_, List.getElem?_eq_getElem (by omega)⟩
    obtain ⟨y, hy⟩ : ∃ y, log[log.length - 1]? = some y := ⟨_, List.getElem?_eq_getElem (by omega)⟩
    have e1 := lastT_get hx
    have e2 := lastT_get hy
    rw [show k - 1 + 1 = k by omega] at e1
    rw [show log.length - 1 + 1 = log.length by omega] at e2
    have := gd_mono g d.good hx hy (by omega)
    omega
   have hl0 : l ≠ [] := by
    rintro rfl
    have h0 : lastT ([] : List LE) ([] : List LE).length = 0 := rfl
    rw [h0] at hf
    have h00 : ([] : List LE).length = 0 := rfl
    omega
   obtain ⟨c1, c2, _⟩ := g.cl t c l hc
   obtain ⟨q1, q2⟩ := gd_whole c1 hl0
   have hp0 : 0 < l.length := List.length_pos_iff.2 hl0
   obtain ⟨z, hz⟩ : ∃ z, l[l.length - 1]? = some z := ⟨_, List.getElem?_eq_getElem (by omega)⟩
   have ez := lastT_get hz
   rw [show l.length - 1 + 1 = l.length by omega] at ez
   have hat : lastT l l.length < t := by rw [ez]; exact c2 z (List.mem_of_getElem? hz)
   generalize hA : lastT l l.length = A at *
   by_cases hAT : A = T
   ·subst hAT
    left
    rw [q1]
    exact pre_mono (by omega)
   ·obtain ⟨c', hc'⟩ := sure_led g (k := l.length) (by omega) q2
    obtain ⟨_, l', es, e1, e2, _⟩ := g.led A c' hc'
    by_cases hpp : (G.LL T).take k <+: l'
    ·left
     obtain ⟨_, c2', _⟩ := g.cl A c' l' e1
     have hlen : l'.length ≤ l.length := by
      rcases Nat.le_total l'.length l.length with h | h
      ·exact h
      ·exfalso
       have : z ∈ l' := by
        have : l <+: l' := by
         rw [q1, e2, List.take_append_of_le_length h]
         exact List.take_prefix _ _
        obtain ⟨r, rfl⟩ := this
        exact List.mem_append_left _ (List.mem_of_getElem? hz)
       have := c2' z this
       omega
     refine hpp.trans ?_
     rw [q1, e2]
     have h2 := pre_mono (l := l' ++ es) hlen
     rwa [List.take_left] at h2
    ·right
     exact ⟨A, c', l', by omega, hat, hc', e1, hpp⟩
  ·right
   refine ⟨W, c', l', w1, ?_, w3, w4, w5⟩
   have : W ≠ t := by rintro rfl; rw [hl] at w3; cases w3
   omega
 ·exact .inl hl
theorem vp_own {v t : Nat} {vote : Int} {log : List LE} (d : DI G v t vote log) : VP G v (t + 1) log := fun T k _ h1 hk _ => (d.ac T k h1 hk).2
theorem DI.grow {v t : Nat} {vote : Int} {log : List LE} (d : DI G v t vote log) (w : Grow G G') (a : ∀ v T, G.ak v T ≤ (G.LL T).length) (hv : ∀ U, G'.vt v U = G.vt v U) (hk : ∀ T, G'.ak v T = G.ak v T) (hc : ∀ U, G'.CL U v = G.CL U v) : DI G' v t vote log :=
 ⟨fun U c h => d.v1 U c (by rw [← hv]; exact h), w.gd d.good, d.le, fun T k h1 hle => by
  rw [hk T] at hle
  have hkl := Nat.le_trans hle (a v T)
  rw [w.take hkl]
  obtain ⟨p, q⟩ := d.ac T k h1 hle
  exact ⟨p, q.imp id w.skip⟩, fun U l h => d.cl U l (by rw [← hc]; exact h), by rw [w.lt]; exact d.lo⟩
end Go.VM
namespace Go.VM
open Go Go.RowKit Go.Proofs
structure DU where
 t : Nat
 v : Int
 l : List LE
def DU.play (d : DU) : RC → DU
 | .H t v => { d with t := t, v := v }
 | .E i x => { d with l := d.l.take (i - 1) ++ [x] }
def dur (cs : List RC) : DU := cs.foldl DU.play ⟨0, -1, []⟩
theorem dur_app (cs rs : List RC) : dur (cs ++ rs) = rs.foldl DU.play (dur cs) := by unfold dur; rw [List.foldl_append]
theorem plays_dur : ∀ (cs : List RC) (X : RN) (d : DU), X.term = d.t → X.vote = d.v → X.log = d.l → (X.plays cs).term = (cs.foldl DU.play d).t ∧ (X.plays cs).vote = (cs.foldl DU.play d).v ∧ (X.plays cs).log = (cs.foldl DU.play d).l
 | [], X, d, h1, h2, h3 => ⟨h1, h2, h3⟩
 | .H t v :: cs, X, d, h1, h2, h3 => plays_dur cs _ (d.play (.H t v)) rfl rfl h3
 | .E i x :: cs, X, d, h1, h2, h3 => plays_dur cs _ (d.play (.E i x)) h1 h2 (by show X.log.take (i - 1) ++ [x] = d.l.take (i - 1) ++ [x]; rw [h3])
theorem plays_rest (cs : List RC) : ∀ X : RN, (X.plays cs).commit = X.commit ∧ (X.plays cs).role = X.role ∧ (X.plays cs).me = X.me ∧ (X.plays cs).n = X.n ∧ (X.plays cs).out = X.out ∧ (X.plays cs).bad = X.bad ∧ (X.plays cs).idle = X.idle ∧ (X.plays cs).R = X.R ∧ (X.plays cs).D = X.D ∧ (X.plays cs).limit = X.limit := by
 induction cs with
 | nil => intro X; exact ⟨rfl, rfl, rfl, rfl, rfl, rfl, rfl, rfl, rfl, rfl⟩
 | cons c cs ih =>
  intro X
  have := ih (X.play c)
  cases c <;> exact this
def RC.isE : RC → Bool
 | .E _ _ => true
 | .H _ _ => false
def erec (cs : List RC) : Nat := (cs.filter RC.isE).length
def hrec (cs : List RC) : Nat := (cs.filter fun c => !c.isE).length
theorem rec_len' (cs : List RC) : erec cs + hrec cs = cs.length := by
 unfold erec hrec
 induction cs with
 | nil => rfl
 | cons c cs ih =>
  rw [List.filter_cons, List.filter_cons]
  cases hc : c.isE <;> simp <;> omega
theorem erec_app (cs rs : List RC) : erec (cs ++ rs) = erec cs + erec rs := by unfold erec; rw [List.filter_append, List.length_append]
theorem hrec_app (cs rs : List RC) : hrec (cs ++ rs) = hrec cs + hrec rs := by unfold hrec; rw [List.filter_append, List.length_append]
theorem fits_app {n : Nat} : ∀ (cs rs : List RC) (d : DU), Fits n d.l.length cs → Fits n (cs.foldl DU.play d).l.length rs → Fits n d.l.length (cs ++ rs)
 | [], rs, d, _, h => h
 | .H t v :: cs, rs, d, h, h' => ⟨h.1, fits_app cs rs (d.play (.H t v)) h.2 h'⟩
 | .E i x :: cs, rs, d, h, h' => by
  refine ⟨h.1, ?_⟩
  have hl : (d.play (.E i x)).l.length = i := by
   obtain ⟨⟨a, b, _⟩, _⟩ := h
   show (d.l.take (i - 1) ++ [x]).length = i
   simp; omega
  have := fits_app cs rs (d.play (.E i x)) (by rw [hl]; exact h.2) h'
  rwa [hl] at this
structure MI (G : GH) (n f to : Nat) (m : Ms) : Prop where
 m1 : m.kind = 1 → ∃ l, G.CL m.term f = some l ∧ m.index = l.length ∧ m.at_ = lastT l l.length
 m2 : m.kind = 2 → m.ok = true → G.vt f m.term = some to
 m3 : m.kind = 3 → G.ld m.term = some f ∧ m.index + m.ents.length ≤ (G.LL m.term).length ∧ m.ents = ((G.LL m.term).drop m.index).take m.ents.length ∧ m.at_ = lastT (G.LL m.term) m.index ∧ m.commit ≤ (G.LL m.term).length ∧ SureB G n m.term ((G.LL m.term).take m.commit)
 m4 : m.kind = 4 → m.ok = true → m.index ≤ G.ak f m.term
structure PM (G : GH) (n : Nat) (K : KN) (p : Pk) (m : Ms) : Prop where
 d : p.d = msB m
 ok : m.Ok
 k : 1 ≤ m.kind ∧ m.kind ≤ 4
 t : m.term ≤ K.e
 i : m.index ≤ 1000
 a : m.at_ ≤ 1000
 c : m.commit ≤ 1000
 e : m.ents.length ≤ 16
 f : p.f < n
 to : p.to < n
 ne : p.to ≠ p.f
 mi : MI G n p.f p.to m
def PI (G : GH) (n : Nat) (K : KN) (p : Pk) : Prop := ∃ m, PM G n K p m
def tot (K : KN) : Nat := 17 * K.h + K.prop.length + 2 * K.e
structure KOk (K : KN) : Prop where
 k : 10 * K.e + K.prop.length + K.h ≤ 400
structure NI (n : Nat) (G : GH) (v : Nat) (K : KN) (X : RN) : Prop where
 me : X.me = v
 nn : X.n = n
 di : DI G v X.term X.vote X.log
 te : X.term ≤ K.e
 bad : X.bad = false
 role : X.role ≤ 2
 cand : X.role = 1 → G.CL X.term v = some X.log ∧ G.vt v X.term = some v ∧ G.ld X.term ≠ some v ∧ X.votes.length = n ∧ ∀ x, X.votes[x]? = some true → G.vt x X.term = some v
 lead : X.role = 2 → G.ld X.term = some v ∧ X.log = G.LL X.term ∧ X.log.length ≤ G.ak v X.term ∧ (X.next.length = n ∧ X.mat.length = n) ∧ (∀ x i, x ≠ v → X.mat[x]? = some i → i ≤ G.ak x X.term) ∧ (∀ i ∈ X.mat, i ≤ X.log.length) ∧ (∀ i ∈ X.next, 1 ≤ i ∧ i ≤ X.log.length + 1)
 cm : X.commit ≤ X.log.length
 sure : SureB G n X.term (X.log.take X.commit)
 out : ∀ p ∈ X.out, PI G n K p
structure SD (n : Nat) (G : GH) (v : Nat) (K : KN) (cs : List RC) : Prop where
 d : DI G v (dur cs).t (dur cs).v (dur cs).l
 f : Fits n 0 cs
 h : hrec cs + (if (dur cs).v < 0 then 1 else 0) ≤ 2 * (dur cs).t + 1
 e : ∃ c, c ≤ (dur cs).l.length ∧ (dur cs).l.take c = (G.LL (dur cs).t).take c ∧ erec cs ≤ (dur cs).t * (K.prop.length + K.e) + c
 b : ∀ c ∈ cs, c.b.length ≤ 204
 t : (dur cs).t ≤ K.e
 v0 : -1 ≤ (dur cs).v
structure UpD (D : DS) (R : List (List UInt8)) : Prop where
 v : WD D raftN (fileB R) (fileB R).length
 c : D.clean raftN
 off : D.off = false
 room : D.room = 1048576
 used : D.used = ((fileB R).length : Int)
structure DnD (D : DS) (R : List (List UInt8)) (s : Nat) : Prop where
 v : ∃ q, WD D raftN (fileB R) q ∧ (fileB (R.take s)).length ≤ q ∧ q ≤ (fileB R).length
 room : D.room = 1048576
structure Upn (n : Nat) (G : GH) (v : Nat) (K : KN) (X : RN) (cs : List RC) : Prop where
 ni : NI n G v K X
 r : X.R = cs.map RC.b
 du : X.term = (dur cs).t ∧ X.vote = (dur cs).v ∧ X.log = (dur cs).l
 sd : SD n G v K cs
 dk : UpD X.D X.R
structure Dnn (n : Nat) (G : GH) (v : Nat) (K : KN) (D : DS) (cs : List RC) (s : Nat) : Prop where
 le : s ≤ cs.length
 sd : ∀ j, s ≤ j → j ≤ cs.length → SD n G v K (cs.take j)
 dk : DnD D (cs.map RC.b) s
 tot : cs.length ≤ tot K
structure Ext (v : Nat) (G G' : GH) : Prop where
 w : Grow G G'
 ld : ∀ T c, G'.ld T = some c → G.ld T = some c ∨ c = v
 LL : ∀ T u, G.ld T = some u → u ≠ v → G'.LL T = G.LL T
 vt : ∀ x U, x ≠ v → G'.vt x U = G.vt x U
 ak : ∀ x T, x ≠ v → G'.ak x T = G.ak x T
 CL : ∀ U c, c ≠ v → G'.CL U c = G.CL U c
theorem Ext.refl (v : Nat) (G : GH) : Ext v G G := ⟨Grow.refl G, fun _ _ h => .inl h, fun _ _ _ _ => rfl, fun _ _ _ => rfl, fun _ _ _ => rfl, fun _ _ _ => rfl⟩
theorem Ext.trans {v : Nat} {G G1 G' : GH} (a : Ext v G G1) (b : Ext v G1 G') : Ext v G G' :=
 ⟨a.w.trans b.w, fun T c h => (b.ld T c h).elim (a.ld T c) .inr, fun T u h hu => (b.LL T u (a.w.ld T u h) hu).trans (a.LL T u h hu), fun x U h => (b.vt x U h).trans (a.vt x U h), fun x T h => (b.ak x T h).trans (a.ak x T h), fun U c h => (b.CL U c h).trans (a.CL U c h)⟩
variable {n : Nat} {G G' : GH} {K K' : KN}
theorem ext_vote {v U c : Nat} (ho : ∀ c', G.vt v U = some c' → c' = c) : Ext v G (G.vote v U c) :=
 ⟨vote_grow ho, fun _ _ h => .inl h, fun _ _ _ _ => rfl, fun x T h => by show (if x = v ∧ T = U then _ else _) = _; rw [if_neg (fun e => h e.1)], fun _ _ _ => rfl, fun _ _ _ => rfl⟩
theorem ext_stand {c U : Nat} {l : List LE} (hn : G.CL U c = none) (hv : G.vt c U = none) : Ext c G (G.stand c U l) :=
 ⟨stand_grow hn hv, fun _ _ h => .inl h, fun _ _ _ _ => rfl, fun x T h => by show (if x = c ∧ T = U then _ else _) = _; rw [if_neg (fun e => h e.1)], fun _ _ _ => rfl, fun T x h => by show (if T = U ∧ x = c then _ else _) = _; rw [if_neg (fun e => h e.2)]⟩
theorem ext_win {U c : Nat} {l : List LE} (g : GI n G K) (hn : G.ld U = none) : Ext c G (G.win U c l) :=
 ⟨win_grow g hn, fun T c' h => by
  have h' : (if T = U then some c else G.ld T) = some c' := h
  split at h'
  ·injection h' with h'; exact .inr h'.symm
  ·exact .inl h', fun T u h hu => (by
  show (if T = U then _ else _) = _
  rw [if_neg]
  rintro rfl
  rw [hn] at h
  cases h), fun _ _ _ => rfl, fun _ _ _ => rfl, fun _ _ _ => rfl⟩
theorem ext_add {T c : Nat} {x : LE} (hc : G.ld T = some c) : Ext c G (G.add T x) :=
 ⟨add_grow, fun _ _ h => .inl h, fun T' u h hu => (by
  show (if T' = T then _ else _) = _
  rw [if_neg]
  rintro rfl
  rw [hc] at h
  injection h with h
  exact hu h.symm), fun _ _ _ => rfl, fun _ _ _ => rfl, fun _ _ _ => rfl⟩
theorem ext_ack {v T k : Nat} : Ext v G (G.ack v T k) :=
 ⟨ack_grow, fun _ _ h => .inl h, fun _ _ _ _ => rfl, fun _ _ _ => rfl, fun x T' h => by show (if x = v ∧ T' = T then _ else _) = _; rw [if_neg (fun e => h e.1)], fun _ _ _ => rfl⟩
theorem MI.grow {f to : Nat} {m : Ms} (h : MI G n f to m) (w : Grow G G') (a : ∀ v T, G.ak v T ≤ (G.LL T).length) : MI G' n f to m := by
 refine ⟨fun e => ?_, fun e o => w.vt _ _ _ (h.m2 e o), fun e => ?_, fun e o => Nat.le_trans (h.m4 e o) (w.ak _ _)⟩
 ·obtain ⟨l, h1, h2⟩ := h.m1 e
  exact ⟨l, w.CL _ _ _ h1, h2⟩
 ·obtain ⟨h1, h2, h3, h4, h5, h6⟩ := h.m3 e
  have hle := (w.LL m.term).length_le
  refine ⟨w.ld _ _ h1, by omega, ?_, ?_, by omega, by rw [w.take h5]; exact w.sure a h6⟩
  ·obtain ⟨r, hr⟩ := w.LL m.term
   rw [← hr, List.drop_append_of_le_length (by omega), List.take_append_of_le_length (by rw [List.length_drop]; omega)]
   exact h3
  ·rw [h4]; exact (w.last (by omega)).symm
theorem PI.grow {p : Pk} (h : PI G n K p) (w : Grow G G') (a : ∀ v T, G.ak v T ≤ (G.LL T).length) : PI G' n K p := by
 obtain ⟨m, h⟩ := h
 exact ⟨m, h.d, h.ok, h.k, h.t, h.i, h.a, h.c, h.e, h.f, h.to, h.ne, h.mi.grow w a⟩
theorem PI.more {p : Pk} (h : PI G n K p) (he : K.e ≤ K'.e) : PI G n K' p := by
 obtain ⟨m, h⟩ := h
 exact ⟨m, h.d, h.ok, h.k, Nat.le_trans h.t he, h.i, h.a, h.c, h.e, h.f, h.to, h.ne, h.mi⟩
theorem DI.ext {u v t : Nat} {vote : Int} {log : List LE} (d : DI G v t vote log) (x : Ext u G G') (hu : v ≠ u) (a : ∀ v T, G.ak v T ≤ (G.LL T).length) : DI G' v t vote log :=
 d.grow x.w a (fun U => x.vt v U hu) (fun T => x.ak v T hu) fun U => x.CL U v hu
theorem NI.ext {u v : Nat} {X : RN} (h : NI n G v K X) (x : Ext u G G') (hu : v ≠ u) (g : GI n G K) : NI n G' v K X := by
 have a := g.ak
 refine ⟨h.me, h.nn, h.di.ext x hu a, h.te, h.bad, h.role, fun e => ?_, fun e => ?_, h.cm, x.w.sure a h.sure, fun p hp => (h.out p hp).grow x.w a⟩
 ·obtain ⟨h1, h2, h3, h4, h5⟩ := h.cand e
  refine ⟨x.w.CL _ _ _ h1, x.w.vt _ _ _ h2, fun hl => ?_, h4, fun y hy => x.w.vt _ _ _ (h5 y hy)⟩
  rcases x.ld _ _ hl with hl | hl
  ·exact h3 hl
  ·exact hu hl
 ·obtain ⟨h1, h2, h3, h4, h5, h6⟩ := h.lead e
  exact ⟨x.w.ld _ _ h1, by rw [x.LL _ _ h1 hu]; exact h2, Nat.le_trans h3 (x.w.ak _ _), h4, fun y i hy hi => Nat.le_trans (h5 y i hy hi) (x.w.ak _ _), h6⟩
theorem SD.ext {u v : Nat} {cs : List RC} (h : SD n G v K cs) (x : Ext u G G') (hu : v ≠ u) (g : GI n G K) : SD n G' v K cs := by
 refine ⟨h.d.ext x hu g.ak, h.f, h.h, ?_, h.b, h.t, h.v0⟩
 obtain ⟨c, h1, h2, h3⟩ := h.e
 exact ⟨c, h1, by rw [h2, x.w.take (take_len h2 h1)], h3⟩
theorem SD.more {v : Nat} {cs : List RC} (h : SD n G v K cs) (hp : K.prop.length ≤ K'.prop.length) (he : K.e ≤ K'.e) : SD n G v K' cs := by
 refine ⟨h.d, h.f, h.h, ?_, h.b, Nat.le_trans h.t he, h.v0⟩
 obtain ⟨c, h1, h2, h3⟩ := h.e
 refine ⟨c, h1, h2, Nat.le_trans h3 ?_⟩
 have := Nat.mul_le_mul_left (dur cs).t (show K.prop.length + K.e ≤ K'.prop.length + K'.e by omega)
 omega
theorem NI.more {v : Nat} {X : RN} (h : NI n G v K X) (he : K.e ≤ K'.e) : NI n G v K' X :=
 ⟨h.me, h.nn, h.di, Nat.le_trans h.te he, h.bad, h.role, h.cand, h.lead, h.cm, h.sure, fun p hp => (h.out p hp).more he⟩
theorem Upn.ext {u v : Nat} {X : RN} {cs : List RC} (h : Upn n G v K X cs) (x : Ext u G G') (hu : v ≠ u) (g : GI n G K) : Upn n G' v K X cs := ⟨h.ni.ext x hu g, h.r, h.du, h.sd.ext x hu g, h.dk⟩
theorem Upn.more {v : Nat} {X : RN} {cs : List RC} (h : Upn n G v K X cs) (hp : K.prop.length ≤ K'.prop.length) (he : K.e ≤ K'.e) : Upn n G v K' X cs := ⟨h.ni.more he, h.r, h.du, h.sd.more hp he, h.dk⟩
theorem Dnn.ext {u v s : Nat} {D : DS} {cs : List RC} (h : Dnn n G v K D cs s) (x : Ext u G G') (hu : v ≠ u) (g : GI n G K) : Dnn n G' v K D cs s := ⟨h.le, fun j a b => (h.sd j a b).ext x hu g, h.dk, h.tot⟩
theorem Dnn.more {v s : Nat} {D : DS} {cs : List RC} (h : Dnn n G v K D cs s) (hp : K.prop.length ≤ K'.prop.length) (he : K.e ≤ K'.e) (hh : K.h ≤ K'.h) : Dnn n G v K' D cs s :=
 ⟨h.le, fun j a b => (h.sd j a b).more hp he, h.dk, by have := h.tot; unfold Go.VM.tot at this ⊢; omega⟩
theorem few_recs {e p h c H E : Nat} (hk : 10 * e + p + h ≤ 400) (h1 : H ≤ 2 * e + 1) (h2 : E ≤ e * (p + e) + c) (hc : c ≤ p + e) (h3 : E + H ≤ 17 * h + p + 2 * e) : E + H ≤ 2400 := by
 have he : e ≤ 40 := by omega
 have key : ∀ k, k ≤ 40 → e = k → E + H ≤ 2400 := by
  intro k hk' he'
  subst he'
  rcases Nat.lt_or_ge e 8 with h8 | h8
  ·have : e * (p + e) ≤ 7 * (p + e) := Nat.mul_le_mul_right _ (by omega)
   omega
  ·match e, he, hk with
   | 8, _, _ => omega
   | 9, _, _ => omega
   | 10, _, _ => omega
   | 11, _, _ => omega
   | 12, _, _ => omega
   | 13, _, _ => omega
   | 14, _, _ => omega
   | 15, _, _ => omega
   | 16, _, _ => omega
   | 17, _, _ => omega
   | 18, _, _ => omega
   | 19, _, _ => omega
   | 20, _, _ => omega
   | 21, _, _ => omega
   | 22, _, _ => omega
   | 23, _, _ => omega
   | 24, _, _ => omega
   | 25, _, _ => omega
   | 26, _, _ => omega
   | 27, _, _ => omega
   | 28, _, _ => omega
   | 29, _, _ => omega
   | 30, _, _ => omega
   | 31, _, _ => omega
   | 32, _, _ => omega
   | 33, _, _ => omega
   | 34, _, _ => omega
   | 35, _, _ => omega
   | 36, _, _ => omega
   | 37, _, _ => omega
   | 38, _, _ => omega
   | 39, _, _ => omega
   | 40, _, _ => omega
   | k + 41, h, _ => omega
 exact key e he rfl
theorem fileB_le : ∀ {L : List (List UInt8)}, (∀ r ∈ L, r.length ≤ 204) → (fileB L).length ≤ 213 * L.length
 | [], _ => by simp [fileB]
 | r :: L, h => by
  have h1 := fileB_le (L := L) fun x hx => h x (List.mem_cons_of_mem _ hx)
  have h2 := frameB_le (r := r) (by have := h r (by simp); omega)
  have h3 := h r (by simp)
  unfold fileB at h1 ⊢
  rw [List.flatMap_cons, List.length_append, List.length_cons]
  omega
theorem SD.few {v : Nat} {cs : List RC} (h : SD n G v K cs) (g : GI n G K) (hK : KOk K) (ht : cs.length ≤ tot K) : cs.length ≤ 2400 := by
 obtain ⟨c, h1, h2, h3⟩ := h.e
 have hl := gd_len g h.d.good h.d.le
 have hh := h.h
 have hrl := rec_len' cs
 have hte := h.t
 have hm : (dur cs).t * (K.prop.length + K.e) ≤ K.e * (K.prop.length + K.e) := Nat.mul_le_mul_right _ hte
 unfold tot at ht
 have := few_recs (c := c) (H := hrec cs) (E := erec cs) hK.k (by split at hh <;> omega) (by omega) (by omega) (by omega)
 omega
theorem SD.fits {v : Nat} {cs : List RC} (h : SD n G v K cs) (g : GI n G K) (hK : KOk K) (ht : cs.length ≤ tot K) : (fileB (cs.map RC.b)).length ≤ 511200 := by
 have h1 := h.few g hK ht
 have h2 := fileB_le (L := cs.map RC.b) fun r hr => by
  obtain ⟨c, hc, rfl⟩ := List.mem_map.1 hr
  exact h.b c hc
 rw [List.length_map] at h2
 omega
end Go.VM
namespace Go.VM
open Go Go.RowKit Go.Proofs
theorem wd_good {D : DS} {s p : List UInt8} {q : Nat} (h : WD D s p q) (c : D.clean s) (hu : D.used = (p.length : Int)) (hr : D.room ≤ 67108864) (hq : q ≤ p.length) : D.Good := by
 have hs := h.con
 have hno := c
 refine ⟨h.nd, ?_, hr, fun x hx => ?_⟩
 ·rw [hu, sum_two (newN_ne s).symm h.nd h.only, c]
  unfold Go.VM.con at hs
  split at hs <;> rename_i hx <;> injection hs with h1 h2
  ·simp [h1]
  ·simp [← h1]
 ·have hf : findF x.name D.files = some x := by
   have key : ∀ l : List File, (l.map (·.name)).Nodup → x ∈ l → findF x.name l = some x := by
    intro l
    induction l with
    | nil => intro _ h; cases h
    | cons y r ih =>
     intro hn hm
     rw [List.map_cons, List.nodup_cons] at hn
     rcases List.mem_cons.1 hm with rfl | hm
     ·unfold findF; rw [if_pos rfl]
     ·have hne : ¬ y.name = x.name := fun e => hn.1 (by rw [e]; exact List.mem_map.2 ⟨x, hm, rfl⟩)
      unfold findF; rw [if_neg hne]
      exact ih hn.2 hm
   exact key _ h.nd hx
  rcases h.only x hx with e | e
  ·rw [e] at hf
   unfold Go.VM.con at hs
   rw [hf] at hs
   injection hs with h1 h2
   subst h1
   omega
  ·rw [e] at hf
   unfold DS.clean at hno
   rw [hno] at hf; cases hf
theorem UpD.good {D : DS} {R : List (List UInt8)} (h : UpD D R) : D.Good := wd_good h.v h.c h.used (by rw [h.room]; decide) (Nat.le_refl _)
theorem sync_used {D : DS} {s : List UInt8} : (D.sync s).2.used = D.used := by
 unfold DS.sync DS.change
 split
 ·rfl
 ·split
  ·rfl
  ·split
   ·rfl
   ·split <;> rfl
theorem fileB_app (A B : List (List UInt8)) : fileB (A ++ B) = fileB A ++ fileB B := by unfold fileB; rw [List.flatMap_append]
theorem fileB_one (r : List UInt8) : fileB [r] = frameB r := by unfold fileB; simp
theorem raftN_ok : nameOk raftN = true ∧ nameOk (newN raftN) = true := by decide
theorem keepL_law : ∀ (l : List (List UInt8)) (D : DS) (R : List (List UInt8)) (q : Nat), WD D raftN (fileB R) q → D.clean raftN → D.off = false → D.room = 1048576 → D.used = ((fileB R).length : Int) → q ≤ (fileB R).length → R ++ l ≠ [] → (fileB (R ++ l)).length ≤ 1048576 →
  (∃ D', keepL l D R = (0, D', R ++ l) ∧ UpD D' (R ++ l)) ∨ (∃ D' R' j, j ≤ l.length ∧ keepL l D R = (10, D', R') ∧ D'.off = true ∧ WD D' raftN (fileB (R ++ l.take j)) q ∧ D'.room = 1048576)
 | [], D, R, q, hv, hc, ho, hr, hu, hq, h0, hl => by
  obtain ⟨n1, n2⟩ := raftN_ok
  have h0' : R ≠ [] := by simpa using h0
  have es : D.syncL raftN R = ((D.sync raftN).1, (D.sync raftN).2) := by
   unfold DS.syncL
   rw [if_neg (fun h => h0' h.2)]
  rw [List.append_nil] at hl ⊢
  have ek : keepL [] D R = ((D.sync raftN).1, (D.sync raftN).2, R) := by
   show ((D.syncL raftN R).1, (D.syncL raftN R).2, R) = _
   rw [es]
  rcases sync_eff hv n1 ho with ⟨_, _, h3, _⟩ | ⟨_, h1, h2, _, h4, h5⟩ | ⟨_, h1, h2, h3, h4, _, h6⟩
  ·exact absurd (fileB_nil h3) h0'
  ·right
   refine ⟨_, R, 0, Nat.le_refl _, by rw [ek, h1], h4, ?_, h5.trans hr⟩
   rw [List.take_nil, List.append_nil]; exact h2
  ·left
   exact ⟨_, by rw [ek, h1], h2, h3 hc, h4, h6.trans hr, sync_used.trans hu⟩
 | p :: l, D, R, q, hv, hc, ho, hr, hu, hq, h0, hl => by
  obtain ⟨n1, n2⟩ := raftN_ok
  have g : D.Good := wd_good hv hc hu (by rw [hr]; decide) hq
  have hl' := hl
  rw [show R ++ p :: l = (R ++ [p]) ++ l by simp, fileB_app, fileB_app, fileB_one, List.length_append, List.length_append] at hl'
  have hrm : ((fileB R).length : Int) + (frameB p).length ≤ D.room := by rw [hr]; omega
  obtain ⟨e1, e2, e3, e4, e5, e6⟩ := grow_eff (f := frameB p) hv g hc n1 ho hrm
  have eu : (D.grow raftN (frameB p) false).2.used = ((fileB (R ++ [p])).length : Int) := by
   rw [grow_done n1 ho (by simp) (by omega), fileB_app, fileB_one, List.length_append]
   show D.used + _ = _
   omega
  have e2' : WD (D.grow raftN (frameB p) false).2 raftN (fileB (R ++ [p])) q := by rw [fileB_app, fileB_one]; exact e2
  have ek : keepL (p :: l) D R = if (D.grow raftN (frameB p) false).1 ≠ 0 then ((D.grow raftN (frameB p) false).1, (D.grow raftN (frameB p) false).2, R) else keepL l (D.grow raftN (frameB p) false).2 (R ++ [p]) := rfl
  cases hb : D.begun.off
  ·rw [hb] at e1 e4
   rw [if_neg (by simp)] at e1
   rw [ek, if_neg (by rw [e1]; simp)]
   have ih := keepL_law l _ (R ++ [p]) q e2' e3 e4 (e6.trans hr) eu (by rw [fileB_app, List.length_append]; omega) (by simp) (by rw [List.append_assoc]; exact hl)
   rw [List.append_assoc] at ih
   rcases ih with ih | ⟨D', R', j, h1, h2, h3, h4, h5⟩
   ·exact .inl ih
   ·right
    refine ⟨D', R', j + 1, by simp; exact h1, h2, h3, ?_, h5⟩
    rw [List.take_succ_cons]
    rw [show R ++ p :: List.take j l = R ++ [p] ++ l.take j by simp]
    exact h4
  ·rw [hb] at e1 e4
   rw [if_pos rfl] at e1
   right
   refine ⟨_, R, 1, by simp, by rw [ek, if_pos (by rw [e1]; decide), e1], e4, ?_, e6.trans hr⟩
   exact e2'
theorem keep_cases {X : RN} {cs rs : List RC} (hR : X.R = cs.map RC.b) (hD : UpD X.D X.R) (h0 : rs ≠ []) (hl : (fileB ((cs ++ rs).map RC.b)).length ≤ 1048576) :
  (∃ D', X.keep (rs.map RC.b) = (0, X.dr D' ((cs ++ rs).map RC.b)) ∧ UpD D' ((cs ++ rs).map RC.b)) ∨
  (∃ D' R' j, j ≤ rs.length ∧ X.keep (rs.map RC.b) = (10, (X.dr D' R').failed) ∧ D'.off = true ∧ DnD D' ((cs ++ rs.take j).map RC.b) cs.length) := by
 rw [List.map_append] at hl ⊢
 rw [hR] at hD
 have := keepL_law (rs.map RC.b) X.D (cs.map RC.b) _ hD.v hD.c hD.off hD.room hD.used (Nat.le_refl _) (by simp [h0]) hl
 rw [← hR] at this
 rw [← hR]
 rcases this with ⟨D', h1, h2⟩ | ⟨D', R', j, h1, h2, h3, h4, h5⟩
 ·left
  refine ⟨D', ?_, h2⟩
  unfold RN.keep
  simp only [h1, if_true]
 ·right
  refine ⟨D', R', j, by rwa [List.length_map] at h1, ?_, h3, ⟨(fileB X.R).length, ?_, ?_, ?_⟩, h5⟩
  ·unfold RN.keep
   simp only [h2]
   rw [if_neg (by decide)]
  ·rw [hR] at h4
   rw [List.map_append, List.map_take, hR]; exact h4
  ·have : (List.map RC.b (cs ++ rs.take j)).take cs.length = cs.map RC.b := by
    rw [List.map_append, List.take_append_of_le_length (by simp), List.take_of_length_le (by simp)]
   rw [this, hR]
   exact Nat.le_refl _
  ·rw [List.map_append, fileB_app, List.length_append, hR]; omega
variable {n : Nat} {G G' : GH} {K K' : KN}
def Out (n : Nat) (G : GH) (v : Nat) (K : KN) (b : Nat) (r : Int × RN) : Prop :=
 ∃ G', Ext v G G' ∧ GI n G' K ∧ ((r.1 = 0 ∧ ∃ cs, Upn n G' v K r.2 cs ∧ cs.length + b ≤ tot K) ∨ (r.1 = 10 ∧ r.2.D.off = true ∧ ∃ cs s, Dnn n G' v K r.2.D cs s))
theorem Out.ok {v b : Nat} {X : RN} {cs : List RC} (x : Ext v G G') (g : GI n G' K) (h : Upn n G' v K X cs) (hb : cs.length + b ≤ tot K) : Out n G v K b (0, X) := ⟨G', x, g, .inl ⟨rfl, cs, h, hb⟩⟩
theorem Out.of {v b : Nat} {G1 : GH} {r : Int × RN} (x : Ext v G G1) (h : Out n G1 v K b r) : Out n G v K b r := by
 obtain ⟨G', x', g, h⟩ := h
 exact ⟨G', x.trans x', g, h⟩
theorem Out.crash {v b j : Nat} {Y : RN} {D' : DS} {cs rs : List RC} (x : Ext v G G') (g : GI n G' K) (hs : ∀ i, i ≤ rs.length → SD n G' v K (cs ++ rs.take i)) (hj : j ≤ rs.length) (hb : cs.length + rs.length ≤ tot K) (hD : Y.D = D') (ho : D'.off = true) (hd : DnD D' ((cs ++ rs.take j).map RC.b) cs.length) : Out n G v K b (10, Y) := by
 refine ⟨G', x, g, .inr ⟨rfl, by show Y.D.off = true; rw [hD]; exact ho, cs ++ rs.take j, cs.length, ⟨by simp, fun i h1 h2 => ?_, by show DnD Y.D _ _; rw [hD]; exact hd, by simp; omega⟩⟩⟩
 have e : (cs ++ rs.take j).take i = cs ++ rs.take (i - cs.length) := by
  rw [List.take_append, List.take_of_length_le h1, List.take_take]
  rw [List.length_append, List.length_take] at h2
  rw [Nat.min_eq_left (by omega)]
 rw [e]
 rw [List.length_append, List.length_take] at h2
 exact hs _ (by omega)
theorem Out.bind {v b b' : Nat} {r : Int × RN} {f : RN → Int × RN} (h : Out n G v K b r) (hf : ∀ G' cs, r.1 = 0 → Ext v G G' → GI n G' K → Upn n G' v K r.2 cs → cs.length + b ≤ tot K → Out n G' v K b' (f r.2)) : Out n G v K b' (if r.1 ≠ 0 then r else f r.2) := by
 obtain ⟨G', x, g, h⟩ := h
 rcases h with ⟨h0, cs, hu, hb⟩ | ⟨h0, h⟩
 ·rw [if_neg (by rw [h0]; simp)]
  exact (hf G' cs h0 x g hu hb).of x
 ·rw [if_pos (by rw [h0]; decide)]
  exact ⟨G', x, g, .inr ⟨h0, h⟩⟩
end Go.VM
namespace Go.VM
open Go Go.RowKit Go.Proofs
variable {n : Nat} {G G' : GH} {K K' : KN}
theorem hard_len {t : Nat} {v : Int} (ht : t ≤ 1000) (hv : v < 1000) : (RC.H t v).b.length ≤ 204 := by
 have h1 := uvar_len3 (x := t) (by omega)
 have h2 := uvar_len3 (x := (v + 1).toNat) (by omega)
 unfold RC.b
 simp only [List.length_cons, List.length_append]
 omega
theorem ent_len {i : Nat} {x : LE} (hi : i ≤ 1000) (ht : x.t ≤ 100) (hx : x.Ok) : (RC.E i x).b.length ≤ 204 := by
 have h1 := uvar_len i 2 (by omega) (by decide)
 have h2 := uvar_len x.t 1 (by omega) (by decide)
 have h3 := hx.d
 unfold RC.b recE
 simp only [List.length_cons, List.length_append]
 omega
theorem agree {l m : List LE} {k b : Nat} (h : l.take k = m.take k) (hk : k ≤ l.length) (hc : b + 1 ≤ l.length → lastT l (b + 1) ≠ lastT m (b + 1)) : k ≤ b := by
 rcases Nat.lt_or_ge b k with h1 | h1
 ·exact absurd (lastT_take h (show b + 1 ≤ k by omega)) (hc (by omega))
 ·exact h1
theorem DI.merge {v t c0 b i : Nat} {vote : Int} {l : List LE} (d : DI G v t vote l) (g : GI n G K) (hl : G.ld t = some c0) (hcf : b + 1 ≤ l.length → lastT l (b + 1) ≠ lastT (G.LL t) (b + 1)) (hb : b ≤ i) : DI G v t vote ((G.LL t).take i) := by
 refine ⟨d.v1, gd_take (g.good t) i, fun x hx => g.le (List.mem_of_mem_take hx), fun T k h1 hk => ?_, d.cl, d.lo⟩
 have hkl := Nat.le_trans hk (g.ak v T)
 obtain ⟨hT, hp⟩ := d.ac T k h1 hk
 refine ⟨hT, ?_⟩
 rcases hp with hp | hp
 ·by_cases hpt : (G.LL T).take k <+: G.LL t
  ·left
   have e1 := pre_take hp
   have e2 := pre_take hpt
   have hle := hp.length_le
   rw [List.length_take, Nat.min_eq_left hkl] at e1 e2 hle
   have := agree (b := b) (e1.trans e2.symm) hle hcf
   rw [← e2]
   exact pre_mono (by omega)
  ·right
   have hTt : T ≠ t := by rintro rfl; exact hpt (List.take_prefix _ _)
   obtain ⟨_, l', es, e1, e2, _⟩ := g.led t c0 hl
   refine ⟨t, c0, l', by omega, by omega, hl, e1, fun h => hpt (h.trans ?_)⟩
   rw [e2]; exact List.prefix_append _ _
 ·exact .inr hp
theorem DI.ack {v t k : Nat} {vote : Int} {l : List LE} (d : DI G v t vote l) (hk : k ≤ (G.LL t).length) (hp : (G.LL t).take k <+: l) : DI (G.ack v t k) v t vote l := by
 refine ⟨d.v1, d.good, d.le, fun T k' h1 hk' => ?_, d.cl, d.lo⟩
 have hk2 : k' ≤ (if v = v ∧ T = t then max (G.ak v t) k else G.ak v T) := hk'
 by_cases hT : T = t
 ·subst hT
  rw [if_pos ⟨rfl, rfl⟩] at hk2
  by_cases hle : k' ≤ G.ak v T
  ·exact d.ac T k' h1 hle
  ·exact ⟨Nat.le_refl _, .inl ((pre_mono (show k' ≤ k by omega)).trans hp)⟩
 ·rw [if_neg (fun e => hT e.2)] at hk2
  exact d.ac T k' h1 hk2
theorem SD.hard {v t : Nat} {vo : Int} {cs : List RC} (h : SD n G v K cs) (g : GI n G K) (hK : KOk K) (d : DI G v t vo (dur cs).l) (ht : (dur cs).t ≤ t) (hte : t ≤ K.e) (v0 : -1 ≤ vo) (vn : vo < n) (hn : n ≤ 5) (hh : hrec cs + 1 + (if vo < 0 then 1 else 0) ≤ 2 * t + 1) : SD n G v K (cs ++ [.H t vo]) := by
 have hk := hK.k
 have e : dur (cs ++ [.H t vo]) = ⟨t, vo, (dur cs).l⟩ := dur_app cs [.H t vo]
 refine ⟨by rw [e]; exact d, ?_, ?_, ?_, ?_, by rw [e]; exact hte, by rw [e]; exact v0⟩
 ·exact fits_app cs [.H t vo] ⟨0, -1, []⟩ h.f ⟨⟨by omega, v0, vn⟩, trivial⟩
 ·rw [e, hrec_app]; exact hh
 ·rw [e]
  obtain ⟨c, h1, h2, h3⟩ := h.e
  have ee : erec (cs ++ [.H t vo]) = erec cs := by rw [erec_app]; rfl
  rw [ee]
  by_cases hT : (dur cs).t = t
  ·rw [hT] at h2 h3; exact ⟨c, h1, h2, h3⟩
  ·refine ⟨0, Nat.zero_le _, by simp, ?_⟩
   have hl := gd_len g h.d.good h.d.le
   have hte' := h.t
   have := Nat.mul_le_mul_right (K.prop.length + K.e) (show (dur cs).t + 1 ≤ t by omega)
   rw [Nat.succ_mul] at this
   show erec cs ≤ t * (K.prop.length + K.e) + 0
   omega
 ·intro c hc
  rcases List.mem_append.1 hc with hc | hc
  ·exact h.b c hc
  ·rw [List.mem_singleton.1 hc]; exact hard_len (by omega) (by omega)
theorem SD.ent {v i c0 : Nat} {x : LE} {cs : List RC} (h : SD n G v K cs) (g : GI n G K) (hK : KOk K) (hl : G.ld (dur cs).t = some c0) (hi : i ≤ (dur cs).l.length) (hx : (G.LL (dur cs).t)[i]? = some x) (hag : (dur cs).l.take i = (G.LL (dur cs).t).take i) (hcf : i + 1 ≤ (dur cs).l.length → lastT (dur cs).l (i + 1) ≠ lastT (G.LL (dur cs).t) (i + 1)) :
  SD n G v K (cs ++ [.E (i + 1) x]) ∧ dur (cs ++ [.E (i + 1) x]) = ⟨(dur cs).t, (dur cs).v, (G.LL (dur cs).t).take (i + 1)⟩ := by
 have hk := hK.k
 have e : dur (cs ++ [.E (i + 1) x]) = ⟨(dur cs).t, (dur cs).v, (G.LL (dur cs).t).take (i + 1)⟩ := by
  rw [dur_app]
  show DU.mk _ _ ((dur cs).l.take (i + 1 - 1) ++ [x]) = _
  rw [Nat.add_sub_cancel, hag, List.take_add_one, hx]
  rfl
 refine ⟨?_, e⟩
 have hil : i < (G.LL (dur cs).t).length := (List.getElem?_eq_some_iff.1 hx).1
 have hll := gd_len g h.d.good h.d.le
 have hte := h.t
 have hxm := List.mem_of_getElem? hx
 have hxt := g.le hxm
 have hxo := (g.ok _ _ hxm).1
 refine ⟨by rw [e]; exact h.d.merge g hl hcf (by omega), ?_, ?_, ?_, ?_, by rw [e]; exact h.t, by rw [e]; exact h.v0⟩
 ·exact fits_app cs [.E (i + 1) x] ⟨0, -1, []⟩ h.f ⟨⟨by omega, by show i + 1 ≤ (dur cs).l.length + 1; omega, hxo, by show (dur cs).l.length + 1 ≤ 1000000; omega⟩, trivial⟩
 ·rw [e, hrec_app]
  have hh := h.h
  show hrec cs + 0 + _ ≤ _
  exact hh
 ·rw [e]
  obtain ⟨c, h1, h2, h3⟩ := h.e
  have := agree h2 h1 hcf
  refine ⟨i + 1, by simp; omega, by show ((G.LL (dur cs).t).take (i + 1)).take (i + 1) = _; rw [List.take_take, Nat.min_self], ?_⟩
  rw [erec_app]
  show erec cs + 1 ≤ _
  show erec cs + 1 ≤ (dur cs).t * (K.prop.length + K.e) + (i + 1)
  omega
 ·intro c hc
  rcases List.mem_append.1 hc with hc | hc
  ·exact h.b c hc
  ·rw [List.mem_singleton.1 hc]; exact ent_len (by omega) (by omega) hxo
def recsE (b : Nat) : List LE → List RC
 | [] => []
 | x :: r => .E (b + 1) x :: recsE (b + 1) r
theorem recsE_len : ∀ (b : Nat) (xs : List LE), (recsE b xs).length = xs.length
 | _, [] => rfl
 | b, x :: r => by show (recsE (b + 1) r).length + 1 = _; rw [recsE_len]; rfl
theorem SD.ents {v c0 : Nat} : ∀ (xs : List LE) (b : Nat) (cs : List RC), SD n G v K cs → GI n G K → KOk K → G.ld (dur cs).t = some c0 → b ≤ (dur cs).l.length → xs = ((G.LL (dur cs).t).drop b).take xs.length → (dur cs).l.take b = (G.LL (dur cs).t).take b → (b + 1 ≤ (dur cs).l.length → lastT (dur cs).l (b + 1) ≠ lastT (G.LL (dur cs).t) (b + 1)) →
  ∀ j, j ≤ xs.length → SD n G v K (cs ++ (recsE b xs).take j) ∧ (j ≠ 0 → dur (cs ++ (recsE b xs).take j) = ⟨(dur cs).t, (dur cs).v, (G.LL (dur cs).t).take (b + j)⟩)
 | xs, b, cs, h, g, hK, hl, hb, hxs, hag, hcf, 0, hj => by
  rw [List.take_zero, List.append_nil]
  exact ⟨h, fun e => absurd rfl e⟩
 | [], b, cs, h, g, hK, hl, hb, hxs, hag, hcf, j + 1, hj => by simp at hj
 | x :: r, b, cs, h, g, hK, hl, hb, hxs, hag, hcf, j + 1, hj => by
  have hx : (G.LL (dur cs).t)[b]? = some x := by
   have := congrArg (fun l => l[0]?) hxs
   simp only [List.getElem?_cons_zero, List.length_cons] at this
   rw [List.getElem?_take_of_lt (by omega), List.getElem?_drop, Nat.add_zero] at this
   exact this.symm
  have hr : r = ((G.LL (dur cs).t).drop (b + 1)).take r.length := by
   have := congrArg List.tail hxs
   rw [List.length_cons] at this
   rw [List.tail_cons] at this
   have e : (G.LL (dur cs).t).drop b = x :: (G.LL (dur cs).t).drop (b + 1) := by
    have hlt := (List.getElem?_eq_some_iff.1 hx)
    obtain ⟨p, q⟩ := hlt
    rw [List.drop_eq_getElem_cons p, q]
   rw [e, List.take_succ_cons, List.tail_cons] at this
   exact this
  obtain ⟨s1, e1⟩ := h.ent g hK hl hb hx hag hcf
  have hbl : b < (G.LL (dur cs).t).length := (List.getElem?_eq_some_iff.1 hx).1
  have ecs : cs ++ (recsE b (x :: r)).take (j + 1) = (cs ++ [.E (b + 1) x]) ++ (recsE (b + 1) r).take j := by
   show cs ++ (RC.E (b + 1) x :: recsE (b + 1) r).take (j + 1) = _
   rw [List.take_succ_cons]; simp
  rw [ecs]
  have hlen : (dur (cs ++ [.E (b + 1) x])).l.length = b + 1 := by rw [e1]; simp; omega
  have et : (dur (cs ++ [.E (b + 1) x])).t = (dur cs).t := by rw [e1]
  have el : (dur (cs ++ [.E (b + 1) x])).l = (G.LL (dur cs).t).take (b + 1) := by rw [e1]
  have ih := SD.ents r (b + 1) (cs ++ [.E (b + 1) x]) s1 g hK (by rw [et]; exact hl) (by omega) (by rw [et]; exact hr) (by rw [et, el, List.take_take, Nat.min_self]) (fun h => by omega) j (by simp at hj; omega)
  refine ⟨ih.1, fun _ => ?_⟩
  by_cases hj0 : j = 0
  ·subst hj0
   rw [List.take_zero, List.append_nil, e1]
  ·rw [ih.2 hj0, e1, show b + 1 + j = b + (j + 1) by omega]
theorem SD.ack {v k : Nat} {cs : List RC} (h : SD n G v K cs) (hk : k ≤ (G.LL (dur cs).t).length) (hp : (G.LL (dur cs).t).take k <+: (dur cs).l) : SD n (G.ack v (dur cs).t k) v K cs := ⟨h.d.ack hk hp, h.f, h.h, h.e, h.b, h.t, h.v0⟩
theorem SD.grow {v : Nat} {cs : List RC} (h : SD n G v K cs) (w : Grow G G') (d : DI G' v (dur cs).t (dur cs).v (dur cs).l) : SD n G' v K cs := by
 refine ⟨d, h.f, h.h, ?_, h.b, h.t, h.v0⟩
 obtain ⟨c, h1, h2, h3⟩ := h.e
 exact ⟨c, h1, by rw [h2, w.take (take_len h2 h1)], h3⟩
theorem merge_end : ∀ (xs : List LE) (l : List LE) (b : Nat), b ≤ l.length → (b + 1 ≤ l.length → ∀ x r, xs = x :: r → lastT l (b + 1) ≠ x.t) → xs ≠ [] → (mergeL l b xs).1 = l.take b ++ xs ∧ (mergeL l b xs).2 = (recsE b xs).map RC.b
 | [], l, b, _, _, h0 => absurd rfl h0
 | x :: r, l, b, hb, hc, _ => by
  have hn : ¬ (b + 1 ≤ l.length ∧ lastT l (b + 1) = x.t) := fun h => hc h.1 x r rfl h.2
  unfold mergeL
  rw [if_neg hn]
  have hlen : (l.take b ++ [x]).length = b + 1 := by simp; omega
  by_cases hr : r = []
  ·subst hr
   exact ⟨rfl, rfl⟩
  ·obtain ⟨h1, h2⟩ := merge_end r (l.take b ++ [x]) (b + 1) (by omega) (fun h => by omega) hr
   rw [h1, h2]
   refine ⟨?_, rfl⟩
   rw [List.take_of_length_le (by omega)]
   simp
theorem merge_law : ∀ (xs : List LE) (l LT : List LE) (b : Nat), Gd G l → Gd G LT → b ≤ l.length → l.take b = LT.take b → xs = (LT.drop b).take xs.length → b + xs.length ≤ LT.length →
  ((mergeL l b xs) = (l, []) ∧ l.take (b + xs.length) = LT.take (b + xs.length) ∧ b + xs.length ≤ l.length) ∨
  (∃ b' ys, ys ≠ [] ∧ b ≤ b' ∧ b' + ys.length = b + xs.length ∧ b' ≤ l.length ∧ l.take b' = LT.take b' ∧ (b' + 1 ≤ l.length → lastT l (b' + 1) ≠ lastT LT (b' + 1)) ∧ ys = (LT.drop b').take ys.length ∧ mergeL l b xs = (LT.take (b + xs.length), (recsE b' ys).map RC.b))
 | [], l, LT, b, _, _, hb, hag, _, _ => .inl ⟨rfl, hag, hb⟩
 | x :: r, l, LT, b, hl, hL, hb, hag, hxs, hlen => by
  rw [List.length_cons] at hlen
  have hx : LT[b]? = some x := by
   have := congrArg (fun l => l[0]?) hxs
   simp only [List.getElem?_cons_zero, List.length_cons] at this
   rw [List.getElem?_take_of_lt (by omega), List.getElem?_drop, Nat.add_zero] at this
   exact this.symm
  have hr : r = (LT.drop (b + 1)).take r.length := by
   have := congrArg List.tail hxs
   rw [List.length_cons, List.tail_cons] at this
   have e : LT.drop b = x :: LT.drop (b + 1) := by
    obtain ⟨p, q⟩ := List.getElem?_eq_some_iff.1 hx
    rw [List.drop_eq_getElem_cons p, q]
   rw [e, List.take_succ_cons, List.tail_cons] at this
   exact this
  by_cases hc : b + 1 ≤ l.length ∧ lastT l (b + 1) = x.t
  ·have e : mergeL l b (x :: r) = mergeL l (b + 1) r := by
    show (if _ then _ else _) = _
    rw [if_pos hc]
   have hag' := gd_last hl hL hc.1 (by omega) (hc.2.trans (lastT_get hx).symm)
   rcases merge_law r l LT (b + 1) hl hL hc.1 hag' hr (by omega) with h | ⟨b', ys, h1, h2, h3, h4⟩
   ·left
    rw [e, List.length_cons, show b + (r.length + 1) = b + 1 + r.length by omega]
    exact h
   ·right
    refine ⟨b', ys, h1, by omega, by rw [List.length_cons]; omega, ?_⟩
    rw [e, List.length_cons, show b + (r.length + 1) = b + 1 + r.length by omega]
    exact h4
  ·right
   refine ⟨b, x :: r, by simp, Nat.le_refl _, rfl, hb, hag, fun h e => hc ⟨h, by rw [e, lastT_get hx]⟩, hxs, ?_⟩
   obtain ⟨h1, h2⟩ := merge_end (x :: r) l b hb (fun h y s e hy => by injection e with e1 e2; subst e1; exact hc ⟨h, hy⟩) (by simp)
   rw [← h2]
   have : LT.take (b + (x :: r).length) = l.take b ++ (x :: r) := by
    rw [hag, List.take_add, ← hxs]
   rw [this, ← h1]
end Go.VM
namespace Go.VM
open Go Go.RowKit Go.Proofs
variable {n : Nat} {G G' G1 : GH} {K K' : KN}
theorem Upn.llen {v : Nat} {X : RN} {cs : List RC} (h : Upn n G v K X cs) (g : GI n G K) (hK : KOk K) : X.log.length ≤ K.prop.length + X.term ∧ X.log.length ≤ 400 ∧ X.term ≤ 40 := by
 have h1 := gd_len g h.ni.di.good h.ni.di.le
 have h2 := h.ni.te
 have h3 := hK.k
 exact ⟨h1, by omega, by omega⟩
theorem Upn.sent {v to : Nat} {X : RN} {cs : List RC} {m : Ms} (h : Upn n G v K X cs) (hm : PM G n K ⟨v, to, msB { m with term := X.term }⟩ { m with term := X.term }) : Upn n G v K (X.sent to m) cs := by
 have i := h.ni
 refine ⟨⟨i.me, i.nn, i.di, i.te, i.bad, i.role, i.cand, i.lead, i.cm, i.sure, fun p hp => ?_⟩, h.r, h.du, h.sd, h.dk⟩
 rcases List.mem_append.1 hp with hp | hp
 ·exact i.out p hp
 ·rw [List.mem_singleton.1 hp, i.me]; exact ⟨_, hm⟩
theorem pm_small {v to : Nat} {kind term index at_ : Nat} {ok : Bool} (hK : KOk K) (hk : 1 ≤ kind ∧ kind ≤ 4) (ht : term ≤ K.e) (hi : index ≤ 1000) (ha : at_ ≤ 1000) (hv : v < n) (hto : to < n) (hne : to ≠ v) (mi : MI G n v to ⟨kind, ok, term, index, at_, 0, []⟩) : PM G n K ⟨v, to, msB ⟨kind, ok, term, index, at_, 0, []⟩⟩ ⟨kind, ok, term, index, at_, 0, []⟩ := by
 have := hK.k
 exact ⟨rfl, ⟨show kind < 256 by omega, show term < _ by omega, show index < _ by omega, show at_ < _ by omega, show 0 < 18446744073709551616 by decide, show 0 ≤ 1000000 by decide, fun x hx => by cases hx⟩, hk, ht, hi, ha, Nat.zero_le _, Nat.zero_le _, hv, hto, hne, mi⟩
theorem Upn.vote {v f : Nat} {X : RN} {cs : List RC} (h : Upn n G v K X cs) (hv : X.vote = (f : Int)) : Upn n (G.vote v X.term f) v K X cs ∧ ∀ c', G.vt v X.term = some c' → c' = f := by
 have i := h.ni
 have ho : ∀ c', G.vt v X.term = some c' → c' = f := fun c' hc => by
  have := (i.di.v1 X.term c' hc).2 rfl
  omega
 have w := vote_grow ho
 have d : DI (G.vote v X.term f) v X.term X.vote X.log := by
  refine ⟨fun U c hc => ?_, i.di.good, i.di.le, i.di.ac, i.di.cl, i.di.lo⟩
  have hc' : (if v = v ∧ U = X.term then some f else G.vt v U) = some c := hc
  by_cases hU : U = X.term
  ·rw [if_pos ⟨rfl, hU⟩] at hc'
   injection hc' with hc'
   subst hc'
   exact ⟨by omega, fun _ => hv⟩
  ·rw [if_neg (fun e => hU e.2)] at hc'
   exact i.di.v1 U c hc'
 obtain ⟨u1, u2, u3⟩ := h.du
 refine ⟨⟨⟨i.me, i.nn, d, i.te, i.bad, i.role, fun e => ?_, i.lead, i.cm, i.sure, fun p hp => ?_⟩, h.r, h.du, ?_, h.dk⟩, ho⟩
 ·obtain ⟨a, b, c, e1, e2⟩ := i.cand e
  exact ⟨a, w.vt _ _ _ b, c, e1, fun x hx => w.vt _ _ _ (e2 x hx)⟩
 ·obtain ⟨m, q⟩ := i.out p hp
  exact ⟨m, q.d, q.ok, q.k, q.t, q.i, q.a, q.c, q.e, q.f, q.to, q.ne, ⟨q.mi.m1, fun a b => w.vt _ _ _ (q.mi.m2 a b), q.mi.m3, q.mi.m4⟩⟩
 ·refine h.sd.grow w ?_
  rw [← u1, ← u2, ← u3]; exact d
theorem follow_facts {X : RN} {t : Nat} {hd : Int} (h : (X.follow t hd).1 = 0) (ht : X.term ≤ t) : (X.follow t hd).2.term = t ∧ (X.follow t hd).2.role = 0 ∧ (X.follow t hd).2.n = X.n ∧ (X.follow t hd).2.out = X.out ∧ (X.follow t hd).2.idle = X.idle := by
 unfold RN.follow at h ⊢
 by_cases hl : X.term < t
 ·rw [if_pos hl] at h ⊢
  rcases keep_fields ({ X with role := 0, head := hd, term := t, vote := -1 } : RN) [({ X with role := 0, head := hd, term := t, vote := -1 } : RN).hardB] with ⟨_, D, R, e⟩ | ⟨e, _⟩
  ·rw [e]; exact ⟨rfl, rfl, rfl, rfl, rfl⟩
  ·exact absurd h e
 ·rw [if_neg hl] at h ⊢
  exact ⟨by show X.term = t; omega, rfl, rfl, rfl, rfl⟩
theorem follow_out {v b t : Nat} {hd : Int} {X : RN} {cs : List RC} (h : Upn n G v K X cs) (g : GI n G K) (hK : KOk K) (hn0 : 1 ≤ n) (hn : n ≤ 5) (ht : X.term ≤ t) (hte : t ≤ K.e) (hb : cs.length + (b + 1) ≤ tot K) : Out n G v K b (X.follow t hd) := by
 have i := h.ni
 obtain ⟨u1, u2, u3⟩ := h.du
 unfold RN.follow
 by_cases hl : X.term < t
 ·rw [if_pos hl]
  have d' : DI G v t (-1) X.log := ⟨fun U c hc => by have := (i.di.v1 U c hc).1; exact ⟨by omega, fun e => by omega⟩, i.di.good, fun x hx => by have := i.di.le x hx; omega, fun T k a c => ⟨by have := (i.di.ac T k a c).1; omega, (i.di.ac T k a c).2.imp id fun s => s.le (by omega)⟩, fun U l e => (by have := i.di.cl U l e; omega), by have := i.di.lo; omega⟩
  have hh := h.sd.h
  have s1 : SD n G v K (cs ++ [.H t (-1)]) := h.sd.hard g hK (by rw [← u3]; exact d') (by omega) hte (by omega) (by omega) hn (by rw [if_pos (show (-1 : Int) < 0 by decide)]; split at hh <;> omega)
  have hall : ∀ i, i ≤ [RC.H t (-1)].length → SD n G v K (cs ++ [RC.H t (-1)].take i) := fun i hi => by
   match i, hi with
   | 0, _ => simpa using h.sd
   | 1, _ => exact s1
  have hfit := s1.fits g hK (by simp; omega)
  rcases keep_cases (X := ({ X with role := 0, head := hd, term := t, vote := -1 } : RN)) (rs := [.H t (-1)]) h.r h.dk (by simp) (by omega) with ⟨D', e1, e2⟩ | ⟨D', R', j, h1, e1, h3, h4⟩
  ·rw [show [({ X with role := 0, head := hd, term := t, vote := -1 } : RN).hardB] = List.map RC.b [.H t (-1)] from rfl, e1]
   refine Out.ok (cs := cs ++ [.H t (-1)]) (Ext.refl v G) g ⟨⟨i.me, i.nn, d', hte, i.bad, Nat.zero_le _, fun e => (by cases e), fun e => (by cases e), i.cm, i.sure.le (Nat.le_of_lt hl), i.out⟩, rfl, ?_, s1, e2⟩ (by simp; omega)
   rw [dur_app]
   exact ⟨rfl, rfl, u3⟩
  ·rw [show [({ X with role := 0, head := hd, term := t, vote := -1 } : RN).hardB] = List.map RC.b [.H t (-1)] from rfl, e1]
   exact Out.crash (Ext.refl v G) g hall h1 (by simp; omega) rfl h3 h4
 ·rw [if_neg hl]
  exact Out.ok (cs := cs) (Ext.refl v G) g ⟨⟨i.me, i.nn, i.di, i.te, i.bad, Nat.zero_le _, fun e => (by cases e), fun e => (by cases e), i.cm, i.sure, i.out⟩, h.r, h.du, h.sd, h.dk⟩ (by omega)
theorem voteAsk_out {v f b : Nat} {X : RN} {cs : List RC} {m : Ms} (h : Upn n G v K X cs) (g : GI n G K) (hK : KOk K) (hn : n ≤ 5) (hv : v < n) (hf : f < n) (hne : f ≠ v) (hk : m.kind = 1) (mi : MI G n f v m) (hb : cs.length + (b + 1) ≤ tot K) : Out n G v K b (X.voteAsk f m) := by
 have i := h.ni
 obtain ⟨u1, u2, u3⟩ := h.du
 have hke := hK.k
 unfold RN.voteAsk
 cases hg : X.grants f m
 ·unfold RN.voted
  simp only [Bool.false_eq_true, if_false, ne_eq, not_true_eq_false]
  refine Out.ok (Ext.refl v G) g (h.sent ?_) (by omega)
  exact pm_small hK ⟨by decide, by decide⟩ i.te (Nat.zero_le 1000) (Nat.zero_le 1000) hv hf hne ⟨fun e => (by cases e), fun _ e => (by cases e), fun e => (by cases e), fun e => (by cases e)⟩
 ·unfold RN.grants at hg
  simp only [Bool.and_eq_true, Bool.or_eq_true, decide_eq_true_eq] at hg
  obtain ⟨⟨hmt, hvo⟩, hfr⟩ := hg
  unfold RN.fresh at hfr
  simp only [Bool.and_eq_true, Bool.or_eq_true, decide_eq_true_eq] at hfr
  obtain ⟨l, hcl, hix, hat⟩ := mi.m1 hk
  rw [hmt] at hcl
  rw [hat, hix] at hfr
  have hvp := vp_grant g i.di hcl (hfr.imp id fun q => ⟨q.1.symm, q.2⟩)
  have send : ∀ {Y : RN} {cs' : List RC}, Upn n G v K Y cs' → Y.term = X.term → Y.vote = (f : Int) → cs'.length + b ≤ tot K → Out n G v K b (0, Y.sent f (voteM true)) := by
   intro Y cs' hY hYt hYv hYb
   obtain ⟨hV, ho⟩ := hY.vote hYv
   rw [hYt] at hV ho
   refine Out.ok (ext_vote ho) (vote_gi g hcl hvp ho) (hV.sent ?_) hYb
   have hvt : (G.vote v X.term f).vt v X.term = some f := if_pos ⟨rfl, rfl⟩
   exact pm_small hK ⟨by decide, by decide⟩ (by rw [hYt]; exact i.te) (Nat.zero_le 1000) (Nat.zero_le 1000) hv hf hne ⟨fun e => (by cases e), fun _ _ => (by rw [hYt]; exact hvt), fun e => (by cases e), fun e => (by cases e)⟩
  have hrest : Upn n G v K X.rest cs := ⟨⟨i.me, i.nn, i.di, i.te, i.bad, i.role, i.cand, i.lead, i.cm, i.sure, i.out⟩, h.r, h.du, h.sd, h.dk⟩
  unfold RN.voted
  simp only [if_true]
  unfold RN.gave
  by_cases hv0 : X.rest.vote < 0
  ·rw [if_pos hv0]
   have hv0' : X.vote < 0 := hv0
   have d0 : DI G v X.term (f : Int) X.log := ⟨fun U c hc => ⟨(i.di.v1 U c hc).1, fun e => by have := (i.di.v1 U c hc).2 e; omega⟩, i.di.good, i.di.le, i.di.ac, i.di.cl, i.di.lo⟩
   have hh := h.sd.h
   have s1 : SD n G v K (cs ++ [.H X.term f]) := h.sd.hard g hK (by rw [← u3]; exact d0) (by omega) i.te (by omega) (by omega) hn (by rw [if_neg (by omega)]; rw [if_pos (by omega)] at hh; omega)
   have hall : ∀ i, i ≤ [RC.H X.term f].length → SD n G v K (cs ++ [RC.H X.term f].take i) := fun i hi => by
    match i, hi with
    | 0, _ => simpa using h.sd
    | 1, _ => exact s1
   have hfit := s1.fits g hK (by simp; omega)
   rcases keep_cases (X := ({ X.rest with vote := f } : RN)) (rs := [.H X.term f]) h.r h.dk (by simp) (by omega) with ⟨D', e1, e2⟩ | ⟨D', R', j, h1, e1, h3, h4⟩
   ·rw [show [({ X.rest with vote := f } : RN).hardB] = List.map RC.b [.H X.term f] from rfl, e1]
    rw [if_neg (by simp)]
    refine send (cs' := cs ++ [.H X.term f]) ⟨⟨i.me, i.nn, d0, i.te, i.bad, i.role, i.cand, i.lead, i.cm, i.sure, i.out⟩, rfl, ?_, s1, e2⟩ rfl rfl (by simp; omega)
    rw [dur_app]
    exact ⟨rfl, rfl, u3⟩
   ·rw [show [({ X.rest with vote := f } : RN).hardB] = List.map RC.b [.H X.term f] from rfl, e1]
    rw [if_pos (by simp)]
    exact Out.crash (Ext.refl v G) g hall h1 (by simp; omega) rfl h3 h4
  ·rw [if_neg hv0, if_neg (by simp)]
   refine send hrest rfl ?_ (by omega)
   rcases hvo with hvo | hvo
   ·exact absurd hvo hv0
   ·exact hvo
theorem Upn.ack {v k : Nat} {X : RN} {cs : List RC} (h : Upn n G v K X cs) (g : GI n G K) (hk : k ≤ (G.LL X.term).length) (hp : (G.LL X.term).take k <+: X.log) : Upn n (G.ack v X.term k) v K X cs ∧ GI n (G.ack v X.term k) K := by
 have i := h.ni
 obtain ⟨u1, u2, u3⟩ := h.du
 have w := ack_grow (G := G) (v := v) (T := X.term) (k := k)
 refine ⟨⟨⟨i.me, i.nn, i.di.ack hk hp, i.te, i.bad, i.role, i.cand, fun e => ?_, i.cm, w.sure g.ak i.sure, fun p hp => (i.out p hp).grow w g.ak⟩, h.r, h.du, ?_, h.dk⟩, ack_gi g hk fun U c hc => (i.di.v1 U c hc).1⟩
 ·obtain ⟨a, b, c, d, e1, e2⟩ := i.lead e
  exact ⟨a, b, Nat.le_trans c (w.ak _ _), d, fun x j hx hj => Nat.le_trans (e1 x j hx hj) (w.ak _ _), e2⟩
 ·rw [u1] at hk hp ⊢
  rw [u3] at hp
  exact h.sd.ack hk hp
theorem ask_end {v f b e : Nat} {Z : RN} {cs : List RC} {m : Ms} (h : Upn n G v K Z cs) (g : GI n G K) (hK : KOk K) (hv : v < n) (hf : f < n) (hne : f ≠ v) (hr : Z.role = 0) (hcl : m.commit ≤ (G.LL Z.term).length) (hcs : SureB G n Z.term ((G.LL Z.term).take m.commit)) (hag : Z.log.take e = (G.LL Z.term).take e) (he : e ≤ Z.log.length) (hb : cs.length + b ≤ tot K) :
  Out n G v K b (0, (Z.upto e m.commit).sent f (tellM true e)) := by
 obtain ⟨_, l4, _⟩ := h.llen g hK
 have hel : e ≤ (G.LL Z.term).length := take_len hag he
 obtain ⟨hA, gA⟩ := h.ack g hel (by rw [← hag]; exact List.take_prefix _ _)
 have i := hA.ni
 have hw : SureB (G.ack v Z.term e) n Z.term ((G.LL Z.term).take m.commit) := ack_grow.sure g.ak hcs
 have hU : Upn n (G.ack v Z.term e) v K (Z.upto e m.commit) cs := by
  have hcm := i.cm
  refine ⟨⟨i.me, i.nn, i.di, i.te, i.bad, i.role, fun q => absurd (hr.symm.trans q) (by decide), fun q => absurd (hr.symm.trans q) (by decide), ?_, ?_, i.out⟩, hA.r, hA.du, hA.sd, hA.dk⟩
  ·show max Z.commit (min m.commit e) ≤ Z.log.length
   omega
  ·show SureB _ n Z.term (Z.log.take (max Z.commit (min m.commit e)))
   rcases Nat.le_total (min m.commit e) Z.commit with hc | hc
   ·rw [Nat.max_eq_left hc]; exact i.sure
   ·rw [Nat.max_eq_right hc, take_less hag (Nat.min_le_right _ _)]
    exact hw.pre (pre_mono (Nat.min_le_left _ _))
 refine Out.ok ext_ack gA (hU.sent ?_) hb
 refine pm_small hK (show (1 : Nat) ≤ 4 ∧ (4 : Nat) ≤ 4 by decide) h.ni.te (show e ≤ 1000 by omega) (Nat.zero_le 1000) hv hf hne ⟨fun q => (by cases q), fun q => (by cases q), fun q => (by cases q), fun _ _ => ?_⟩
 show e ≤ (if v = v ∧ Z.term = Z.term then max (G.ak v Z.term) e else G.ak v Z.term)
 rw [if_pos ⟨rfl, rfl⟩]
 exact Nat.le_max_right _ _
theorem logAsk_out {v f b : Nat} {X : RN} {cs : List RC} {m : Ms} (h : Upn n G v K X cs) (g : GI n G K) (hK : KOk K) (hn : n ≤ 5) (hv : v < n) (hf : f < n) (hne : f ≠ v) (hk : m.kind = 3) (mi : MI G n f v m) (h16 : m.ents.length ≤ 16) (hmt : m.term ≤ X.term) (hb : cs.length + (b + 16) ≤ tot K) : Out n G v K b (X.logAsk f m) := by
 have i := h.ni
 obtain ⟨u1, u2, u3⟩ := h.du
 obtain ⟨_, l4, t4⟩ := h.llen g hK
 unfold RN.logAsk
 by_cases h1 : m.term < X.term
 ·rw [if_pos h1]
  refine Out.ok (Ext.refl v G) g (h.sent ?_) (by omega)
  exact pm_small hK (show (1 : Nat) ≤ 4 ∧ (4 : Nat) ≤ 4 by decide) i.te (show X.log.length ≤ 1000 by omega) (Nat.zero_le 1000) hv hf hne ⟨fun e => (by cases e), fun e => (by cases e), fun e => (by cases e), fun _ e => (by cases e)⟩
 rw [if_neg h1]
 by_cases h2 : X.role = 2
 ·rw [if_pos h2]
  exact Out.ok (Ext.refl v G) g h (by omega)
 rw [if_neg h2]
 have ht : m.term = X.term := by omega
 have hfol : X.follow m.term f = (0, { X with role := 0, head := f }) := by unfold RN.follow; rw [if_neg (by omega)]
 rw [hfol, if_neg (by simp)]
 generalize hY : ({ X with role := 0, head := (f : Int) } : RN).rest = Y
 have hU : Upn n G v K Y cs := by
  subst hY
  exact ⟨⟨i.me, i.nn, i.di, i.te, i.bad, Nat.zero_le _, fun e => (by cases e), fun e => (by cases e), i.cm, i.sure, i.out⟩, h.r, h.du, h.sd, h.dk⟩
 have hYr : Y.role = 0 := by subst hY; rfl
 have hYt : Y.term = m.term := by subst hY; exact ht.symm
 have hYl : Y.log = X.log := by subst hY; rfl
 clear hY
 obtain ⟨v1, v2, v3⟩ := hU.du
 obtain ⟨a1, a2, a3, a4, a5, a6⟩ := mi.m3 hk
 rw [← hYt] at a1 a2 a3 a4 a5 a6
 show Out n G v K b (Y.log3 f m)
 unfold RN.log3
 by_cases h3 : Y.log.length < m.index ∨ lastT Y.log m.index ≠ m.at_
 ·rw [if_pos h3]
  refine Out.ok (Ext.refl v G) g (hU.sent ?_) (by omega)
  have : (min Y.log.length (max m.index 1 - 1)) ≤ 1000 := by rw [hYl]; omega
  exact pm_small hK (show (1 : Nat) ≤ 4 ∧ (4 : Nat) ≤ 4 by decide) hU.ni.te this (Nat.zero_le 1000) hv hf hne ⟨fun e => (by cases e), fun e => (by cases e), fun e => (by cases e), fun _ e => (by cases e)⟩
 rw [if_neg h3]
 have h3a : m.index ≤ Y.log.length := by omega
 have h3b : lastT Y.log m.index = m.at_ := by
  by_cases q : lastT Y.log m.index = m.at_
  ·exact q
  ·exact absurd (.inr q) h3
 have hag := gd_last hU.ni.di.good (g.good Y.term) h3a (by omega) (h3b.trans a4)
 unfold RN.log2
 rcases merge_law m.ents Y.log (G.LL Y.term) m.index hU.ni.di.good (g.good Y.term) h3a hag a3 (by omega) with ⟨e1, e2, e3⟩ | ⟨b', ys, y0, y1, y2, y3, y4, y5, y6, e1⟩
 ·rw [e1]
  have eg : Y.grown Y.log [] = (0, Y) := by unfold RN.grown; rw [if_pos rfl]
  simp only
  rw [eg, if_neg (by simp)]
  exact ask_end hU g hK hv hf hne hYr a5 a6 e2 e3 (by omega)
 ·rw [e1]
  simp only
  have hys : (recsE b' ys).length = ys.length := recsE_len _ _
  have hyl : ys.length ≤ 16 := by omega
  have hne0 : recsE b' ys ≠ [] := fun e => y0 (List.eq_nil_of_length_eq_zero (by rw [← hys, e]; rfl))
  have sds := SD.ents ys b' cs hU.sd g hK (c0 := f) (by rw [← v1]; exact a1) (by rw [← v3]; exact y3) (by rw [← v1]; exact y6) (by rw [← v1, ← v3]; exact y4) (by rw [← v1, ← v3]; exact y5)
  have hall : ∀ i, i ≤ (recsE b' ys).length → SD n G v K (cs ++ (recsE b' ys).take i) := fun i hi => (sds i (by omega)).1
  have sd1 : SD n G v K (cs ++ recsE b' ys) := by
   have := (sds ys.length (Nat.le_refl _)).1
   rwa [List.take_of_length_le (by omega)] at this
  have du1 : dur (cs ++ recsE b' ys) = ⟨Y.term, Y.vote, (G.LL Y.term).take (m.index + m.ents.length)⟩ := by
   have := (sds ys.length (Nat.le_refl _)).2 (fun e => y0 (List.eq_nil_of_length_eq_zero e))
   rwa [List.take_of_length_le (by omega), ← v1, ← v2, y2] at this
  have hfit := sd1.fits g hK (by rw [List.length_append]; omega)
  have eg : Y.grown ((G.LL Y.term).take (m.index + m.ents.length)) ((recsE b' ys).map RC.b) = ({ Y with log := (G.LL Y.term).take (m.index + m.ents.length) } : RN).keep ((recsE b' ys).map RC.b) := by
   unfold RN.grown; rw [if_neg (by simp [hne0])]
  rw [eg]
  rcases keep_cases (X := ({ Y with log := (G.LL Y.term).take (m.index + m.ents.length) } : RN)) (rs := recsE b' ys) hU.r hU.dk hne0 (by omega) with ⟨D', k1, k2⟩ | ⟨D', R', j, k0, k1, k3, k4⟩
  ·rw [k1, if_neg (by simp)]
   have hi := hU.ni
   have hsl : Y.log.take Y.commit <+: G.LL Y.term := hi.sure.led g (Nat.le_refl _) a1
   have hcl : (Y.log.take Y.commit).length = Y.commit := by rw [List.length_take, Nat.min_eq_left hi.cm]
   have hce := pre_take hsl
   rw [hcl] at hce
   have hcb : Y.commit ≤ b' := agree hce.symm hi.cm y5
   have hlen : ((G.LL Y.term).take (m.index + m.ents.length)).length = m.index + m.ents.length := by rw [List.length_take]; omega
   have hU2 : Upn n G v K (({ Y with log := (G.LL Y.term).take (m.index + m.ents.length) } : RN).dr D' ((cs ++ recsE b' ys).map RC.b)) (cs ++ recsE b' ys) := by
    refine ⟨⟨hi.me, hi.nn, hi.di.merge g a1 y5 (by omega), hi.te, hi.bad, hi.role, fun q => ?_, fun q => ?_, ?_, ?_, hi.out⟩, rfl, ?_, sd1, k2⟩
    ·have : Y.role = 1 := q
     omega
    ·have : Y.role = 2 := q
     omega
    ·show Y.commit ≤ ((G.LL Y.term).take (m.index + m.ents.length)).length
     omega
    ·show SureB G n Y.term (((G.LL Y.term).take (m.index + m.ents.length)).take Y.commit)
     rw [List.take_take, Nat.min_eq_left (by omega), hce]; exact hi.sure
    ·rw [du1]; exact ⟨rfl, rfl, rfl⟩
   refine ask_end hU2 g hK hv hf hne hYr a5 a6 ?_ ?_ (by rw [List.length_append]; omega)
   ·show ((G.LL Y.term).take (m.index + m.ents.length)).take _ = _
    rw [List.take_take, Nat.min_self]
    rfl
   ·show _ ≤ ((G.LL Y.term).take (m.index + m.ents.length)).length
    omega
  ·rw [k1, if_pos (by simp)]
   exact Out.crash (Ext.refl v G) g hall k0 (by omega) rfl k3 k4
end Go.VM
namespace Go.VM
open Go Go.RowKit Go.Proofs
variable {n : Nat} {G G' G1 : GH} {K K' : KN}
theorem filter_or {s q : Nat → Bool} : ∀ l : List Nat, (∀ x, s x = true → q x = false) → (l.filter fun x => s x || q x).length = (l.filter s).length + (l.filter q).length
 | [], _ => rfl
 | a :: l, h => by
  have ih := filter_or l h
  simp only [List.filter_cons]
  cases hs : s a
  ·cases hq : q a <;> simp [ih] <;> omega
  ·rw [h a hs]; simp [ih]; omega
theorem one_of {v : Nat} : ∀ n, ((List.range n).filter fun x => x == v).length = if v < n then 1 else 0
 | 0 => rfl
 | n + 1 => by
  rw [List.range_succ, List.filter_append, List.length_append, one_of n]
  by_cases h : n = v
  ·subst h
   simp
  ·have h2 : (n == v) = false := by simp [h]
   simp only [List.filter_cons, h2, List.filter_nil, List.length_nil, Bool.false_eq_true, if_false]
   split <;> split <;> omega
theorem maj_adv {v i : Nat} {l : List Nat} (hl : l.length = n) (hv : v < n) (h : n < 2 * (1 + cntM v i l)) : Maj n fun x => (x == v) || ((x != v) && decide (i ≤ l.getD x 0)) := by
 unfold Maj
 rw [filter_or _ (fun x hx => by rw [beq_iff_eq] at hx; subst hx; simp), one_of, if_pos hv]
 unfold cntM at h
 rw [hl] at h
 exact h
theorem filter_getD (l : List Bool) : ((List.range l.length).filter fun x => l.getD x false).length = (l.filter id).length := by
 induction l with
 | nil => rfl
 | cons a l ih =>
  rw [List.length_cons, List.range_succ_eq_map, List.filter_cons]
  have e : ((List.map Nat.succ (List.range l.length)).filter fun x => (a :: l).getD x false).length = ((List.range l.length).filter fun x => l.getD x false).length := by
   rw [List.filter_map, List.length_map]
   rfl
  cases a
  ·simp only [List.getD_cons_zero, Bool.false_eq_true, if_false, List.filter_cons, id]
   rw [e, ih]
  ·simp only [List.getD_cons_zero, if_true, List.filter_cons, id, List.length_cons]
   rw [e, ih]
theorem maj_votes {l : List Bool} (hl : l.length = n) (h : n < 2 * cntV l) : Maj n fun x => l.getD x false := by
 unfold Maj
 rw [← hl, filter_getD]
 rw [hl]; exact h
theorem getD_some {α : Type} {l : List α} {x : Nat} {d : α} (h : x < l.length) : l[x]? = some (l.getD x d) := by
 rw [List.getD_eq_getElem?_getD, List.getElem?_eq_getElem h]; rfl
theorem adv_form (X : RN) : ∀ i, X.adv i = X ∨ ∃ c, X.adv i = { X with commit := c } ∧ X.commit < c ∧ c ≤ i ∧ lastT X.log c = X.term ∧ X.n < 2 * (1 + cntM X.me c X.mat)
 | 0 => .inl rfl
 | i + 1 => by
  have e : X.adv (i + 1) = if X.commit < i + 1 ∧ lastT X.log (i + 1) = X.term then (if X.n < 2 * (1 + cntM X.me (i + 1) X.mat) then { X with commit := i + 1 } else X.adv i) else X := rfl
  rw [e]
  split
  ·rename_i h
   split
   ·rename_i h2
    exact .inr ⟨i + 1, rfl, h.1, Nat.le_refl _, h.2, h2⟩
   ·rcases adv_form X i with h | ⟨c, h1, h2, h3, h4⟩
    ·exact .inl h
    ·exact .inr ⟨c, h1, h2, by omega, h4⟩
  ·exact .inl rfl
theorem Upn.adv {v : Nat} {X : RN} {cs : List RC} (h : Upn n G v K X cs) (hv : v < n) (hr : X.role = 2) : Upn n G v K (X.adv X.log.length) cs := by
 rcases adv_form X X.log.length with e | ⟨c, e, h1, h2, h3, h4⟩
 ·rw [e]; exact h
 ·rw [e]
  have i := h.ni
  obtain ⟨a1, a2, a3, ⟨a4, a4'⟩, a5, a6, a7⟩ := i.lead hr
  refine ⟨⟨i.me, i.nn, i.di, i.te, i.bad, i.role, i.cand, i.lead, h2, ?_, i.out⟩, h.r, h.du, h.sd, h.dk⟩
  rw [i.nn, i.me] at h4
  refine .inr ⟨X.term, c, _, Nat.le_refl _, by omega, by rw [← a2]; exact h3, maj_adv a4' hv h4, fun x hx hs => ?_, ?_⟩
  ·simp only [Bool.or_eq_true, Bool.and_eq_true, beq_iff_eq, bne_iff_ne, ne_eq, decide_eq_true_eq] at hs
   rcases hs with rfl | ⟨hxv, hle⟩
   ·exact Nat.le_trans h2 a3
   ·exact Nat.le_trans hle (a5 x _ hxv (getD_some (by omega)))
  ·rw [← a2]; exact List.prefix_rfl
theorem pm_ask {v to : Nat} {X : RN} {cs : List RC} (h : Upn n G v K X cs) (g : GI n G K) (hK : KOk K) (hv : v < n) (hr : X.role = 2) (hto : to < n) (hne : to ≠ v) : PM G n K ⟨v, to, msB { X.ask to with term := X.term }⟩ { X.ask to with term := X.term } := by
 have i := h.ni
 obtain ⟨a1, a2, a3, ⟨a4, a4'⟩, a5, a6, a7⟩ := i.lead hr
 obtain ⟨l1, l2, l3⟩ := h.llen g hK
 have hk := hK.k
 have hnx := a7 _ (List.mem_of_getElem? (getD_some (d := 1) (show to < X.next.length by omega)))
 generalize hN : X.next.getD to 1 = N at hnx
 have hat : lastT X.log (N - 1) ≤ X.term := lastT_le i.di.le _
 have hcm := i.cm
 have hlen : ((X.log.drop (N - 1)).take 16).length = min 16 (X.log.length - (N - 1)) := by rw [List.length_take, List.length_drop]
 have em : ({ X.ask to with term := X.term } : Ms) = ⟨3, false, X.term, N - 1, lastT X.log (N - 1), X.commit, (X.log.drop (N - 1)).take 16⟩ := by
  unfold RN.ask; rw [hN]
 rw [em]
 refine ⟨rfl, ⟨show 3 < 256 by decide, show X.term < _ by omega, show N - 1 < _ by omega, show lastT X.log (N - 1) < _ by omega, show X.commit < _ by omega, by show ((X.log.drop (N - 1)).take 16).length ≤ 1000000; omega, fun x hx => ?_⟩, show (1 : Nat) ≤ 3 ∧ (3 : Nat) ≤ 4 by decide, i.te, show N - 1 ≤ 1000 by omega, show lastT X.log (N - 1) ≤ 1000 by omega, show X.commit ≤ 1000 by omega, by show ((X.log.drop (N - 1)).take 16).length ≤ 16; omega, hv, hto, hne, ⟨fun e => (by cases e), fun e => (by cases e), fun _ => ?_, fun e => (by cases e)⟩⟩
 ·exact (gd_ok g i.di.good (List.mem_of_mem_drop (List.mem_of_mem_take hx))).1
 ·refine ⟨a1, ?_, ?_, ?_, ?_, ?_⟩
  ·show N - 1 + ((X.log.drop (N - 1)).take 16).length ≤ (G.LL X.term).length
   rw [← a2]; omega
  ·show (X.log.drop (N - 1)).take 16 = ((G.LL X.term).drop (N - 1)).take ((X.log.drop (N - 1)).take 16).length
   rw [← a2, List.length_take, List.take_eq_take_iff]
   omega
  ·show lastT X.log (N - 1) = lastT (G.LL X.term) (N - 1)
   rw [← a2]
  ·show X.commit ≤ (G.LL X.term).length
   rw [← a2]; exact hcm
  ·show SureB G n X.term ((G.LL X.term).take X.commit)
   rw [← a2]; exact i.sure
theorem Upn.tellOne {v to : Nat} {X : RN} {cs : List RC} (h : Upn n G v K X cs) (g : GI n G K) (hK : KOk K) (hv : v < n) (hr : X.role = 2) (hto : to < n) (hne : to ≠ v) : Upn n G v K (X.tellOne to) cs := h.sent (pm_ask h g hK hv hr hto hne)
theorem Upn.tell {v : Nat} {X : RN} {cs : List RC} (h : Upn n G v K X cs) (g : GI n G K) (hK : KOk K) (hv : v < n) (hr : X.role = 2) : Upn n G v K X.tell cs := by
 have i := h.ni
 refine ⟨⟨i.me, i.nn, i.di, i.te, i.bad, i.role, i.cand, i.lead, i.cm, i.sure, fun p hp => ?_⟩, h.r, h.du, h.sd, h.dk⟩
 rcases List.mem_append.1 hp with hp | hp
 ·exact i.out p hp
 ·unfold RN.asks at hp
  obtain ⟨to, hto, rfl⟩ := List.mem_map.1 hp
  rw [List.mem_filter, List.mem_range] at hto
  obtain ⟨h1, h2⟩ := hto
  rw [i.nn] at h1
  rw [i.me] at h2 ⊢
  exact ⟨_, pm_ask h g hK hv hr h1 (by simpa using h2)⟩
theorem mem_set2 {α : Type} {l : List α} {f : Nat} {a x : α} (h : x ∈ l.set f a) : x = a ∨ x ∈ l := (List.mem_or_eq_of_mem_set h).symm
theorem logTell_out {v f b : Nat} {X : RN} {cs : List RC} {m : Ms} (h : Upn n G v K X cs) (g : GI n G K) (hK : KOk K) (hv : v < n) (hf : f < n) (hne : f ≠ v) (hk : m.kind = 4) (mi : MI G n f v m) (hb : cs.length + b ≤ tot K) : Out n G v K b (0, X.logTell f m) := by
 have i := h.ni
 unfold RN.logTell
 by_cases h1 : X.role ≠ 2 ∨ m.term ≠ X.term ∨ X.log.length < m.index
 ·rw [if_pos h1]; exact Out.ok (Ext.refl v G) g h hb
 rw [if_neg h1]
 have hr : X.role = 2 := by omega
 have hmt : m.term = X.term := by omega
 have hix : m.index ≤ X.log.length := by omega
 obtain ⟨a1, a2, a3, ⟨a4, a4'⟩, a5, a6, a7⟩ := i.lead hr
 have hmf : X.mat.getD f 0 ≤ X.log.length := a6 _ (List.mem_of_getElem? (getD_some (d := 0) (show f < X.mat.length by omega)))
 have hnf := a7 _ (List.mem_of_getElem? (getD_some (d := 1) (show f < X.next.length by omega)))
 by_cases h2 : m.ok = false
 ·rw [if_pos h2]
  have hU : Upn n G v K (X.backed f m.index) cs := by
   refine ⟨⟨i.me, i.nn, i.di, i.te, i.bad, i.role, i.cand, fun _ => ⟨a1, a2, a3, ⟨by show (X.next.set _ _).length = n; rw [List.length_set]; exact a4, a4'⟩, a5, a6, fun k hk => ?_⟩, i.cm, i.sure, i.out⟩, h.r, h.du, h.sd, h.dk⟩
   rcases mem_set2 hk with rfl | hk
   ·show 1 ≤ _ ∧ _ ≤ X.log.length + 1
    omega
   ·exact a7 k hk
  exact Out.ok (Ext.refl v G) g (hU.tellOne g hK hv hr hf hne) hb
 ·rw [if_neg h2]
  have hok : m.ok = true := by simpa using h2
  have hak := mi.m4 hk hok
  rw [hmt] at hak
  have hU : Upn n G v K (X.acked f m.index) cs := by
   refine ⟨⟨i.me, i.nn, i.di, i.te, i.bad, i.role, i.cand, fun _ => ⟨a1, a2, a3, ⟨by show (X.next.set _ _).length = n; rw [List.length_set]; exact a4, by show (X.mat.set _ _).length = n; rw [List.length_set]; exact a4'⟩, fun x j hx hj => ?_, fun k hk => ?_, fun k hk => ?_⟩, i.cm, i.sure, i.out⟩, h.r, h.du, h.sd, h.dk⟩
   ·have hj' : (X.mat.set f (max (X.mat.getD f 0) m.index))[x]? = some j := hj
    by_cases hxf : x = f
    ·subst hxf
     rw [List.getElem?_set_self (by omega)] at hj'
     injection hj' with hj'
     have := a5 x _ hx (getD_some (d := 0) (show x < X.mat.length by omega))
     show j ≤ G.ak x X.term
     omega
    ·rw [List.getElem?_set_ne (fun e => hxf e.symm)] at hj'
     exact a5 x j hx hj'
   ·rcases mem_set2 hk with rfl | hk
    ·show _ ≤ X.log.length
     omega
    ·exact a6 k hk
   ·rcases mem_set2 hk with rfl | hk
    ·show 1 ≤ _ ∧ _ ≤ X.log.length + 1
     omega
    ·exact a7 k hk
  have hV : Upn n G v K ((X.acked f m.index).adv X.log.length) cs := hU.adv hv hr
  unfold RN.told
  simp only
  generalize hZ : (X.acked f m.index).adv X.log.length = Z at hV
  have hZr : Z.role = 2 := by
   rw [← hZ]
   rcases adv_form (X.acked f m.index) X.log.length with e | ⟨c, e, _⟩
   ·rw [e]; exact hr
   ·rw [e]; exact hr
  split
  ·exact Out.ok (Ext.refl v G) g (hV.tell g hK hv hZr) hb
  ·split
   ·exact Out.ok (Ext.refl v G) g (hV.tellOne g hK hv hZr hf hne) hb
   ·exact Out.ok (Ext.refl v G) g hV hb
theorem add_out {v b : Nat} {X : RN} {cs : List RC} {d : List UInt8} (x : Ext v G G1) (g : GI n G1 K) (hK : KOk K) (hv : v < n) (hR : X.R = cs.map RC.b) (hdu : X.term = (dur cs).t ∧ X.vote = (dur cs).v ∧ X.log = (dur cs).l) (hsd : SD n G1 v K cs) (hdk : UpD X.D X.R) (hme : X.me = v) (hnn : X.n = n) (hbad : X.bad = false) (hr : X.role = 2)
  (hld : G1.ld X.term = some v) (hLL : G1.LL X.term = X.log ++ [⟨X.term, d⟩]) (hln : X.next.length = n ∧ X.mat.length = n) (hak : ∀ y i, y ≠ v → X.mat[y]? = some i → i ≤ G1.ak y X.term) (hma : ∀ i ∈ X.mat, i ≤ X.log.length) (hne : ∀ i ∈ X.next, 1 ≤ i ∧ i ≤ X.log.length + 1) (hcm : X.commit ≤ X.log.length) (hsu : SureB G1 n X.term (X.log.take X.commit)) (hou : ∀ p ∈ X.out, PI G1 n K p) (hb : cs.length + (b + 1) ≤ tot K) : Out n G v K b (X.add d) := by
 obtain ⟨u1, u2, u3⟩ := hdu
 have hx : (G1.LL (dur cs).t)[X.log.length]? = some ⟨X.term, d⟩ := by rw [← u1, hLL]; simp
 obtain ⟨s1, e1⟩ := hsd.ent (i := X.log.length) g hK (by rw [← u1]; exact hld) (by rw [u3]; exact Nat.le_refl _) hx (by rw [← u1, hLL, ← u3, List.take_length, List.take_left]) (fun h => by rw [u3] at h; omega)
 have e2 : (G1.LL (dur cs).t).take (X.log.length + 1) = X.log ++ [⟨X.term, d⟩] := by rw [← u1, hLL]; exact List.take_of_length_le (by simp)
 rw [e2] at e1
 have hall : ∀ i, i ≤ [RC.E (X.log.length + 1) ⟨X.term, d⟩].length → SD n G1 v K (cs ++ [RC.E (X.log.length + 1) ⟨X.term, d⟩].take i) := fun i hi => by
  match i, hi with
  | 0, _ => simpa using hsd
  | 1, _ => exact s1
 have hfit := s1.fits g hK (by simp; omega)
 unfold RN.add
 simp only
 rcases keep_cases (X := X.plus d) (rs := [.E (X.log.length + 1) ⟨X.term, d⟩]) hR hdk (by simp) (by omega) with ⟨D', k1, k2⟩ | ⟨D', R', j, h1, k1, k3, k4⟩
 ·rw [show [recE (X.log.length + 1) ⟨X.term, d⟩] = List.map RC.b [.E (X.log.length + 1) ⟨X.term, d⟩] from rfl, k1, if_neg (by simp)]
  generalize hY : (X.plus d).dr D' ((cs ++ [RC.E (X.log.length + 1) ⟨X.term, d⟩]).map RC.b) = Y
  have yl : Y.log = X.log ++ [⟨X.term, d⟩] := by rw [← hY]; rfl
  have yt : Y.term = X.term := by rw [← hY]; rfl
  have yr : Y.role = 2 := by rw [← hY]; exact hr
  have d1 := s1.d
  rw [e1] at d1
  have w := ack_grow (G := G1) (v := v) (T := X.term) (k := X.log.length + 1)
  have hU : Upn n (G1.ack v X.term (X.log.length + 1)) v K Y (cs ++ [.E (X.log.length + 1) ⟨X.term, d⟩]) := by
   have hd : DI (G1.ack v X.term (X.log.length + 1)) v X.term X.vote (X.log ++ [⟨X.term, d⟩]) := by
    rw [← u1, ← u2] at d1
    exact d1.ack (by rw [hLL]; simp) (by rw [hLL, List.take_of_length_le (by simp)]; exact List.prefix_rfl)
   have hsa : SD n (G1.ack v X.term (X.log.length + 1)) v K (cs ++ [.E (X.log.length + 1) ⟨X.term, d⟩]) := by
    have := s1.ack (k := X.log.length + 1) (by rw [e1, ← u1, hLL]; simp) (by rw [e1, ← u1, hLL, List.take_of_length_le (by simp)]; exact List.prefix_rfl)
    rw [e1, ← u1] at this
    exact this
   rw [← hY]
   refine ⟨⟨hme, hnn, hd, by rw [show ((X.plus d).dr D' _).term = X.term from rfl, u1]; exact hsd.t, hbad, by rw [show ((X.plus d).dr D' _).role = X.role from rfl, hr]; exact Nat.le_refl _, fun q => absurd (hr.symm.trans q) (by decide), fun _ => ⟨hld, hLL.symm, ?_, hln, fun y i hy hi => Nat.le_trans (hak y i hy hi) (w.ak _ _), fun i hi => ?_, fun i hi => ?_⟩, ?_, ?_, fun p hp => (hou p hp).grow w g.ak⟩, rfl, ?_, hsa, k2⟩
   ·show (X.log ++ [(⟨X.term, d⟩ : LE)]).length ≤ (if v = v ∧ X.term = X.term then max (G1.ak v X.term) (X.log.length + 1) else _)
    rw [if_pos ⟨rfl, rfl⟩, List.length_append]
    exact Nat.le_max_right _ _
   ·have := hma i hi
    show i ≤ (X.log ++ [(⟨X.term, d⟩ : LE)]).length
    simp; omega
   ·have := hne i hi
    show 1 ≤ i ∧ i ≤ (X.log ++ [(⟨X.term, d⟩ : LE)]).length + 1
    simp; omega
   ·show X.commit ≤ (X.log ++ [(⟨X.term, d⟩ : LE)]).length
    simp; omega
   ·show SureB _ n X.term ((X.log ++ [(⟨X.term, d⟩ : LE)]).take X.commit)
    rw [List.take_append_of_le_length hcm]
    exact w.sure g.ak hsu
   ·rw [e1]; exact ⟨u1, u2, rfl⟩
  have gA : GI n (G1.ack v X.term (X.log.length + 1)) K := ack_gi g (by rw [hLL]; simp) fun U c hc => by rw [u1]; exact (hsd.d.v1 U c hc).1
  have hV := hU.adv hv yr
  have hVr : (Y.adv Y.log.length).role = 2 := by
   rcases adv_form Y Y.log.length with e | ⟨c, e, _⟩
   ·rw [e]; exact yr
   ·rw [e]; exact yr
  exact Out.ok (x.trans ext_ack) gA (hV.tell gA hK hv hVr) (by simp; omega)
 ·rw [show [recE (X.log.length + 1) ⟨X.term, d⟩] = List.map RC.b [.E (X.log.length + 1) ⟨X.term, d⟩] from rfl, k1, if_pos (by simp)]
  exact Out.crash x g hall h1 (by simp; omega) rfl k3 k4
theorem propose_out {v b : Nat} {X : RN} {cs : List RC} {d : List UInt8} (h : Upn n G v K X cs) (g : GI n G K) (hK : KOk K) (hv : v < n) (hd : d.length ≤ 200) (hm : d ∈ K.prop) (hlen : X.role = 2 → X.log.length + 1 ≤ K.prop.length + X.term) (hb : cs.length + (b + 1) ≤ tot K) : (X.leads = true ∧ Out n G v K b (X.propose d)) ∨ (X.leads = false ∧ X.propose d = (12, X)) := by
 have i := h.ni
 obtain ⟨u1, u2, u3⟩ := h.du
 unfold RN.propose
 rw [if_neg (by omega)]
 cases hl : X.leads
 ·right; exact ⟨rfl, if_pos rfl⟩
 ·left
  refine ⟨rfl, ?_⟩
  rw [if_neg (by simp)]
  have hr : X.role = 2 := by
   unfold RN.leads at hl
   simp only [Bool.and_eq_true, decide_eq_true_eq] at hl
   exact hl.2
  obtain ⟨a1, a2, a3, a4, a5, a6, a7⟩ := i.lead hr
  have l1 := (h.llen g hK).2.2
  have w := add_grow (G := G) (T := X.term) (x := ⟨X.term, d⟩)
  have gA := add_gi g a1 (x := ⟨X.term, d⟩) rfl ⟨show X.term < _ by omega, hd⟩ (.inr hm) (by rw [← a2]; exact hlen hr)
  have eL : (G.add X.term ⟨X.term, d⟩).LL X.term = X.log ++ [⟨X.term, d⟩] := by show (if X.term = X.term then _ else _) = _; rw [if_pos rfl, a2]
  exact add_out (ext_add a1) gA hK hv h.r h.du (h.sd.grow w (h.sd.d.grow w g.ak (fun _ => rfl) (fun _ => rfl) fun _ => rfl)) h.dk i.me i.nn i.bad hr a1 eL a4 a5 a6 a7 i.cm (w.sure g.ak i.sure) (fun p hp => (i.out p hp).grow w g.ak) hb
theorem count_out {v b : Nat} {X : RN} {cs : List RC} (h : Upn n G v K X cs) (g : GI n G K) (hK : KOk K) (hv : v < n) (hb : cs.length + (b + 1) ≤ tot K) : Out n G v K b X.count := by
 have i := h.ni
 obtain ⟨u1, u2, u3⟩ := h.du
 unfold RN.count
 by_cases hc : X.role ≠ 1 ∨ 2 * cntV X.votes ≤ X.n
 ·rw [if_pos hc]; exact Out.ok (Ext.refl v G) g h (by omega)
 rw [if_neg hc]
 have hr : X.role = 1 := by omega
 obtain ⟨a1, a2, a3, a4, a5⟩ := i.cand hr
 have hm := maj_votes a4 (show n < 2 * cntV X.votes by have := i.nn; omega)
 have hs : ∀ y, y < n → X.votes.getD y false = true → G.vt y X.term = some v := fun y hy e => a5 y (by rw [← e]; exact getD_some (by omega))
 have hno : G.ld X.term = none := by
  cases hl : G.ld X.term with
  | none => rfl
  | some c =>
   exfalso
   obtain ⟨_, l, es, e1, _⟩ := g.led X.term c hl
   obtain ⟨s, hm', hs'⟩ := g.el X.term c l hl e1
   obtain ⟨y, hy, b1, b2⟩ := maj_meet hm hm'
   have := (hs y hy b1).symm.trans (hs' y hy b2).1
   injection this with this
   subst this
   exact a3 hl
 have l1 := (h.llen g hK).2.2
 have w := win_grow (c := v) (l := X.log ++ [⟨X.term, []⟩]) g hno
 have gA := win_gi (x := ⟨X.term, []⟩) g hno a1 hv hm hs rfl ⟨show X.term < _ by omega, by simp⟩ (.inl rfl)
 have eL : (G.win X.term v (X.log ++ [⟨X.term, []⟩])).LL X.term = X.log ++ [⟨X.term, []⟩] := by show (if X.term = X.term then _ else _) = _; rw [if_pos rfl]
 have eD : (G.win X.term v (X.log ++ [⟨X.term, []⟩])).ld X.term = some v := by show (if X.term = X.term then _ else _) = _; rw [if_pos rfl]
 refine add_out (X := X.lead) (d := []) (ext_win g hno) gA hK hv h.r h.du (h.sd.grow w (h.sd.d.grow w g.ak (fun _ => rfl) (fun _ => rfl) fun _ => rfl)) h.dk i.me i.nn i.bad rfl eD eL ⟨?_, ?_⟩ (fun y j hy hj => ?_) (fun j hj => ?_) (fun j hj => ?_) i.cm (w.sure g.ak i.sure) (fun p hp => (i.out p hp).grow w g.ak) hb
 ·show (List.replicate X.n _).length = n
  rw [List.length_replicate]; exact i.nn
 ·show (List.replicate X.n 0).length = n
  rw [List.length_replicate]; exact i.nn
 ·have : j = 0 := List.eq_of_mem_replicate (List.mem_of_getElem? hj)
  omega
 ·have : j = 0 := List.eq_of_mem_replicate hj
  omega
 ·have : j = X.log.length + 1 := List.eq_of_mem_replicate hj
  show 1 ≤ j ∧ j ≤ X.log.length + 1
  omega
theorem runs_out {v b : Nat} {X : RN} {cs : List RC} (h : Upn n G v K X cs) (g : GI n G K) (hK : KOk K) (hn : n ≤ 5) (hv : v < n) (ht : X.term + 1 ≤ K.e) (hb : cs.length + (b + 2) ≤ tot K) : Out n G v K b X.runs := by
 have i := h.ni
 obtain ⟨u1, u2, u3⟩ := h.du
 have hke := hK.k
 have hne : G.CL (X.term + 1) v = none := by
  cases hc : G.CL (X.term + 1) v with
  | none => rfl
  | some l => have := i.di.cl _ l hc; omega
 have hvn : G.vt v (X.term + 1) = none := by
  cases hc : G.vt v (X.term + 1) with
  | none => rfl
  | some c => have := (i.di.v1 _ c hc).1; omega
 have dE : DI G v (X.term + 1) (v : Int) X.log := ⟨fun U c hc => by have := (i.di.v1 U c hc).1; exact ⟨by omega, fun e => by omega⟩, i.di.good, fun x hx => by have := i.di.le x hx; omega, fun T k a c => ⟨by have := (i.di.ac T k a c).1; omega, (i.di.ac T k a c).2.imp id fun s => s.le (by omega)⟩, fun U l e => (by have := i.di.cl U l e; omega), by have := i.di.lo; omega⟩
 have hh := h.sd.h
 have s1 : SD n G v K (cs ++ [.H (X.term + 1) v]) := h.sd.hard g hK (by rw [← u3]; exact dE) (by omega) ht (by omega) (by omega) hn (by rw [if_neg (by omega)]; split at hh <;> omega)
 have hall : ∀ i, i ≤ [RC.H (X.term + 1) v].length → SD n G v K (cs ++ [RC.H (X.term + 1) v].take i) := fun i hi => by
  match i, hi with
  | 0, _ => simpa using h.sd
  | 1, _ => exact s1
 have hfit := s1.fits g hK (by simp; omega)
 have eh : [X.elect.hardB] = List.map RC.b [.H (X.term + 1) v] := by
  show [RC.b (.H (X.term + 1) X.me)] = _
  rw [i.me]; rfl
 unfold RN.runs
 rw [eh]
 rcases keep_cases (X := X.elect) (rs := [.H (X.term + 1) v]) h.r h.dk (by simp) (by omega) with ⟨D', k1, k2⟩ | ⟨D', R', j, h1, k1, k3, k4⟩
 ·rw [k1, if_neg (by simp)]
  have w := stand_grow (l := X.log) hne hvn
  have gS := stand_gi g hne hvn i.di.good (fun x hx => by have := i.di.le x hx; omega) (by omega) ht (vp_own i.di)
  have eC : (G.stand v (X.term + 1) X.log).CL (X.term + 1) v = some X.log := by show (if X.term + 1 = X.term + 1 ∧ v = v then some X.log else _) = _; rw [if_pos ⟨rfl, rfl⟩]
  have eV : (G.stand v (X.term + 1) X.log).vt v (X.term + 1) = some v := by show (if v = v ∧ X.term + 1 = X.term + 1 then some v else _) = _; rw [if_pos ⟨rfl, rfl⟩]
  have eV' : ∀ U, U ≠ X.term + 1 → (G.stand v (X.term + 1) X.log).vt v U = G.vt v U := fun U hU => by show (if v = v ∧ U = X.term + 1 then some v else _) = _; rw [if_neg (fun e => hU e.2)]
  have dS : DI (G.stand v (X.term + 1) X.log) v (X.term + 1) (v : Int) X.log := by
   refine ⟨fun U c hc => ?_, w.gd dE.good, dE.le, fun T k a c => ⟨(dE.ac T k a c).1, (dE.ac T k a c).2.imp id w.skip⟩, fun U l hc => ?_, dE.lo⟩
   ·by_cases hU : U = X.term + 1
    ·subst hU
     rw [eV] at hc
     injection hc with hc
     subst hc
     exact ⟨Nat.le_refl _, fun _ => rfl⟩
    ·rw [eV' U hU] at hc
     exact dE.v1 U c hc
   ·have hc' : (if U = X.term + 1 ∧ v = v then some X.log else G.CL U v) = some l := hc
    split at hc'
    ·rename_i e; omega
    ·exact dE.cl U l hc'
  have d1 : dur (cs ++ [.H (X.term + 1) v]) = ⟨X.term + 1, v, X.log⟩ := by rw [dur_app, u3]; rfl
  have hnn := i.nn
  have hlg := (h.llen g hK)
  have hU : Upn n (G.stand v (X.term + 1) X.log) v K ((X.elect.dr D' ((cs ++ [RC.H (X.term + 1) v]).map RC.b)).stand) (cs ++ [.H (X.term + 1) v]) := by
   refine ⟨⟨i.me, i.nn, ?_, ht, i.bad, show (1 : Nat) ≤ 2 by decide, fun _ => ⟨eC, eV, fun hl => ?_, ?_, fun x hx => ?_⟩, fun q => (by cases q), i.cm, ?_, fun p hp => ?_⟩, rfl, ?_, s1.grow w ?_, k2⟩
   ·show DI _ v (X.term + 1) (X.me : Int) X.log
    rw [i.me]; exact dS
   ·obtain ⟨_, l, es, e1, _⟩ := g.led (X.term + 1) v hl
    rw [hne] at e1; cases e1
   ·show ((List.replicate X.n false).set X.me true).length = n
    rw [List.length_set, List.length_replicate]; exact i.nn
   ·have hx' : ((List.replicate X.n false).set X.me true)[x]? = some true := hx
    by_cases hxv : x = X.me
    ·rw [hxv, i.me]; exact eV
    ·rw [List.getElem?_set_ne (fun e => hxv e.symm)] at hx'
     have := List.eq_of_mem_replicate (List.mem_of_getElem? hx')
     cases this
   ·show SureB _ n (X.term + 1) (X.log.take X.commit)
    exact (w.sure g.ak i.sure).le (by omega)
   ·rcases List.mem_append.1 hp with hp | hp
    ·exact (i.out p hp).grow w g.ak
    ·obtain ⟨to, hto, rfl⟩ := List.mem_map.1 hp
     rw [List.mem_filter, List.mem_range] at hto
     obtain ⟨h1, h2⟩ := hto
     have h1' : to < X.n := h1
     have h2' : (to != X.me) = true := h2
     rw [i.nn] at h1'
     rw [i.me] at h2'
     have hat : lastT X.log X.log.length ≤ X.term := lastT_le i.di.le _
     have key := pm_small (G := G.stand v (X.term + 1) X.log) (n := n) (to := to) (v := v) (kind := 1) (ok := false) (term := X.term + 1) (index := X.log.length) (at_ := lastT X.log X.log.length) hK (show (1 : Nat) ≤ 1 ∧ (1 : Nat) ≤ 4 by decide) ht (by omega) (by omega) hv h1' (by simpa using h2') ⟨fun _ => ⟨X.log, eC, rfl, rfl⟩, fun e => (by cases e), fun e => (by cases e), fun e => (by cases e)⟩
     refine ⟨⟨1, false, X.term + 1, X.log.length, lastT X.log X.log.length, 0, []⟩, ?_⟩
     show PM _ n K ⟨X.me, to, msB ⟨1, false, X.term + 1, X.log.length, lastT X.log X.log.length, 0, []⟩⟩ _
     rw [i.me]; exact key
   ·rw [d1]
    refine ⟨rfl, ?_, rfl⟩
    show (X.me : Int) = (v : Int)
    rw [i.me]
   ·rw [d1]; exact dS
  exact (count_out hU gS hK hv (by simp; omega)).of (ext_stand hne hvn)
 ·rw [k1, if_pos (by simp)]
  exact Out.crash (Ext.refl v G) g hall h1 (by simp; omega) rfl k3 k4
end Go.VM
