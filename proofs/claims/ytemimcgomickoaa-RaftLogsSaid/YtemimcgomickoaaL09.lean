/-
  Parts: RfVote, RfTell, RfLog, RfTurn, RfTick, RfGet, RfPlay, RfOpen.
-/
import Derived.Test.YtemimcgomickoaaL08
set_option maxRecDepth 20000
set_option linter.unusedVariables false
set_option linter.unusedSimpArgs false
namespace Go.VM
open Go Go.RowKit Go.Proofs
def RN.fresh (X : RN) (m : Ms) : Bool := decide (lastT X.log X.log.length < m.at_) || (decide (m.at_ = lastT X.log X.log.length) && decide (X.log.length ≤ m.index))
def RN.grants (X : RN) (f : Nat) (m : Ms) : Bool := (decide (m.term = X.term) && (decide (X.vote < 0) || decide (X.vote = f))) && X.fresh m
def voteM (ok : Bool) : Ms := ⟨2, ok, 0, 0, 0, 0, []⟩
def RN.gave (X : RN) (f : Nat) : Int × RN := if X.vote < 0 then ({ X with vote := f } : RN).keep [({ X with vote := f } : RN).hardB] else (0, X)
def RN.voted (X : RN) (f : Nat) (ok : Bool) : Int × RN := if (if ok then X.rest.gave f else (0, X)).1 ≠ 0 then (if ok then X.rest.gave f else (0, X)) else (0, (if ok then X.rest.gave f else (0, X)).2.sent f (voteM ok))
def RN.voteAsk (X : RN) (f : Nat) (m : Ms) : Int × RN := X.voted f (X.grants f m)
theorem ok_vote {X : RN} (h : X.Ok) {f : Nat} (hf : f < X.n) : ({ X with vote := f } : RN).Ok := ⟨h.n0, h.n5, h.me, h.term, by simp only; omega, by simp only; omega, h.log, h.ll, h.cm, h.role, h.h0, h.hn, h.cand, h.lead, h.next, h.mat, h.idle, h.limit, h.draw, h.out, h.rl⟩
theorem voteM_ok (b : Bool) : (voteM b).Ok := ⟨show 2 < 256 by decide, show 0 < 18446744073709551616 by decide, show 0 < 18446744073709551616 by decide, show 0 < 18446744073709551616 by decide, show 0 < 18446744073709551616 by decide, show 0 ≤ 1000000 by decide, fun x hx => by cases hx⟩
theorem vote_tell {w0 : World} {S : St} {Q : AEnd → St → Prop} {L : RL} {X : RN} {f : Nat} {ok : Bool} {fr : Fr} (h : RaftAt S L X) (ho : X.out.length < 1000000) (f0 : fr 0 = .ptr (some (L.r, 0))) (f1 : fr 1 = .int .i64 (f : Nat)) (f9 : fr 9 = .bool ok)
  (hQ : ∀ S' L', RAft S L X S' L' (X.sent f (voteM ok)) → Q (.ret (.int .i64 0)) S') : wCode (RSim Try.prog w0) r_raft_Node_voteAsk_0 fr S (resQ [.tmp 6] Q) := by
 simp only [r_raft_Node_voteAsk_0, go_sem, f0, f1, f9]
 refine wi_call ?_
 simp only [go_sem]
 refine send_runs (m := voteM ok) (ve := .sl [] 0 2 .nil) (te := .nil) h (voteM_ok ok) (isSlice_nil LER 2) ho fun S' L' a => ?_
 simp only [go_sem]
 exact hQ S' L' a
theorem vote_give {w0 : World} {S : St} {Q : AEnd → St → Prop} {L : RL} {X : RN} {f : Nat} {ok : Bool} {fr : Fr} (h : RaftAt S L X) (hf : f < X.n) (hR : X.Room) (f0 : fr 0 = .ptr (some (L.r, 0))) (f1 : fr 1 = .int .i64 (f : Nat)) (f9 : fr 9 = .bool ok)
  (hQ : ∀ S' L', RAft S L X S' L' (X.voted f ok).2 → Q (.ret (.int .i64 (X.voted f ok).1)) S') : wCode (RSim Try.prog w0) r_raft_Node_voteAsk_1 fr S (resQ [.tmp 6] Q) := by
 have hRo := hR.out
 have hRr := hR.rl
 cases ok with
 | false =>
  simp only [r_raft_Node_voteAsk_1, go_sem, f9]
  refine wc_ite (b := false) (by simp only [go_sem] <;> rfl) (fun h => by cases h) (fun _ => ?_)
  refine vote_tell (f := f) (ok := false) h (by omega) (by simp only [go_sem, f0]) (by simp only [go_sem, f1]) (by simp only [go_sem, f9]) fun S' L' a => ?_
  exact hQ S' L' a
 | true =>
  simp only [r_raft_Node_voteAsk_1, go_sem, f9]
  refine wc_ite (b := true) (by simp only [go_sem] <;> rfl) (fun _ => ?_) (fun h => by cases h)
  simp only [go_sem, f0]
  refine wi_call ?_
  simp only [go_sem]
  refine rest_runs h fun S1 a1 => ?_
  have ex1 := a1.w.ex
  have hvr : X.rest.vote = X.vote := rfl
  unfold RN.cells at ex1
  rw [hvr] at ex1
  unfold RN.voted at hQ
  rw [if_pos rfl] at hQ
  unfold RN.gave at hQ
  rw [hvr] at hQ
  simp only [go_sem, f0, ex1]
  refine wc_ite (b := decide (X.vote < 0)) (by simp only [go_sem]) (fun hc => ?_) (fun hc => ?_)
  ·have hlt := of_decide_eq_true hc
   rw [if_pos hlt] at hQ
   have hk1 := a1.w.ok
   have a2 := a1.w.put (X' := { X.rest with vote := f }) rfl rfl rfl rfl rfl rfl rfl (ok_vote hk1 hf) rfl
   have hbl := hardB_len a2.w.ok
   have a3 := a1.trans a2
   unfold RN.cells at a2 a3
   simp only [go_sem, f0, f1, ex1]
   generalize S1.set L.r (.cells _) = S2 at *
   refine wi_call ?_
   simp only [go_sem]
   refine hard_runs a3.w fun S4 v4 b4 k4 => ?_
   have a4 := a3.trans (RAft.new a3.w k4)
   have hone := b4.is.one
   have hcl := cells_one hone
   simp only [go_sem, f0, hone, hcl]
   refine wi_call ?_
   simp only [go_sem]
   refine keep_runs (l := [({ X.rest with vote := f } : RN).hardB]) (tl := .cap) a4.w ⟨[[v4]], rfl, fun e => (by cases e), fun c hc => by rw [List.mem_singleton.1 hc]; rfl, rfl, fun j c x hc hx => by
    cases j with
    | zero => simp only [List.getElem?_cons_zero, Option.some.injEq] at hc hx; subst hc; subst hx; exact ⟨v4, rfl, b4.is⟩
    | succ j => simp at hc⟩ (fun r hr => by rw [List.mem_singleton.1 hr]; omega) (by simp only [List.length_cons, List.length_nil]; show X.R.length + _ ≤ _; omega) fun S5 L5 a5 => ?_
   have a6 := a4.trans a5
   have hr5 : L5.r = L.r := a6.2.1
   by_cases e0 : (({ X.rest with vote := f } : RN).keep [({ X.rest with vote := f } : RN).hardB]).1 = 0
   ·have qe : ((({ X.rest with vote := f } : RN).keep [({ X.rest with vote := f } : RN).hardB]).1 != 0) = false := by rw [e0]; rfl
    rw [if_neg (by rw [e0]; simp)] at hQ
    have hout : (({ X.rest with vote := f } : RN).keep [({ X.rest with vote := f } : RN).hardB]).2.out.length < 1000000 := by
     rcases keep_fields ({ X.rest with vote := f } : RN) [({ X.rest with vote := f } : RN).hardB] with ⟨_, D', R', hf'⟩ | ⟨hne, _⟩
     ·rw [hf']; show X.out.length < _; omega
     ·exact absurd e0 hne
    simp only [go_sem, qe]
    refine wc_ite (b := false) (by simp only [go_sem] <;> rfl) (fun h => by cases h) (fun _ => ?_)
    refine vote_tell (L := L5) (f := f) (ok := true) a6.w hout (by simp only [go_sem, f0, hr5]) (by simp only [go_sem, f1]) (by simp only [go_sem, f9]) fun S' L' a => ?_
    exact hQ S' L' (a6.trans a)
   ·have qe : ((({ X.rest with vote := f } : RN).keep [({ X.rest with vote := f } : RN).hardB]).1 != 0) = true := by simpa using e0
    rw [if_pos e0] at hQ
    simp only [go_sem, qe]
    refine wc_ite (b := true) (by simp only [go_sem] <;> rfl) (fun _ => ?_) (fun h => by cases h)
    simp only [go_sem]
    exact hQ S5 L5 a6
  ·have hlt := of_decide_eq_false hc
   rw [if_neg hlt, if_neg (by simp)] at hQ
   refine vote_tell (L := L) (f := f) (ok := true) a1.w (by show X.out.length < _; omega) (by simp only [go_sem, f0]) (by simp only [go_sem, f1]) (by simp only [go_sem, f9]) fun S' L' a => ?_
   exact hQ S' L' (a1.trans a)
theorem vote_ok {w0 : World} {S : St} {Q : AEnd → St → Prop} {L : RL} {X : RN} {f M : Nat} {m : Ms} {ve : V} {fr : Fr} (h : RaftAt S L X) (hf : f < X.n) (hR : X.Room) (hM : S.cells M = some (m.v ve)) (f0 : fr 0 = .ptr (some (L.r, 0))) (f1 : fr 1 = .int .i64 (f : Nat))
  (f5 : fr 5 = .ptr (some (M, 0))) (f8 : fr 8 = .bool (X.fresh m))
  (hQ : ∀ S' L', RAft S L X S' L' (X.voteAsk f m).2 → Q (.ret (.int .i64 (X.voteAsk f m).1)) S') : wCode (RSim Try.prog w0) r_raft_Node_voteAsk_2 fr S (resQ [.tmp 6] Q) := by
 have ex := h.ex
 unfold RN.cells at ex
 unfold Ms.v at hM
 have p1 : ((m.term : Int) == (X.term : Int)) = decide (m.term = X.term) := by rw [Bool.eq_iff_iff, beq_iff_eq, decide_eq_true_iff]; omega
 have p2 : (X.vote == (f : Int)) = decide (X.vote = f) := by rw [Bool.eq_iff_iff, beq_iff_eq, decide_eq_true_iff]
 unfold RN.voteAsk RN.grants at hQ
 cases b1 : decide (m.term = X.term)
 ·rw [b1] at p1 hQ
  simp only [r_raft_Node_voteAsk_2, go_sem, f0, f1, f5, f8, ex, hM, p1]
  refine vote_give (f := f) (ok := false) h hf hR (by simp only [go_sem, f0]) (by simp only [go_sem, f1]) (by simp only [go_sem]) fun S' L' a => ?_
  exact hQ S' L' a
 ·rw [b1] at p1 hQ
  cases b2 : decide (X.vote < 0)
  ·rw [b2] at hQ
   cases b3 : decide (X.vote = f)
   ·rw [b3] at p2 hQ
    simp only [r_raft_Node_voteAsk_2, go_sem, f0, f1, f5, f8, ex, hM, p1, b2, p2]
    refine vote_give (f := f) (ok := false) h hf hR (by simp only [go_sem, f0]) (by simp only [go_sem, f1]) (by simp only [go_sem]) fun S' L' a => ?_
    exact hQ S' L' a
   ·rw [b3] at p2 hQ
    simp only [r_raft_Node_voteAsk_2, go_sem, f0, f1, f5, f8, ex, hM, p1, b2, p2]
    refine vote_give (f := f) (ok := X.fresh m) h hf hR (by simp only [go_sem, f0]) (by simp only [go_sem, f1]) (by simp only [go_sem, f8]) fun S' L' a => ?_
    exact hQ S' L' a
  ·rw [b2] at hQ
   simp only [r_raft_Node_voteAsk_2, go_sem, f0, f1, f5, f8, ex, hM, p1, b2, p2]
   refine vote_give (f := f) (ok := X.fresh m) h hf hR (by simp only [go_sem, f0]) (by simp only [go_sem, f1]) (by simp only [go_sem, f8]) fun S' L' a => ?_
   exact hQ S' L' a
theorem voteAsk_runs {w0 : World} {S : St} {Q : AEnd → St → Prop} {L : RL} {X : RN} {f : Nat} {m : Ms} {ve : V} {te : Tok} (h : RaftAt S L X) (hm : m.Ok) (hE : IsSlice LER 2 ve m.ents te) (hf : f < X.n) (hR : X.Room)
  (hQ : ∀ S' L', RAft S L X S' L' (X.voteAsk f m).2 → Q (.ret (.int .i64 (X.voteAsk f m).1)) S') : RSim Try.prog w0 n_raft_Node_voteAsk [.ptr (some (L.r, 0)), .int .i64 (f : Nat), .agg (m.v ve)] S Q := by
 have hone := hE.one
 have hcl := cells_one hone
 have hll := h.ok.ll
 have k1 : Keeps (fun _ => False) S (S.add (.cells (m.v ve))) := (Keeps.refl _ S).add _
 have cM : (S.add (.cells (m.v ve))).cells S.n = some (m.v ve) := by rw [cells_addc, if_pos rfl]
 have lM : S.n < (S.add (.cells (m.v ve))).n := by rw [St.add_n]; omega
 have h1 := h.stay k1
 have ex1 := h1.ex
 obtain ⟨hE1, _⟩ := h1.lg
 obtain ⟨ce, he⟩ := hE1.len
 have cv : ∀ S, V.conv S (.int .u64) (.int .i64 (X.log.length : Int)) = some (.int .u64 (X.log.length : Int)) := fun S => by simp only [V.conv]; rw [wu64 (by omega) (by omega)]
 have q1 : decide ((m.at_ : Int) > (lastT X.log X.log.length : Int)) = decide (lastT X.log X.log.length < m.at_) := decide_eq_decide.mpr (by omega)
 have q2 : ((m.at_ : Int) == (lastT X.log X.log.length : Int)) = decide (m.at_ = lastT X.log X.log.length) := by rw [Bool.eq_iff_iff, beq_iff_eq, decide_eq_true_iff]; omega
 have q3 : decide ((m.index : Int) ≥ (X.log.length : Int)) = decide (X.log.length ≤ m.index) := decide_eq_decide.mpr (by omega)
 have cM' := cM
 unfold RN.cells at ex1
 rw [he] at ex1
 unfold Ms.v at cM' h1 k1 lM ex1 cM ⊢
 refine RSim.run mixed k_raft_Node_voteAsk ?_ (by simp)
 simp only [b_raft_Node_voteAsk, go_sem, ex1, hone, cv, cM']
 have hQ' := fun S' L' (a : RAft _ L X S' L' (X.voteAsk f m).2) => hQ S' L' ((RAft.new h k1).trans a)
 generalize S.add (.cells _) = S1 at *
 generalize S.n = M at *
 refine wi_call ?_
 simp only [go_sem]
 refine last_runs h1 (by omega) (by omega) ?_
 rw [Int.toNat_natCast]
 have go : ∀ fr : Fr, fr 0 = .ptr (some (L.r, 0)) → fr 1 = .int .i64 (f : Nat) → fr 5 = .ptr (some (M, 0)) → fr 8 = .bool (X.fresh m) → wCode (RSim Try.prog w0) r_raft_Node_voteAsk_2 fr S1 (resQ [.tmp 6] Q) :=
  fun fr f0 f1 f5 f8 => vote_ok (m := m) (ve := ve) (M := M) h1 hf hR cM' f0 f1 f5 f8 hQ'
 unfold RN.fresh at go
 cases b1 : decide (lastT X.log X.log.length < m.at_)
 ·rw [b1] at q1 go
  simp only [go_sem, cM', q1, ex1]
  refine wi_call ?_
  simp only [go_sem]
  refine last_runs h1 (by omega) (by omega) ?_
  rw [Int.toNat_natCast]
  cases b2 : decide (m.at_ = lastT X.log X.log.length)
  ·rw [b2] at q2 go
   simp only [go_sem, cM', q2]
   exact go _ (by simp only [go_sem]) (by simp only [go_sem]) (by simp only [go_sem]) (by simp only [go_sem]; rfl)
  ·rw [b2] at q2 go
   simp only [go_sem, cM', q2, q3]
   exact go _ (by simp only [go_sem]) (by simp only [go_sem]) (by simp only [go_sem]) (by simp only [go_sem]; rfl)
 ·rw [b1] at q1 go
  simp only [go_sem, cM', q1]
  exact go _ (by simp only [go_sem]) (by simp only [go_sem]) (by simp only [go_sem]) (by simp only [go_sem]; rfl)
end Go.VM
namespace Go.VM
open Go Go.RowKit Go.Proofs
theorem row_aft {S : St} {v : V} {l l' : List Nat} {o : Nat} (h : RowAt S v (l.map natV) l.length 1 o) (hl : l'.length = l.length) (h0 : l ≠ []) : Aft S (Res.row v (l.map natV) o) (S.set o (.cells (l'.map natV))) (Res.row v (l'.map natV) o) := by
 obtain ⟨e1, e2, e3⟩ := row_at' h h0
 have n0 : l.length ≠ 0 := fun e => h0 (List.eq_nil_of_length_eq_zero e)
 have z1 : (List.map natV l).length ≠ 0 := by rw [List.length_map]; exact n0
 have z2 : (List.map natV l').length = l.length := by rw [List.length_map, hl]
 exact ⟨.inr ⟨by rw [z2]; exact n0, by rw [z2, e1], by rw [cells_setc, if_pos rfl], by rw [Nat.mul_one], e3⟩, (Keeps.set1 _ _ _).mono fun j' _ e => ⟨z1, e⟩, fun j' hj' => .inl ⟨z1, hj'.2⟩⟩
theorem RaftAt.next_set {S : St} {L : RL} {X : RN} {l' : List Nat} (h : RaftAt S L X) (h0 : X.next ≠ []) (hl : l'.length = X.next.length) (ok : ({ X with next := l' } : RN).Ok) : RAft S L X (S.set L.on (.cells (l'.map natV))) L { X with next := l' } := by
 refine RAft.of h ?_ h.d ok rfl
 exact Aft.part h.h (List.perm_middle (l₁ := [_, _, _, _])) (row_aft h.vn hl h0) (List.perm_middle (l₁ := [_, _, _, _]))
theorem RaftAt.mat_set {S : St} {L : RL} {X : RN} {l' : List Nat} (h : RaftAt S L X) (h0 : X.mat ≠ []) (hl : l'.length = X.mat.length) (ok : ({ X with mat := l' } : RN).Ok) : RAft S L X (S.set L.om (.cells (l'.map natV))) L { X with mat := l' } := by
 refine RAft.of h ?_ h.d ok rfl
 exact Aft.part h.h (List.perm_middle (l₁ := [_, _, _, _, _])) (row_aft h.vm hl h0) (List.perm_middle (l₁ := [_, _, _, _, _]))
theorem splice_natV {l : List Nat} {f v : Nat} (hf : f < l.length) : splice (l.map natV) (f * 1) [.int .i64 ((v : Nat) : Int)] = (l.set f v).map natV := by
 rw [splice, Nat.mul_one, List.map_set, List.set_eq_take_append_cons_drop, if_pos (by rw [List.length_map]; exact hf)]
 simp [natV]
theorem mem_set' {l : List Nat} {f v k : Nat} (h : k ∈ l.set f v) : k = v ∨ k ∈ l := by
 rcases List.mem_or_eq_of_mem_set h with h | h
 ·exact .inr h
 ·exact .inl h
theorem adv_eq (X : RN) (i : Nat) : ∃ c, X.adv i = { X with commit := c } ∧ X.commit ≤ c := by
 induction i with
 | zero => exact ⟨X.commit, rfl, Nat.le_refl _⟩
 | succ i ih =>
  unfold RN.adv
  split
  ·rename_i hc
   split
   ·exact ⟨i + 1, rfl, by omega⟩
   ·exact ih
  ·exact ⟨X.commit, rfl, Nat.le_refl _⟩
theorem RaftAt.ne_rm {S : St} {L : RL} {X : RN} (h : RaftAt S L X) (h0 : X.mat ≠ []) : ¬ L.r = L.om := fun e =>
 h.h.2.1 (.row L.vm (X.mat.map natV) L.om) (by simp) L.r rfl ⟨by rw [List.length_map]; exact fun e => h0 (List.eq_nil_of_length_eq_zero e), e⟩
theorem RaftAt.ne_rn {S : St} {L : RL} {X : RN} (h : RaftAt S L X) (h0 : X.next ≠ []) : ¬ L.r = L.on := fun e =>
 h.h.2.1 (.row L.vn (X.next.map natV) L.on) (by simp) L.r rfl ⟨by rw [List.length_map]; exact fun e => h0 (List.eq_nil_of_length_eq_zero e), e⟩
theorem RaftAt.ne_nm {S : St} {L : RL} {X : RN} (h : RaftAt S L X) (h0 : X.next ≠ []) (h1 : X.mat ≠ []) : ¬ L.on = L.om := fun e =>
 h.h.2.2.2.2.2.2.2.2.2.1 (.row L.vm (X.mat.map natV) L.om) (by simp) L.on ⟨by rw [List.length_map]; exact fun e => h0 (List.eq_nil_of_length_eq_zero e), rfl⟩ ⟨by rw [List.length_map]; exact fun e => h1 (List.eq_nil_of_length_eq_zero e), e⟩
def RN.backed (X : RN) (f i : Nat) : RN := { X with next := X.next.set f (max (X.mat.getD f 0) (min (X.next.getD f 1 - 1) i) + 1) }
def RN.acked (X : RN) (f i : Nat) : RN := { X with mat := X.mat.set f (max (X.mat.getD f 0) i), next := X.next.set f (max (X.next.getD f 1) (max (X.mat.getD f 0) i + 1)) }
def RN.told (X : RN) (f i : Nat) : RN :=
 let Z := (X.acked f i).adv X.log.length
 if X.commit < Z.commit then Z.tell else if X.mat.getD f 0 < i ∧ Z.next.getD f 1 ≤ X.log.length then Z.tellOne f else Z
def RN.logTell (X : RN) (f : Nat) (m : Ms) : RN :=
 if X.role ≠ 2 ∨ m.term ≠ X.term ∨ X.log.length < m.index then X else if m.ok = false then (X.backed f m.index).tellOne f else X.told f m.index
theorem next_ok {X : RN} (h : X.Ok) {f v : Nat} (hv : 1 ≤ v ∧ v ≤ X.log.length + 1) : ({ X with next := X.next.set f v } : RN).Ok :=
 ⟨h.n0, h.n5, h.me, h.term, h.v0, h.vn, h.log, h.ll, h.cm, h.role, h.h0, h.hn, h.cand, fun hr => by simpa using h.lead hr,
  fun k hk => by
   have := h.ll
   rcases mem_set' hk with rfl | hk
   ·exact ⟨hv.1, fun _ => hv.2, by omega⟩
   ·exact h.next k hk, h.mat, h.idle, h.limit, h.draw, h.out, h.rl⟩
theorem mat_ok {X : RN} (h : X.Ok) {f v : Nat} (hv : v ≤ X.log.length) : ({ X with mat := X.mat.set f v } : RN).Ok :=
 ⟨h.n0, h.n5, h.me, h.term, h.v0, h.vn, h.log, h.ll, h.cm, h.role, h.h0, h.hn, h.cand, fun hr => by simpa using h.lead hr, h.next,
  fun k hk => by
   have := h.ll
   rcases mem_set' hk with rfl | hk
   ·exact ⟨fun _ => hv, by omega⟩
   ·exact h.mat k hk, h.idle, h.limit, h.draw, h.out, h.rl⟩
theorem iteMax (a b : Nat) : (if ((b : Nat) : Int) > ((a : Nat) : Int) then ((b : Nat) : Int) else ((a : Nat) : Int)) = ((max a b : Nat) : Int) := by
 split
 ·rw [Nat.max_eq_right (by omega)]
 ·rw [Nat.max_eq_left (by omega)]
theorem iteMin (a b : Nat) : (if ((b : Nat) : Int) < ((a : Nat) : Int) then ((b : Nat) : Int) else ((a : Nat) : Int)) = ((min a b : Nat) : Int) := by
 split
 ·rw [Nat.min_eq_right (by omega)]
 ·rw [Nat.min_eq_left (by omega)]
theorem tell_ok {w0 : World} {S : St} {Q : AEnd → St → Prop} {L : RL} {X : RN} {f i : Nat} {fr : Fr} (h : RaftAt S L X) (hf : f < X.n) (hR : X.Room) (hr : X.role = 2) (hi : i ≤ X.log.length)
  (f0 : fr 0 = .ptr (some (L.r, 0))) (f1 : fr 1 = .int .i64 (f : Nat)) (f6 : fr 6 = .int .i64 (i : Nat)) (f7 : fr 7 = .bool (decide (X.mat.getD f 0 < i)))
  (hQ : ∀ S' L', RAft S L X S' L' (X.told f i) → Q (.ret (.tup [])) S') : wCode (RSim Try.prog w0) r_raft_Node_logTell_0 fr S (resQ [] Q) := by
 have hRo := hR.out
 have hk := h.ok
 have hll := hk.ll
 have hn5 := hk.n5
 have ex := h.ex
 have hnl := (hk.lead hr).1
 have hml := (hk.lead hr).2
 obtain ⟨k, hkk⟩ : ∃ k, X.next[f]? = some k := ⟨_, List.getElem?_eq_getElem (by omega)⟩
 obtain ⟨q, hqq⟩ : ∃ q, X.mat[f]? = some q := ⟨_, List.getElem?_eq_getElem (by omega)⟩
 have hgk : X.next.getD f 1 = k := by rw [List.getD_eq_getElem?_getD, hkk]; rfl
 have hgq : X.mat.getD f 0 = q := by rw [List.getD_eq_getElem?_getD, hqq]; rfl
 obtain ⟨k1, k2, _⟩ := hk.next k (List.mem_of_getElem? hkk)
 have k2 := k2 hr
 obtain ⟨q2, _⟩ := hk.mat q (List.mem_of_getElem? hqq)
 have q2 := q2 hr
 obtain ⟨hvm, hcm, hom, hjm, hhm⟩ := row_at h.vm hqq
 have hjm' : (f < X.mat.length) = True := eq_true hjm
 have hfit : (f * 1 + 1 ≤ (List.map natV X.mat).length) = True := eq_true (by rw [List.length_map]; omega)
 have hsp := splice_natV (v := max q i) hjm
 unfold splice at hsp
 simp only [List.length_cons, List.length_nil, Nat.zero_add] at hsp
 have hmx := iteMax q i
 have a1 := h.mat_set (l' := X.mat.set f (max q i)) (fun e => by rw [e] at hjm; simp at hjm) (by simp) (mat_ok hk (by omega))
 have hm0 : X.mat ≠ [] := fun e => by rw [e] at hjm; simp at hjm
 have hn0 : X.next ≠ [] := fun e => by rw [e] at hnl; simp at hnl; omega
 have hrm := h.ne_rm hm0
 have hnm := h.ne_nm hn0 hm0
 have hrn := h.ne_rn hn0
 obtain ⟨hvn, hcn, hon, hjn, hhn⟩ := row_at h.vn hkk
 have h1 := a1.w
 have hqs : (X.mat.set f (max q i))[f]? = some (max q i) := by rw [List.getElem?_set, if_pos rfl, if_pos hjm]
 obtain ⟨_, _, _, _, hhm1⟩ := row_at (l := X.mat.set f (max q i)) h1.vm hqs
 have hjn' : (f < X.next.length) = True := eq_true hjn
 have hfit1 : (f * 1 + 1 ≤ (List.map natV X.next).length) = True := eq_true (by rw [List.length_map]; omega)
 have w1 : IntKind.i64.wrap (((max q i : Nat) : Int) + 1) = ((max q i + 1 : Nat) : Int) := by rw [w64 (by omega) (by omega)]; omega
 have hmx1 := iteMax k (max q i + 1)
 have hsp1 := splice_natV (v := max k (max q i + 1)) hjn
 unfold splice at hsp1
 simp only [List.length_cons, List.length_nil, Nat.zero_add] at hsp1
 have a2 := h1.next_set (l' := X.next.set f (max k (max q i + 1))) hn0 (by simp) (next_ok (X := { X with mat := X.mat.set f (max q i) }) h1.ok (by simp only; omega))
 have a12 := a1.trans a2
 unfold RN.cells at ex
 rw [hvm, hvn] at ex
 simp only [r_raft_Node_logTell_0, go_sem, f0, f1, f6, ex, hcm, hjm', hhm, minmaxL, minmaxV, hmx, hfit, hsp, hrm, hnm, hrn, hcn, hjn', hhn, hhm1, w1, hmx1, hfit1, hsp1]
 generalize (S.set L.om (.cells _)).set L.on (.cells _) = S2 at *
 have hack : X.acked f i = { X with mat := X.mat.set f (max q i), next := X.next.set f (max k (max q i + 1)) } := by unfold RN.acked; rw [hgk, hgq]
 refine wi_call ?_
 simp only [go_sem]
 refine advance_runs a12.w hr fun S3 a3 => ?_
 have hloglen : ({ X with mat := X.mat.set f (max q i), next := X.next.set f (max k (max q i + 1)) } : RN).log.length = X.log.length := rfl
 rw [← hack] at a12 a3
 have a13 := a12.trans a3
 have hloga : (X.acked f i).log.length = X.log.length := rfl
 rw [hloga] at a13
 unfold RN.told at hQ
 obtain ⟨c, hcc, hcle⟩ := adv_eq (X.acked f i) X.log.length
 rw [hcc] at a13 hQ
 rw [hack] at a13 hQ
 simp only at a13 hQ
 have h3 := a13.w
 have ex3 := h3.ex
 have hks : (X.next.set f (max k (max q i + 1)))[f]? = some (max k (max q i + 1)) := by rw [List.getElem?_set, if_pos rfl, if_pos hjn]
 have hgs : (X.next.set f (max k (max q i + 1))).getD f 1 = max k (max q i + 1) := by rw [List.getD_eq_getElem?_getD, hks]; rfl
 rw [hgs, hgq] at hQ
 rw [hgq] at f7
 obtain ⟨hvn3, hcn3, _, hjn3, hhn3⟩ := row_at (l := X.next.set f (max k (max q i + 1))) h3.vn hks
 have hjn3' : (f < (X.next.set f (max k (max q i + 1))).length) = True := eq_true hjn3
 obtain ⟨hE, _⟩ := h3.lg
 obtain ⟨ce, he⟩ := hE.len
 unfold RN.cells at ex3
 rw [hvn3, he] at ex3
 have p1 : decide ((c : Int) > (X.commit : Int)) = decide (X.commit < c) := decide_eq_decide.mpr (by omega)
 have p2 : decide (((max k (max q i + 1) : Nat) : Int) ≤ (X.log.length : Int)) = decide (max k (max q i + 1) ≤ X.log.length) := decide_eq_decide.mpr (by omega)
 simp only [go_sem, f0, ex3, p1]
 refine wc_ite (b := decide (X.commit < c)) (by simp only [go_sem]) (fun hc => ?_) (fun hc => ?_)
 ·have hlt := of_decide_eq_true hc
  rw [if_pos hlt] at hQ
  simp only [go_sem, f0]
  refine wi_call ?_
  simp only [go_sem]
  refine tell_runs h3 hr (by show X.out.length + 5 ≤ _; omega) fun S4 L4 a4 => ?_
  simp only [go_sem]
  exact hQ S4 L4 (a13.trans a4)
 ·have hlt := of_decide_eq_false hc
  rw [if_neg hlt] at hQ
  cases b1 : decide (q < i)
  ·rw [b1] at f7
   rw [if_neg fun hh => (of_decide_eq_false b1) hh.1] at hQ
   simp only [go_sem, f7]
   refine wc_ite (b := false) (by simp only [go_sem] <;> rfl) (fun h => by cases h) (fun _ => ?_)
   simp only [go_sem]
   exact hQ S3 L a13
  ·rw [b1] at f7
   have hqi := of_decide_eq_true b1
   simp only [go_sem, f7, f0, f1, ex3, hcn3, hjn3', hhn3, p2]
   refine wc_ite (b := decide (max k (max q i + 1) ≤ X.log.length)) (by simp only [go_sem]) (fun hc => ?_) (fun hc => ?_)
   ·have hle := of_decide_eq_true hc
    rw [if_pos ⟨hqi, hle⟩] at hQ
    simp only [go_sem, f0, f1]
    refine wi_call ?_
    simp only [go_sem]
    refine tellOne_runs h3 hr hf (by show X.out.length < _; omega) fun S4 L4 a4 => ?_
    simp only [go_sem]
    exact hQ S4 L4 (a13.trans a4)
   ·have hle := of_decide_eq_false hc
    rw [if_neg fun hh => hle hh.2] at hQ
    simp only [go_sem]
    exact hQ S3 L a13
theorem logTell_runs {w0 : World} {S : St} {Q : AEnd → St → Prop} {L : RL} {X : RN} {f : Nat} {m : Ms} {ve : V} {te : Tok} (h : RaftAt S L X) (hm : m.Ok) (hE : IsSlice LER 2 ve m.ents te) (hf : f < X.n) (hR : X.Room)
  (hQ : ∀ S' L', RAft S L X S' L' (X.logTell f m) → Q (.ret (.tup [])) S') : RSim Try.prog w0 n_raft_Node_logTell [.ptr (some (L.r, 0)), .int .i64 (f : Nat), .agg (m.v ve)] S Q := by
 have hone := hE.one
 have hcl := cells_one hone
 have hk := h.ok
 have hll := hk.ll
 have hRo := hR.out
 have hn5 := hk.n5
 have k1 : Keeps (fun _ => False) S (S.add (.cells (m.v ve))) := (Keeps.refl _ S).add _
 have cM : (S.add (.cells (m.v ve))).cells S.n = some (m.v ve) := by rw [cells_addc, if_pos rfl]
 have h1 := h.stay k1
 have ex1 := h1.ex
 obtain ⟨hE1, _⟩ := h1.lg
 obtain ⟨ce, he⟩ := hE1.len
 have cv : ∀ S, V.conv S (.int .u64) (.int .i64 (X.log.length : Int)) = some (.int .u64 (X.log.length : Int)) := fun S => by simp only [V.conv]; rw [wu64 (by omega) (by omega)]
 have p0 : ((X.role : Int) != 2) = decide (X.role ≠ 2) := by rw [Bool.eq_iff_iff, bne_iff_ne, decide_eq_true_iff]; omega
 have p1 : ((m.term : Int) != (X.term : Int)) = decide (m.term ≠ X.term) := by rw [Bool.eq_iff_iff, bne_iff_ne, decide_eq_true_iff]; omega
 have p2 : decide ((m.index : Int) > (X.log.length : Int)) = decide (X.log.length < m.index) := decide_eq_decide.mpr (by omega)
 have hQ' := fun S' L' (a : RAft (S.add (.cells (m.v ve))) L X S' L' (X.logTell f m)) => hQ S' L' ((RAft.new h k1).trans a)
 have cM' := cM
 have exX := ex1
 unfold RN.cells at ex1
 rw [he] at ex1
 unfold RN.logTell at hQ'
 unfold Ms.v at cM' h1 k1 ex1 exX hQ' ⊢
 cases b0 : decide (X.role ≠ 2)
 ·rw [b0] at p0
  have hr : X.role = 2 := by simpa using b0
  cases b1 : decide (m.term ≠ X.term)
  ·rw [b1] at p1
   have ht : m.term = X.term := by simpa using b1
   cases b2 : decide (X.log.length < m.index)
   ·rw [b2] at p2
    have hix := of_decide_eq_false b2
    have cvi : ∀ S, V.conv S (.int .i64) (.int .u64 (m.index : Int)) = some (.int .i64 (m.index : Int)) := fun S => by simp only [V.conv]; rw [w64 (by omega) (by omega)]
    rw [if_neg (fun hh => hh.elim (fun h => h hr) fun hh => hh.elim (fun h => h ht) hix)] at hQ'
    refine RSim.run mixed k_raft_Node_logTell ?_ (by simp)
    simp only [b_raft_Node_logTell, go_sem, ex1, hone, cv, cM', p0, p1, p2]
    refine wc_ite (b := false) (by simp only [go_sem] <;> rfl) (fun h => by cases h) (fun _ => ?_)
    simp only [go_sem, cM', cvi]
    generalize S.add (.cells _) = S1 at *
    generalize S.n = M at *
    cases hok : m.ok
    ·rw [hok] at cM' hQ'
     rw [if_pos rfl] at hQ'
     have hnl := (hk.lead hr).1
     have hml := (hk.lead hr).2
     obtain ⟨k, hkk⟩ : ∃ k, X.next[f]? = some k := ⟨_, List.getElem?_eq_getElem (by omega)⟩
     obtain ⟨q, hqq⟩ : ∃ q, X.mat[f]? = some q := ⟨_, List.getElem?_eq_getElem (by omega)⟩
     have hgk : X.next.getD f 1 = k := by rw [List.getD_eq_getElem?_getD, hkk]; rfl
     have hgq : X.mat.getD f 0 = q := by rw [List.getD_eq_getElem?_getD, hqq]; rfl
     obtain ⟨kk1, k2, _⟩ := hk.next k (List.mem_of_getElem? hkk)
     have k2 := k2 hr
     obtain ⟨q2, _⟩ := hk.mat q (List.mem_of_getElem? hqq)
     have q2 := q2 hr
     obtain ⟨hvm, hcm, hom, hjm, hhm⟩ := row_at h1.vm hqq
     obtain ⟨hvn, hcn, hon, hjn, hhn⟩ := row_at h1.vn hkk
     have hjm' : (f < X.mat.length) = True := eq_true hjm
     have hjn' : (f < X.next.length) = True := eq_true hjn
     have hfit : (f * 1 + 1 ≤ (List.map natV X.next).length) = True := eq_true (by rw [List.length_map]; omega)
     have hsp := splice_natV (v := max q (min (k - 1) m.index) + 1) hjn
     unfold splice at hsp
     simp only [List.length_cons, List.length_nil, Nat.zero_add] at hsp
     have w0' : IntKind.i64.wrap ((k : Int) - 1) = ((k - 1 : Nat) : Int) := by rw [w64 (by omega) (by omega)]; omega
     have hmn := iteMin (k - 1) m.index
     have hmx := iteMax q (min (k - 1) m.index)
     have hle : max q (min (k - 1) m.index) ≤ X.log.length := by omega
     have w1 : IntKind.i64.wrap (((max q (min (k - 1) m.index) : Nat) : Int) + 1) = ((max q (min (k - 1) m.index) + 1 : Nat) : Int) := by rw [w64 (by omega) (by omega)]; omega
     have a1 := h1.next_set (l' := X.next.set f (max q (min (k - 1) m.index) + 1)) (fun e => by rw [e] at hjn; simp at hjn) (by simp) (next_ok hk (by omega))
     have hbk : X.backed f m.index = { X with next := X.next.set f (max q (min (k - 1) m.index) + 1) } := by unfold RN.backed; rw [hgk, hgq]
     rw [hbk] at hQ'
     rw [hvm, hvn] at ex1
     simp only [go_sem, r_raft_Node_logTell_2, cM']
     refine wc_ite (b := true) (by simp only [go_sem] <;> rfl) (fun _ => ?_) (fun h => by cases h)
     simp only [go_sem, ex1, hcn, hjn', hhn, hcm, hjm', hhm, w0', minmaxL, minmaxV, hmn, hmx, w1, hfit, hsp]
     generalize S1.set L.on (.cells _) = S2 at *
     refine wi_call ?_
     simp only [go_sem]
     refine tellOne_runs a1.w hr hf (by show X.out.length < _; omega) fun S4 L4 a4 => ?_
     simp only [go_sem]
     exact hQ' S4 L4 (a1.trans a4)
    ·rw [hok] at cM' hQ'
     rw [if_neg (by simp)] at hQ'
     have hml := (hk.lead hr).2
     obtain ⟨q, hqq⟩ : ∃ q, X.mat[f]? = some q := ⟨_, List.getElem?_eq_getElem (by omega)⟩
     have hgq : X.mat.getD f 0 = q := by rw [List.getD_eq_getElem?_getD, hqq]; rfl
     obtain ⟨hvm, hcm, hom, hjm, hhm⟩ := row_at h1.vm hqq
     have hjm' : (f < X.mat.length) = True := eq_true hjm
     have p3 : decide ((m.index : Int) > (q : Int)) = decide (q < m.index) := decide_eq_decide.mpr (by omega)
     rw [hvm] at ex1
     simp only [go_sem, r_raft_Node_logTell_2, cM']
     refine wc_ite (b := false) (by simp only [go_sem] <;> rfl) (fun h => by cases h) (fun _ => ?_)
     simp only [go_sem, r_raft_Node_logTell_1, ex1, hcm, hjm', hhm, p3]
     exact tell_ok (i := m.index) h1 hf hR hr (by omega) (by simp only [go_sem]) (by simp only [go_sem]) (by simp only [go_sem]) (by simp only [go_sem]; rw [hgq]) hQ'
   ·rw [b2] at p2
    have hix := of_decide_eq_true b2
    rw [if_pos (.inr (.inr hix))] at hQ'
    refine RSim.run mixed k_raft_Node_logTell ?_ (by simp)
    simp only [b_raft_Node_logTell, go_sem, ex1, hone, cv, cM', p0, p1, p2]
    refine wc_ite (b := true) (by simp only [go_sem] <;> rfl) (fun _ => ?_) (fun h => by cases h)
    simp only [go_sem]
    exact hQ' _ L (RAft.refl h1)
  ·rw [b1] at p1
   have ht : m.term ≠ X.term := by simpa using b1
   rw [if_pos (.inr (.inl ht))] at hQ'
   refine RSim.run mixed k_raft_Node_logTell ?_ (by simp)
   simp only [b_raft_Node_logTell, go_sem, ex1, hone, cv, cM', p0, p1]
   refine wc_ite (b := true) (by simp only [go_sem] <;> rfl) (fun _ => ?_) (fun h => by cases h)
   simp only [go_sem]
   exact hQ' _ L (RAft.refl h1)
 ·rw [b0] at p0
  have hr : X.role ≠ 2 := by simpa using b0
  rw [if_pos (.inl hr)] at hQ'
  refine RSim.run mixed k_raft_Node_logTell ?_ (by simp)
  simp only [b_raft_Node_logTell, go_sem, ex1, hone, cv, cM', p0]
  refine wc_ite (b := true) (by simp only [go_sem] <;> rfl) (fun _ => ?_) (fun h => by cases h)
  simp only [go_sem]
  exact hQ' _ L (RAft.refl h1)
end Go.VM
namespace Go.VM
open Go Go.RowKit Go.Proofs
def tellM (ok : Bool) (i : Nat) : Ms := ⟨4, ok, 0, i, 0, 0, []⟩
theorem tellM_ok (b : Bool) {i : Nat} (h : i < 18446744073709551616) : (tellM b i).Ok := ⟨show 4 < 256 by decide, show 0 < 18446744073709551616 by decide, h, show 0 < 18446744073709551616 by decide, show 0 < 18446744073709551616 by decide, show 0 ≤ 1000000 by decide, fun x hx => by cases hx⟩
def mergeL (l : List LE) (b : Nat) : List LE → List LE × List (List UInt8)
 | [] => (l, [])
 | x :: r => if b + 1 ≤ l.length ∧ lastT l (b + 1) = x.t then mergeL l (b + 1) r else ((mergeL (l.take b ++ [x]) (b + 1) r).1, recE (b + 1) x :: (mergeL (l.take b ++ [x]) (b + 1) r).2)
def RN.upto (X : RN) (e c : Nat) : RN := { X with commit := max X.commit (min c e) }
def RN.grown (X : RN) (l : List LE) (rs : List (List UInt8)) : Int × RN := if rs = [] then (0, { X with log := l }) else ({ X with log := l } : RN).keep rs
def RN.log2 (X : RN) (f : Nat) (m : Ms) (l : List LE) (rs : List (List UInt8)) : Int × RN :=
 if (X.grown l rs).1 ≠ 0 then X.grown l rs else (0, ((X.grown l rs).2.upto (m.index + m.ents.length) m.commit).sent f (tellM true (m.index + m.ents.length)))
def RN.log3 (X : RN) (f : Nat) (m : Ms) : Int × RN :=
 if X.log.length < m.index ∨ lastT X.log m.index ≠ m.at_ then (0, X.sent f (tellM false (min X.log.length (max m.index 1 - 1)))) else X.log2 f m (mergeL X.log m.index m.ents).1 (mergeL X.log m.index m.ents).2
def RN.logAsk (X : RN) (f : Nat) (m : Ms) : Int × RN :=
 if m.term < X.term then (0, X.sent f (tellM false X.log.length)) else if X.role = 2 then (0, X) else if (X.follow m.term f).1 ≠ 0 then X.follow m.term f else (X.follow m.term f).2.rest.log3 f m
theorem logx_ok {X : RN} (h : X.Ok) (hr : X.role ≠ 2) {l : List LE} (hl : l.length ≤ 1000000) (hx : ∀ x ∈ l, x.Ok) : ({ X with log := l } : RN).Ok :=
 ⟨h.n0, h.n5, h.me, h.term, h.v0, h.vn, hx, hl, h.cm, h.role, h.h0, h.hn, h.cand, fun e => absurd e hr, fun k hk => ⟨(h.next k hk).1, fun e => absurd e hr, (h.next k hk).2.2⟩, fun k hk => ⟨fun e => absurd e hr, (h.mat k hk).2⟩, h.idle, h.limit, h.draw, h.out, h.rl⟩
theorem upto_ok {X : RN} (h : X.Ok) {e c : Nat} (he : e ≤ 1000000) : (X.upto e c).Ok :=
 ⟨h.n0, h.n5, h.me, h.term, h.v0, h.vn, h.log, h.ll, by have := h.cm; simp only [RN.upto]; omega, h.role, h.h0, h.hn, h.cand, h.lead, h.next, h.mat, h.idle, h.limit, h.draw, h.out, h.rl⟩
theorem log_end {w0 : World} {S : St} {Q : AEnd → St → Prop} {L : RL} {X : RN} {f M : Nat} {m : Ms} {ve : V} {te : Tok} {fr : Fr} (h : RaftAt S L X) (hm : m.Ok) (hE : IsSlice LER 2 ve m.ents te) (hi : m.index + m.ents.length ≤ 1000000) (ho : X.out.length < 1000000)
  (cM : S.cells M = some (m.v ve)) (f0 : fr 0 = .ptr (some (L.r, 0))) (f1 : fr 1 = .int .i64 (f : Nat)) (f5 : fr 5 = .ptr (some (M, 0)))
  (hQ : ∀ S' L', RAft S L X S' L' ((X.upto (m.index + m.ents.length) m.commit).sent f (tellM true (m.index + m.ents.length))) → Q (.ret (.int .i64 0)) S') : wCode (RSim Try.prog w0) r_raft_Node_logAsk_1 fr S (resQ [.tmp 6] Q) := by
 have ex := h.ex
 have hk := h.ok
 have hcm := hk.cm
 obtain ⟨ce, rfl⟩ := hE.len
 have c1 : ∀ S, V.conv S (.int .i64) (.int .u64 (m.index : Int)) = some (.int .i64 (m.index : Int)) := fun S => by simp only [V.conv]; rw [w64 (by omega) (by omega)]
 have w1 : IntKind.i64.wrap ((m.index : Int) + (m.ents.length : Int)) = ((m.index + m.ents.length : Nat) : Int) := by rw [w64 (by omega) (by omega)]; omega
 have c2 : ∀ S, V.conv S (.int .u64) (.int .i64 ((m.index + m.ents.length : Nat) : Int)) = some (.int .u64 ((m.index + m.ents.length : Nat) : Int)) := fun S => by simp only [V.conv]; rw [wu64 (by omega) (by omega)]
 have hmn := iteMin m.commit (m.index + m.ents.length)
 have hmle : min m.commit (m.index + m.ents.length) ≤ 1000000 := by omega
 have c3 : ∀ S, V.conv S (.int .i64) (.int .u64 ((min m.commit (m.index + m.ents.length) : Nat) : Int)) = some (.int .i64 ((min m.commit (m.index + m.ents.length) : Nat) : Int)) := fun S => by simp only [V.conv]; rw [w64 (by omega) (by omega)]
 have hmx := iteMax X.commit (min m.commit (m.index + m.ents.length))
 have a := h.put (X' := { X with commit := max X.commit (min m.commit (m.index + m.ents.length)) }) rfl rfl rfl rfl rfl rfl rfl (upto_ok hk hi) rfl
 unfold RN.cells at ex a
 unfold Ms.v at cM
 simp only [r_raft_Node_logAsk_1, go_sem, f0, f1, f5, cM, c1, w1, ex, c2, minmaxL, minmaxV, hmn, c3, hmx]
 generalize S.set L.r (.cells _) = S1 at *
 refine wi_call ?_
 simp only [go_sem]
 refine send_runs (m := tellM true (m.index + m.ents.length)) (ve := .sl [] 0 2 .nil) (te := .nil) a.w (tellM_ok true (by omega)) (isSlice_nil LER 2) ho fun S' L' a' => ?_
 simp only [go_sem]
 exact hQ S' L' (a.trans a')
theorem log_keep {w0 : World} {S : St} {Q : AEnd → St → Prop} {L : RL} {X : RN} {f M : Nat} {m : Ms} {ve vr : V} {te tr : Tok} {fr : Fr} {l : List LE} {rs : List (List UInt8)} (h : RaftAt S L { X with log := l }) (hr : X.role ≠ 2) (hm : m.Ok) (hE : IsSlice LER 2 ve m.ents te) (hi : m.index + m.ents.length ≤ 1000000) (ho : X.out.length < 1000000)
  (hB : IsSlice BytesR 1 vr rs tr) (hs : ∀ r ∈ rs, r.length ≤ 65535) (hrl : X.R.length + rs.length ≤ 1000000) (hMo : ¬ (Res.raft L { X with log := l }).own M) (hMl : M < S.n)
  (cM : S.cells M = some (m.v ve)) (f0 : fr 0 = .ptr (some (L.r, 0))) (f1 : fr 1 = .int .i64 (f : Nat)) (f5 : fr 5 = .ptr (some (M, 0))) (f8 : fr 8 = vr)
  (hQ : ∀ S' L', RAft S L { X with log := l } S' L' (X.log2 f m l rs).2 → Q (.ret (.int .i64 (X.log2 f m l rs).1)) S') : wCode (RSim Try.prog w0) s_raft_Node_logAsk_0 fr S (resQ [.tmp 6] Q) := by
 obtain ⟨cr, rfl⟩ := hB.len
 have p1 : decide ((rs.length : Int) > 0) = decide (0 < rs.length) := decide_eq_decide.mpr (by omega)
 simp only [s_raft_Node_logAsk_0, go_sem, f8, p1]
 unfold RN.log2 RN.grown at hQ
 refine wc_ite (b := decide (0 < rs.length)) (by simp only [go_sem]) (fun hc => ?_) (fun hc => ?_)
 ·have hlt := of_decide_eq_true hc
  have hne : rs ≠ [] := fun e => by rw [e] at hlt; simp at hlt
  rw [if_neg hne] at hQ
  simp only [go_sem, f0, f8]
  refine wi_call ?_
  simp only [go_sem]
  refine keep_runs (l := rs) (tl := tr) h hB hs hrl fun S1 L1 a1 => ?_
  by_cases e0 : (({ X with log := l } : RN).keep rs).1 = 0
  ·have qe : ((({ X with log := l } : RN).keep rs).1 != 0) = false := by rw [e0]; rfl
   rw [if_neg (by rw [e0]; simp)] at hQ
   have hout : (({ X with log := l } : RN).keep rs).2.out.length < 1000000 := by
    rcases keep_fields ({ X with log := l } : RN) rs with ⟨_, D', R', hf'⟩ | ⟨hne, _⟩
    ·rw [hf']; exact ho
    ·exact absurd e0 hne
   simp only [go_sem, qe]
   refine wc_ite (b := false) (by simp only [go_sem] <;> rfl) (fun h => by cases h) (fun _ => ?_)
   have hr1 : L1.r = L.r := a1.2.1
   have cM1 := a1.1.k.cells cM hMl hMo
   refine log_end (f := f) (M := M) (m := m) (ve := ve) (te := te) a1.w hm hE hi hout cM1 (by simp only [go_sem, f0, hr1]) (by simp only [go_sem, f1]) (by simp only [go_sem, f5]) fun S' L' a => ?_
   exact hQ S' L' (a1.trans a)
  ·have qe : ((({ X with log := l } : RN).keep rs).1 != 0) = true := by simpa using e0
   rw [if_pos e0] at hQ
   simp only [go_sem, qe]
   refine wc_ite (b := true) (by simp only [go_sem] <;> rfl) (fun _ => ?_) (fun h => by cases h)
   simp only [go_sem]
   exact hQ S1 L1 a1
 ·have hlt := of_decide_eq_false hc
  have hne : rs = [] := List.eq_nil_of_length_eq_zero (by omega)
  rw [if_pos hne, if_neg (by simp)] at hQ
  refine log_end (f := f) (M := M) (m := m) (ve := ve) (te := te) h hm hE hi ho cM (by simp only [go_sem, f0]) (by simp only [go_sem, f1]) (by simp only [go_sem, f5]) fun S' L' a => ?_
  exact hQ S' L' a
theorem cut_log {v : V} {l : List LE} {t : Tok} (h : IsSlice LER 2 v l t) {b : Nat} (hb : b ≤ l.length) (i j : Nat) :
  ∃ v' t', (∀ fr : Fr, (fr i).idx = some b → (fr j).idx = some b → sliceV fr 2 none (some (.t i)) (some (.t j)) v = some v') ∧ IsSlice LER 2 v' (l.take b) t' ∧ (t' = .nil ∨ t' = .cap) := by
 obtain ⟨cs, rfl⟩ := h.len
 by_cases hn : t = .nil
 ·subst hn
  have hl : l = [] := by obtain ⟨_, _, hn, _⟩ := h.ex; exact hn rfl
  have hb0 : b = 0 := by rw [hl] at hb; simpa using hb
  subst hb0
  refine ⟨.sl cs l.length 2 .nil, .nil, fun fr h1 h2 => ?_, by rw [hl] at h ⊢; exact h, .inl rfl⟩
  simp only [sliceV, bounds_hi, Arg.ev, h1, Option.bind_some, hb, if_true, Option.isSome_some, h2]
 ·refine ⟨.sl ((cs.drop (0 * 2)).take ((b - 0) * 2)) (b - 0) 2 .cap, .cap, fun fr h1 h2 => ?_, ?_, .inr rfl⟩
  ·simp only [sliceV, bounds_hi, Arg.ev, h1, Option.bind_some, hb, if_true, hn, if_false, ne_eq, not_true_eq_false, h2]
  ·have := h.part (Nat.zero_le b) hb (t' := .cap) (by simp)
   simpa using this
theorem ent_app {w0 : World} {S : St} {Qc : CPost} {L : RL} {X : RN} {b O : Nat} {x : LE} {dv vr : V} {tr : Tok} {rs : List (List UInt8)} {fr : Fr} (hH : Hold S [Res.raft L X, Res.list BytesR 1 vr rs tr]) (hr : X.role ≠ 2) (hb : b ≤ X.log.length) (hbl : b + 1 ≤ 1000000) (hx : x.Ok) (hdv : IsBytes dv x.d) (hrs : rs.length ≤ 1000000)
  (cO : S.cells O = some [.int .u64 (x.t : Nat), dv]) (f0 : fr 0 = .ptr (some (L.r, 0))) (f8 : fr 8 = vr) (f10 : fr 10 = .ptr (some (O, 0))) (f11 : fr 11 = .int .i64 ((b + 1 : Nat) : Int))
  (hQ : ∀ fr' S' L' vr' tr', Aft S (Res.all [Res.raft L X, Res.list BytesR 1 vr rs tr]) S' (Res.all [Res.raft L' { X with log := X.log.take b ++ [x] }, Res.list BytesR 1 vr' (rs ++ [recE (b + 1) x]) tr']) → (L'.r = L.r ∧ L'.i = L.i) → fr' 8 = vr' →
   (fr' 0 = fr 0 ∧ fr' 1 = fr 1 ∧ fr' 5 = fr 5 ∧ fr' 81 = fr 81 ∧ fr' 82 = fr 82 ∧ fr' 83 = fr 83) → Qc .normal fr' S') : wCode (RSim Try.prog w0) r_raft_Node_logAsk_0 fr S Qc := by
 have h : RaftAt S L X := hH.1
 have hk := h.ok
 have ex := h.ex
 have hdo := hdv.one
 have hdc := cells_one hdo
 obtain ⟨v', t', hcut, hE', ht'⟩ := cut_log h.lg.1 hb 115 117
 have w1 : IntKind.i64.wrap (((b + 1 : Nat) : Int) - 1) = ((b : Nat) : Int) := by rw [w64 (by omega) (by omega)]; omega
 have i1 : (V.int .i64 (b : Int)).idx = some b := by simp [V.idx]
 have hlen : (X.log.take b).length = b := by rw [List.length_take]; omega
 have okl : ∀ y ∈ X.log.take b ++ [x], y.Ok := fun y hy => (List.mem_append.1 hy).elim (fun hy => hk.log y (List.mem_of_mem_take hy)) fun hy => by rw [List.mem_singleton.1 hy]; exact hx
 have ok' := logx_ok hk hr (l := X.log.take b ++ [x]) (by simp only [List.length_append, hlen, List.length_cons, List.length_nil]; omega) okl
 have htk : TokOk S t' := by rcases ht' with rfl | rfl <;> trivial
 have hno : ∀ j, ¬ tokOwn t' j := fun j hj => by rcases ht' with rfl | rfl <;> cases hj
 have exX := ex
 unfold RN.cells at ex
 simp only [r_raft_Node_logAsk_0, go_sem, f0, f10, f11, ex, w1, i1, hcut, cO, hdo, hdc]
 refine wi_appendR (v := v') (l := X.log.take b) (y := x) (c := [.int .u64 (x.t : Nat), dv]) (by simp only [go_sem]) hE' (by simp only [go_sem]; rfl) rfl ⟨dv, rfl, hdv⟩ (by rw [hlen]; omega) htk fun tl' S2 vl' hE2 k2 ht2 hn2 hne2 => ?_
 have k2F : Keeps (fun _ => False) S S2 := k2.mono fun j _ hj => hno j hj
 have a2 := h.setLog (log' := X.log.take b ++ [x]) (k2.mono fun j _ hj => (hno j hj).elim) hE2 ht2 hn2 ok' rfl
 have ex2 := k2F.cells exX h.lt _root_.id
 obtain ⟨cl2, hvl2⟩ := hE2.len
 subst hvl2
 unfold RN.cells at ex2 a2
 simp only [go_sem, ex2, f0, f8, f11]
 generalize S2.set L.r (.cells _) = S3 at *
 have A1 := Aft.part hH (List.Perm.refl _) a2.1 (List.Perm.refl _)
 refine wi_call ?_
 simp only [go_sem]
 refine record_runs (L := { L with vl := .sl cl2 (X.log.take b ++ [x]).length 2 tl', tl := tl' }) (i := b + 1) (x := x) a2.w (by omega) (by show (X.log.take b ++ [x])[b + 1 - 1]? = some x; rw [List.getElem?_append_right (by rw [hlen]; omega), hlen]; simp) fun S4 v4 b4 k4 => ?_
 have A2 := A1.trans (Aft.new A1.p k4)
 have hone4 := b4.is.one
 have hcl4 := cells_one hone4
 have hp4 := A2.p
 obtain ⟨hB4, htr4⟩ : IsSlice BytesR 1 vr rs tr ∧ TokOk S4 tr := hp4.2.2.1
 simp only [go_sem, hone4, hcl4]
 refine wi_appendR (v := vr) (l := rs) (y := recE (b + 1) x) (c := [v4]) (by simp only [go_sem, f8]) hB4 (by simp only [go_sem]; rfl) rfl ⟨v4, rfl, b4.is⟩ (by omega) htr4 fun tr' S5 vr' hB5 k5 ht5 hn5 hne5 => ?_
 have a5 : Aft S4 (Res.list BytesR 1 vr rs tr) S5 (Res.list BytesR 1 vr' (rs ++ [recE (b + 1) x]) tr') := ⟨⟨hB5, ht5⟩, k5.mono fun j _ hj => hj, fun j hj => .inr (hn5 j hj)⟩
 have A3 := A2.trans (Aft.part hp4 (List.Perm.swap _ _ _) a5 (List.Perm.swap _ _ _))
 simp only [go_sem]
 exact hQ _ S5 _ vr' tr' A3 ⟨rfl, rfl⟩ (by simp only [go_sem]) ⟨by simp only [go_sem], by simp only [go_sem], by simp only [go_sem], by simp only [go_sem], by simp only [go_sem], by simp only [go_sem]⟩
theorem mergeL_go {l : List LE} {b : Nat} {x : LE} {r : List LE} (h : b + 1 ≤ l.length ∧ lastT l (b + 1) = x.t) : mergeL l b (x :: r) = mergeL l (b + 1) r := if_pos h
theorem mergeL_new {l : List LE} {b : Nat} {x : LE} {r : List LE} (h : ¬ (b + 1 ≤ l.length ∧ lastT l (b + 1) = x.t)) : mergeL l b (x :: r) = ((mergeL (l.take b ++ [x]) (b + 1) r).1, recE (b + 1) x :: (mergeL (l.take b ++ [x]) (b + 1) r).2) := if_neg h
theorem log_loop {w0 : World} {S : St} {Q : AEnd → St → Prop} {L : RL} {X : RN} {f M : Nat} {m : Ms} {ve : V} {te : Tok} {fr : Fr} (h : RaftAt S L X) (hr : X.role ≠ 2) (hm : m.Ok) (hE : IsSlice LER 2 ve m.ents te) (hi : m.index ≤ X.log.length) (h16 : m.ents.length ≤ 16) (hll : X.log.length + 16 ≤ 1000000) (hRr : X.R.length + 16 ≤ 1000000) (ho : X.out.length < 1000000)
  (cM : S.cells M = some (m.v ve)) (lM : M < S.n) (hMo : ¬ (Res.raft L X).own M) (f0 : fr 0 = .ptr (some (L.r, 0))) (f1 : fr 1 = .int .i64 (f : Nat)) (f5 : fr 5 = .ptr (some (M, 0)))
  (hQ : ∀ S' L', RAft S L X S' L' (X.log2 f m (mergeL X.log m.index m.ents).1 (mergeL X.log m.index m.ents).2).2 → Q (.ret (.int .i64 (X.log2 f m (mergeL X.log m.index m.ents).1 (mergeL X.log m.index m.ents).2).1)) S') :
  wCode (RSim Try.prog w0) r_raft_Node_logAsk_2 fr S (resQ [.tmp 6] Q) := by
 obtain ⟨cm, hve⟩ := hE.len
 have hEat := fun {j : Nat} {x : LE} (hx : m.ents[j]? = some x) => hE.at_ hx
 have hE0 := hE
 subst hve
 have cM0 := cM
 unfold Ms.v at cM
 simp only [r_raft_Node_logAsk_2, go_sem, f5, cM]
 have start : Aft S (Res.raft L X) S (Res.all [Res.raft L { X with log := X.log }, Res.list BytesR 1 (.sl [] 0 1 .nil) [] .nil]) :=
  ⟨⟨h, (fun y hy j _ hyj => (by rw [List.mem_singleton.1 hy] at hyj; cases hyj)), ⟨isSlice_nil BytesR 1, trivial⟩, (fun y hy => (by cases hy)), trivial⟩, Keeps.refl _ _, fun j hj => by
   obtain ⟨z, hz, hj⟩ := hj
   rcases List.mem_cons.1 hz with rfl | hz
   ·exact .inl hj
   ·rw [List.mem_singleton.1 hz] at hj; cases hj⟩
 refine loop_rule RSim.le (k := m.ents.length) (fun q fr Sa => ∃ (j : Nat) (La : RL) (la : List LE) (rs : List (List UInt8)) (vr : V) (tr : Tok), q = m.ents.length - j ∧ j ≤ m.ents.length ∧ fr 0 = .ptr (some (L.r, 0)) ∧ fr 1 = .int .i64 (f : Nat) ∧ fr 5 = .ptr (some (M, 0)) ∧ fr 8 = vr ∧
   fr 81 = .sl cm m.ents.length 2 te ∧ fr 82 = .int .i64 (m.ents.length : Nat) ∧ fr 83 = .int .i64 (j : Nat) ∧ Aft S (Res.raft L X) Sa (Res.all [Res.raft La { X with log := la }, Res.list BytesR 1 vr rs tr]) ∧ (La.r = L.r ∧ La.i = L.i) ∧
   m.index + j ≤ la.length ∧ la.length ≤ X.log.length + j ∧ rs.length ≤ j ∧ (∀ r ∈ rs, r.length ≤ 65535) ∧ mergeL X.log m.index m.ents = ((mergeL la (m.index + j) (m.ents.drop j)).1, rs ++ (mergeL la (m.index + j) (m.ents.drop j)).2)) ?_
  ⟨0, L, X.log, [], _, .nil, rfl, Nat.zero_le _, by simp only [go_sem, f0], by simp only [go_sem, f1], by simp only [go_sem, f5], by simp only [go_sem], by simp only [go_sem], by simp only [go_sem], by simp only [go_sem]; rfl, start, ⟨rfl, rfl⟩, hi, Nat.le_refl _, Nat.le_refl _, fun r hr => (by cases hr), rfl⟩
 rintro q fr Sa ⟨j, La, la, rs, vr, tr, hq, hj, g0, g1, g5, g8, g81, g82, g83, aA, ⟨hLr, hLi⟩, hil, hla, hrl, hrs, hmg⟩
 have cMa := aA.k.cells cM0 lM hMo
 have lMa := aA.k.lt lM
 have hA : RaftAt Sa La { X with log := la } := aA.p.1
 simp only [l_raft_Node_logAsk_0, go_sem, g82, g83]
 refine wc_ite (b := decide ((j : Int) < (m.ents.length : Int))) (by simp only [go_sem]) (fun hc => ?_) (fun hc => ?_)
 ·have hlt : j < m.ents.length := by have := of_decide_eq_true hc; omega
  obtain ⟨x, hx⟩ : ∃ x, m.ents[j]? = some x := ⟨_, List.getElem?_eq_getElem hlt⟩
  obtain ⟨cs, c, e1, hne, hjl, ht, hcl, hc2, dv, rfl, hdv⟩ := hEat hx
  injection e1 with e1 _
  subst e1
  have hxo := hm.ents x (List.mem_of_getElem? hx)
  have hjt : (j < m.ents.length) = True := eq_true hlt
  have htn : (te = .nil) = False := eq_false hne
  have hdo := hdv.one
  have hdc := cells_one hdo
  have w1 : IntKind.i64.wrap ((j : Int) + 1) = ((j + 1 : Nat) : Int) := by rw [w64 (by omega) (by omega)]; omega
  have w2 : IntKind.i64.wrap ((m.index : Int) + (j : Int)) = ((m.index + j : Nat) : Int) := by rw [w64 (by omega) (by omega)]; omega
  have w3 : IntKind.i64.wrap (((m.index + j : Nat) : Int) + 1) = ((m.index + j + 1 : Nat) : Int) := by rw [w64 (by omega) (by omega)]; omega
  have cv : ∀ S, V.conv S (.int .i64) (.int .u64 (m.index : Int)) = some (.int .i64 (m.index : Int)) := fun S => by simp only [V.conv]; rw [w64 (by omega) (by omega)]
  have hdr : m.ents.drop j = x :: m.ents.drop (j + 1) := by
   rw [List.drop_eq_getElem_cons hlt]
   congr 1
   exact (List.getElem?_eq_some_iff.1 hx).2
  rw [hdr] at hmg
  -- the entry in a box
  have kB : Keeps (fun _ => False) Sa ((Sa.add (.cells [.int .u64 0, .sl [] 0 1 .nil])).set Sa.n (.cells [.int .u64 (x.t : Nat), dv])) := ((Keeps.refl _ Sa).add _).set (.inr (Nat.le_refl _)) _
  have cB : ((Sa.add (.cells [.int .u64 0, .sl [] 0 1 .nil])).set Sa.n (.cells [.int .u64 (x.t : Nat), dv])).cells Sa.n = some [.int .u64 (x.t : Nat), dv] := by rw [cells_setc, if_pos rfl]
  have hMn : ¬ M = Sa.n := by omega
  have cMB := kB.cells cMa lMa _root_.id
  have aB := aA.trans (Aft.new aA.p kB)
  have hB : RaftAt _ La { X with log := la } := aB.p.1
  have exB := hB.ex
  obtain ⟨hEl, _⟩ := hB.lg
  obtain ⟨ce, he⟩ := hEl.len
  rw [hLr] at exB
  unfold RN.cells at exB
  rw [he] at exB
  simp only at exB
  unfold Ms.v at cMB
  have p1 : decide (((m.index + j + 1 : Nat) : Int) ≤ (la.length : Int)) = decide (m.index + j + 1 ≤ la.length) := decide_eq_decide.mpr (by omega)
  have p2 : ((lastT la (m.index + j + 1) : Int) == (x.t : Int)) = decide (lastT la (m.index + j + 1) = x.t) := by rw [Bool.eq_iff_iff, beq_iff_eq, decide_eq_true_iff]; omega
  -- what is new
  have app : ∀ (fr2 : Fr) (Qc : CPost), ¬ (m.index + j + 1 ≤ la.length ∧ lastT la (m.index + j + 1) = x.t) → fr2 0 = .ptr (some (L.r, 0)) → fr2 8 = vr → fr2 10 = .ptr (some (Sa.n, 0)) → fr2 11 = .int .i64 ((m.index + j + 1 : Nat) : Int) →
    (∀ fr' S' L' vr' tr' rs' l', Aft S (Res.raft L X) S' (Res.all [Res.raft L' { X with log := l' }, Res.list BytesR 1 vr' rs' tr']) → (L'.r = L.r ∧ L'.i = L.i) → m.index + (j + 1) ≤ l'.length → l'.length ≤ X.log.length + (j + 1) → rs'.length ≤ j + 1 → (∀ r ∈ rs', r.length ≤ 65535) →
     mergeL X.log m.index m.ents = ((mergeL l' (m.index + (j + 1)) (m.ents.drop (j + 1))).1, rs' ++ (mergeL l' (m.index + (j + 1)) (m.ents.drop (j + 1))).2) → fr' 8 = vr' →
     (fr' 0 = fr2 0 ∧ fr' 1 = fr2 1 ∧ fr' 5 = fr2 5 ∧ fr' 81 = fr2 81 ∧ fr' 82 = fr2 82 ∧ fr' 83 = fr2 83) → Qc .normal fr' S') →
    wCode (RSim Try.prog w0) r_raft_Node_logAsk_0 fr2 ((Sa.add (.cells [.int .u64 0, .sl [] 0 1 .nil])).set Sa.n (.cells [.int .u64 (x.t : Nat), dv])) Qc := by
   intro fr2 Qc hnew q0 q8 q10 q11 hQc
   rw [mergeL_new hnew] at hmg
   refine ent_app (L := La) (X := { X with log := la }) (b := m.index + j) (O := Sa.n) (x := x) (dv := dv) (vr := vr) (tr := tr) (rs := rs) aB.p hr (by show m.index + j ≤ la.length; omega) (by omega) hxo hdv (by omega) cB (by rw [q0, hLr]) q8 q10 q11 fun fr' S' L' vr' tr' A hLr' h8 hfr => ?_
   have hlen : (la.take (m.index + j)).length = m.index + j := by rw [List.length_take]; omega
   refine hQc fr' S' L' vr' tr' (rs ++ [recE (m.index + j + 1) x]) (la.take (m.index + j) ++ [x]) (aB.trans A) ⟨hLr'.1.trans hLr, hLr'.2.trans hLi⟩ ?_ ?_ ?_ ?_ ?_ h8 hfr
   ·rw [List.length_append, hlen, List.length_singleton]; omega
   ·rw [List.length_append, hlen, List.length_singleton]; omega
   ·rw [List.length_append, List.length_singleton]; omega
   ·intro r hr
    rcases List.mem_append.1 hr with hr | hr
    ·exact hrs r hr
    ·rw [List.mem_singleton.1 hr]
     have := recE_len (i := m.index + j + 1) hxo (by omega)
     omega
   ·rw [hmg, List.append_assoc]; rfl
  generalize hSB : (Sa.add (.cells [.int .u64 0, .sl [] 0 1 .nil])).set Sa.n (.cells [.int .u64 (x.t : Nat), dv]) = SB at *
  cases b1 : decide (m.index + j + 1 ≤ la.length)
  ·rw [b1] at p1
   simp only [go_sem, k_raft_Node_logAsk_0, g0, g5, g81, g83, hjt, htn, ht, hdo, hdc, hSB, cMB, cv, w2, w3, exB, p1]
   refine wc_ite (b := false) (by simp only [go_sem] <;> rfl) (fun h => by cases h) (fun _ => ?_)
   refine app _ _ (fun hh => (of_decide_eq_false b1) hh.1) (by simp only [go_sem, g0]) (by simp only [go_sem, g8]) (by simp only [go_sem]) (by simp only [go_sem]) fun fr' S' L' vr' tr' rs' l' A hLr' i1 i2 i3 i4 i5 h8 hfr => ?_
   obtain ⟨e0, e1, e5, e81, e82, e83⟩ := hfr
   simp only [go_sem, g0, g1, g5, g81, g82, g83] at e0 e1 e5 e81 e82 e83
   simp only [go_sem, e83, w1]
   exact ⟨m.ents.length - (j + 1), by omega, j + 1, L', l', rs', vr', tr', rfl, by omega, e0, e1, e5, h8, e81, e82, rfl, A, hLr', i1, i2, i3, i4, i5⟩
  ·rw [b1] at p1
   have hle := of_decide_eq_true b1
   simp only [go_sem, k_raft_Node_logAsk_0, g0, g5, g81, g83, hjt, htn, ht, hdo, hdc, hSB, cMB, cv, w2, w3, exB, p1, cB]
   refine wi_call ?_
   simp only [go_sem]
   rw [← hLr]
   refine last_runs (i := ((m.index + j + 1 : Nat) : Int)) hB (by omega) (by omega) ?_
   rw [Int.toNat_natCast, hLr]
   cases b2 : decide (lastT la (m.index + j + 1) = x.t)
   ·rw [b2] at p2
    simp only [go_sem, cB, p2]
    refine wc_ite (b := false) (by simp only [go_sem] <;> rfl) (fun h => by cases h) (fun _ => ?_)
    refine app _ _ (fun hh => (of_decide_eq_false b2) hh.2) (by simp only [go_sem, g0]) (by simp only [go_sem, g8]) (by simp only [go_sem]) (by simp only [go_sem]) fun fr' S' L' vr' tr' rs' l' A hLr' i1 i2 i3 i4 i5 h8 hfr => ?_
    obtain ⟨e0, e1, e5, e81, e82, e83⟩ := hfr
    simp only [go_sem, g0, g1, g5, g81, g82, g83] at e0 e1 e5 e81 e82 e83
    simp only [go_sem, e83, w1]
    exact ⟨m.ents.length - (j + 1), by omega, j + 1, L', l', rs', vr', tr', rfl, by omega, e0, e1, e5, h8, e81, e82, rfl, A, hLr', i1, i2, i3, i4, i5⟩
   ·rw [b2] at p2
    rw [mergeL_go ⟨hle, of_decide_eq_true b2⟩] at hmg
    simp only [go_sem, cB, p2]
    refine wc_ite (b := true) (by simp only [go_sem] <;> rfl) (fun _ => ?_) (fun h => by cases h)
    simp only [go_sem, g83, w1]
    exact ⟨m.ents.length - (j + 1), by omega, j + 1, La, la, rs, vr, tr, rfl, by omega, g0, g1, g5, g8, g81, g82, rfl, aB, ⟨hLr, hLi⟩, by omega, by omega, by omega, hrs, hmg⟩
 ·have hje : j = m.ents.length := by have := of_decide_eq_false hc; omega
  subst hje
  rw [List.drop_length] at hmg
  have hm1 : (mergeL X.log m.index m.ents).1 = la := by rw [hmg]; rfl
  have hm2 : (mergeL X.log m.index m.ents).2 = rs := by rw [hmg]; exact List.append_nil _
  rw [hm1, hm2] at hQ
  have hMn2 : ¬ (Res.raft La { X with log := la }).own M := fun hh => by
   rcases aA.o M ⟨_, by simp, hh⟩ with h1 | h1
   ·exact hMo h1
   ·omega
  have hBs : IsSlice BytesR 1 vr rs tr ∧ TokOk Sa tr := aA.p.2.2.1
  simp only [go_sem]
  refine log_keep (L := La) (f := f) (M := M) (m := m) (ve := .sl cm m.ents.length 2 te) (te := te) hA hr hm hE0 (by omega) ho hBs.1 hrs (by omega) hMn2 lMa cMa (by simp only [go_sem, g0, hLr]) (by simp only [go_sem, g1]) (by simp only [go_sem, g5]) (by simp only [go_sem, g8]) fun S' L' a => ?_
  exact hQ S' L' ⟨⟨a.1.p, aA.k.trans a.1.k fun j hj ho => (aA.o j ⟨_, List.mem_cons_self .., ho⟩).elim (fun h => h) fun h => by omega, fun j hj => (a.1.o j hj).elim (fun h => aA.o j ⟨_, List.mem_cons_self .., h⟩) fun h => .inr (Nat.le_trans aA.k.n h)⟩, a.2.1.trans hLr, a.2.2.trans hLi⟩
theorem keepL_len : ∀ (l : List (List UInt8)) (D : DS) (R : List (List UInt8)), (keepL l D R).2.2.length ≤ R.length + l.length
 | [], D, R => Nat.le_refl _
 | p :: l, D, R => by
  unfold keepL
  split
  ·exact Nat.le_add_right _ _
  ·have := keepL_len l (D.grow raftN (frameB p) false).2 (R ++ [p])
   simp only [List.length_append, List.length_cons, List.length_nil] at this ⊢
   omega
theorem follow_fields (X : RN) (t : Nat) (hd : Int) (h : (X.follow t hd).1 = 0) : ∃ D R tm vt, (X.follow t hd).2 = { X with role := 0, head := hd, term := tm, vote := vt, D := D, R := R } ∧ R.length ≤ X.R.length + 1 := by
 unfold RN.follow at h ⊢
 split
 ·rename_i hlt
  rw [if_pos hlt] at h
  have hl := keepL_len [({ X with role := 0, head := hd, term := t, vote := -1 } : RN).hardB] X.D X.R
  unfold RN.keep at h ⊢
  simp only at h ⊢
  split
  ·exact ⟨_, _, t, -1, rfl, hl⟩
  ·rename_i hne
   rw [if_neg hne] at h
   exact absurd h hne
 ·exact ⟨X.D, X.R, X.term, X.vote, rfl, Nat.le_succ _⟩
theorem log_rest {w0 : World} {S : St} {Q : AEnd → St → Prop} {L : RL} {X : RN} {f M : Nat} {m : Ms} {ve : V} {te : Tok} {fr : Fr} (h : RaftAt S L X) (hr : X.role ≠ 2) (hm : m.Ok) (hE : IsSlice LER 2 ve m.ents te) (h16 : m.ents.length ≤ 16) (hll : X.log.length + 16 ≤ 1000000) (hRr : X.R.length + 16 ≤ 1000000) (ho : X.out.length < 1000000)
  (cM : S.cells M = some (m.v ve)) (lM : M < S.n) (hMo : ¬ (Res.raft L X).own M) (f0 : fr 0 = .ptr (some (L.r, 0))) (f1 : fr 1 = .int .i64 (f : Nat)) (f5 : fr 5 = .ptr (some (M, 0)))
  (hQ : ∀ S' L', RAft S L X S' L' (X.rest.log3 f m).2 → Q (.ret (.int .i64 (X.rest.log3 f m).1)) S') : wCode (RSim Try.prog w0) r_raft_Node_logAsk_3 fr S (resQ [.tmp 6] Q) := by
 have hix := hm.index
 simp only [r_raft_Node_logAsk_3, go_sem, f0]
 refine wi_call ?_
 simp only [go_sem]
 refine rest_runs h fun S1 a1 => ?_
 have h1 := a1.w
 have ex1 := h1.ex
 obtain ⟨hEl, _⟩ := h1.lg
 obtain ⟨ce, he⟩ := hEl.len
 have hrl : X.rest.log = X.log := rfl
 have hrb : X.rest.role ≠ 2 := hr
 have cM1 := a1.1.k.cells cM lM hMo
 have lM1 := a1.1.k.lt lM
 have hMo1 : ¬ (Res.raft L X.rest).own M := fun hh => (a1.1.o M hh).elim hMo fun h => by omega
 rw [hrl] at he
 unfold RN.cells at ex1
 rw [he] at ex1
 have cM1' := cM1
 unfold Ms.v at cM1'
 have cv : ∀ S, V.conv S (.int .u64) (.int .i64 (X.log.length : Int)) = some (.int .u64 (X.log.length : Int)) := fun S => by simp only [V.conv]; rw [wu64 (by omega) (by omega)]
 have p1 : decide ((m.index : Int) > (X.log.length : Int)) = decide (X.log.length < m.index) := decide_eq_decide.mpr (by omega)
 have hmx := iteMax m.index 1
 have hmx' : (if (1 : Int) > (m.index : Int) then (1 : Int) else (m.index : Int)) = ((max m.index 1 : Nat) : Int) := hmx
 have w1 : IntKind.u64.wrap (((max m.index 1 : Nat) : Int) - 1) = ((max m.index 1 - 1 : Nat) : Int) := by rw [wu64 (by omega) (by omega)]; omega
 have hmn := iteMin X.log.length (max m.index 1 - 1)
 unfold RN.log3 at hQ
 rw [hrl] at hQ
 cases b1 : decide (X.log.length < m.index)
 ·rw [b1] at p1
  have hil := of_decide_eq_false b1
  have cvi : ∀ S, V.conv S (.int .i64) (.int .u64 (m.index : Int)) = some (.int .i64 (m.index : Int)) := fun S => by simp only [V.conv]; rw [w64 (by omega) (by omega)]
  have p2 : ((lastT X.log m.index : Int) != (m.at_ : Int)) = decide (lastT X.log m.index ≠ m.at_) := by rw [Bool.eq_iff_iff, bne_iff_ne, decide_eq_true_iff]; omega
  simp only [go_sem, f0, f5, ex1, cM1', cv, p1, cvi]
  refine wi_call ?_
  simp only [go_sem]
  refine last_runs h1 (by omega) (by omega) ?_
  rw [Int.toNat_natCast, hrl]
  cases b2 : decide (lastT X.log m.index ≠ m.at_)
  ·rw [b2] at p2
   have hla := of_decide_eq_false b2
   rw [if_neg (fun hh => hh.elim hil hla)] at hQ
   simp only [go_sem, cM1', p2]
   refine wc_ite (b := false) (by simp only [go_sem] <;> rfl) (fun h => by cases h) (fun _ => ?_)
   refine log_loop (L := L) (X := X.rest) (f := f) (M := M) (m := m) (ve := ve) (te := te) h1 hrb hm hE (by rw [hrl]; omega) h16 hll hRr ho cM1 lM1 hMo1 (by simp only [go_sem, f0]) (by simp only [go_sem, f1]) (by simp only [go_sem, f5]) fun S' L' a => ?_
   exact hQ S' L' (a1.trans a)
  ·rw [b2] at p2
   have hla := of_decide_eq_true b2
   rw [if_pos (.inr hla)] at hQ
   simp only [go_sem, cM1', p2]
   refine wc_ite (b := true) (by simp only [go_sem] <;> rfl) (fun _ => ?_) (fun h => by cases h)
   simp only [go_sem, f0, f1, f5, ex1, cM1', cv, minmaxL, minmaxV, hmx', w1, hmn]
   refine wi_call ?_
   simp only [go_sem]
   refine send_runs (m := tellM false (min X.log.length (max m.index 1 - 1))) (ve := .sl [] 0 2 .nil) (te := .nil) h1 (tellM_ok false (by omega)) (isSlice_nil LER 2) ho fun S' L' a' => ?_
   simp only [go_sem]
   exact hQ S' L' (a1.trans a')
 ·rw [b1] at p1
  rw [if_pos (.inl (of_decide_eq_true b1))] at hQ
  simp only [go_sem, f0, f5, ex1, cM1', cv, p1]
  refine wc_ite (b := true) (by simp only [go_sem] <;> rfl) (fun _ => ?_) (fun h => by cases h)
  simp only [go_sem, f0, f1, f5, ex1, cM1', cv, minmaxL, minmaxV, hmx', w1, hmn]
  refine wi_call ?_
  simp only [go_sem]
  refine send_runs (m := tellM false (min X.log.length (max m.index 1 - 1))) (ve := .sl [] 0 2 .nil) (te := .nil) h1 (tellM_ok false (by omega)) (isSlice_nil LER 2) ho fun S' L' a' => ?_
  simp only [go_sem]
  exact hQ S' L' (a1.trans a')
theorem logAsk_runs {w0 : World} {S : St} {Q : AEnd → St → Prop} {L : RL} {X : RN} {f : Nat} {m : Ms} {ve : V} {te : Tok} (h : RaftAt S L X) (hm : m.Ok) (hE : IsSlice LER 2 ve m.ents te) (ht : m.term < 9223372036854775808) (h16 : m.ents.length ≤ 16) (hf : f < X.n) (hR : X.Room)
  (hQ : ∀ S' L', RAft S L X S' L' (X.logAsk f m).2 → Q (.ret (.int .i64 (X.logAsk f m).1)) S') : RSim Try.prog w0 n_raft_Node_logAsk [.ptr (some (L.r, 0)), .int .i64 (f : Nat), .agg (m.v ve)] S Q := by
 have hone := hE.one
 have hcl := cells_one hone
 have hk := h.ok
 have hRl := hR.log
 have hRo := hR.out
 have hRr := hR.rl
 have k1 : Keeps (fun _ => False) S (S.add (.cells (m.v ve))) := (Keeps.refl _ S).add _
 have cM : (S.add (.cells (m.v ve))).cells S.n = some (m.v ve) := by rw [cells_addc, if_pos rfl]
 have lM : S.n < (S.add (.cells (m.v ve))).n := by rw [St.add_n]; omega
 have hMo : ¬ (Res.raft L X).own S.n := fun hh => by have := (Res.raft L X).lt h hh; omega
 have h1 := h.stay k1
 have ex1 := h1.ex
 obtain ⟨hE1, _⟩ := h1.lg
 obtain ⟨ce, he⟩ := hE1.len
 have cv : ∀ S, V.conv S (.int .u64) (.int .i64 (X.log.length : Int)) = some (.int .u64 (X.log.length : Int)) := fun S => by simp only [V.conv]; rw [wu64 (by omega) (by omega)]
 have p0 : decide ((m.term : Int) < (X.term : Int)) = decide (m.term < X.term) := decide_eq_decide.mpr (by omega)
 have p1 : ((X.role : Int) == 2) = decide (X.role = 2) := by rw [Bool.eq_iff_iff, beq_iff_eq, decide_eq_true_iff]; omega
 have hQ' := fun S' L' (a : RAft (S.add (.cells (m.v ve))) L X S' L' (X.logAsk f m).2) => hQ S' L' ((RAft.new h k1).trans a)
 have cM' := cM
 unfold RN.cells at ex1
 rw [he] at ex1
 unfold RN.logAsk at hQ'
 unfold Ms.v at cM' h1 k1 ex1 hQ' lM ⊢
 cases b0 : decide (m.term < X.term)
 ·rw [b0] at p0
  have hnt := of_decide_eq_false b0
  rw [if_neg hnt] at hQ'
  refine RSim.run mixed k_raft_Node_logAsk ?_ (by simp)
  simp only [b_raft_Node_logAsk, go_sem, ex1, hone, cM', p0]
  refine wc_ite (b := false) (by simp only [go_sem] <;> rfl) (fun h => by cases h) (fun _ => ?_)
  simp only [go_sem, r_raft_Node_logAsk_5, ex1, p1]
  refine wc_ite (b := decide (X.role = 2)) (by simp only [go_sem]) (fun hc => ?_) (fun hc => ?_)
  ·have hr := of_decide_eq_true hc
   rw [if_pos hr] at hQ'
   simp only [go_sem]
   exact hQ' _ L (RAft.refl h1)
  ·have hr := of_decide_eq_false hc
   rw [if_neg hr] at hQ'
   simp only [go_sem, r_raft_Node_logAsk_4, cM']
   generalize hS1 : S.add (.cells _) = S1 at *
   refine wi_call ?_
   simp only [go_sem]
   refine follow_runs h1 ht (by omega) (by omega) (by omega) fun S2 L2 a2 => ?_
   by_cases e0 : (X.follow m.term f).1 = 0
   ·have qe : ((X.follow m.term f).1 != 0) = false := by rw [e0]; rfl
    rw [if_neg (by rw [e0]; simp)] at hQ'
    obtain ⟨D', R', tm, vt, hff, hRl'⟩ := follow_fields X m.term f e0
    have cMu : S1.cells S.n = some (m.v ve) := by rw [← hS1]; exact cM
    have cM2 := a2.1.k.cells cMu lM hMo
    have lM2 := a2.1.k.lt lM
    have hMo2 : ¬ (Res.raft L2 (X.follow m.term f).2).own S.n := fun hh => (a2.1.o _ hh).elim hMo fun h => by omega
    have hr2 : L2.r = L.r := a2.2.1
    simp only [go_sem, qe]
    refine wc_ite (b := false) (by simp only [go_sem] <;> rfl) (fun h => by cases h) (fun _ => ?_)
    refine log_rest (L := L2) (X := (X.follow m.term f).2) (f := f) (M := S.n) (m := m) (ve := ve) (te := te) a2.w (by rw [hff]; show (0 : Nat) ≠ 2; decide) hm hE h16 (by rw [hff]; show X.log.length + 16 ≤ _; omega) (by rw [hff]; show R'.length + 16 ≤ _; omega) (by rw [hff]; show X.out.length < _; omega) cM2 lM2 hMo2 (by simp only [go_sem, hr2]) (by simp only [go_sem]) (by simp only [go_sem]) fun S' L' a => ?_
    exact hQ' S' L' (a2.trans a)
   ·have qe : ((X.follow m.term f).1 != 0) = true := by simpa using e0
    rw [if_pos e0] at hQ'
    simp only [go_sem, qe]
    refine wc_ite (b := true) (by simp only [go_sem] <;> rfl) (fun _ => ?_) (fun h => by cases h)
    simp only [go_sem]
    exact hQ' S2 L2 a2
 ·rw [b0] at p0
  have hnt := of_decide_eq_true b0
  rw [if_pos hnt] at hQ'
  refine RSim.run mixed k_raft_Node_logAsk ?_ (by simp)
  simp only [b_raft_Node_logAsk, go_sem, ex1, hone, cM', p0]
  refine wc_ite (b := true) (by simp only [go_sem] <;> rfl) (fun _ => ?_) (fun h => by cases h)
  simp only [go_sem, ex1, cv]
  refine wi_call ?_
  simp only [go_sem]
  refine send_runs (m := tellM false X.log.length) (ve := .sl [] 0 2 .nil) (te := .nil) h1 (tellM_ok false (by omega)) (isSlice_nil LER 2) (by omega) fun S' L' a' => ?_
  simp only [go_sem]
  exact hQ' S' L' a'
end Go.VM
namespace Go.VM
open Go Go.RowKit Go.Proofs
structure RN.Wide (X : RN) : Prop where
 log : X.log.length + 40 ≤ 1000000
 out : X.out.length + 40 ≤ 1000000
 rl : X.R.length + 40 ≤ 1000000
theorem RN.Wide.room {X : RN} (h : X.Wide) : X.Room := ⟨by have := h.log; omega, by have := h.out; omega, by have := h.rl; omega⟩
theorem rowc_aft {S : St} {v : V} {cs cs' : List V} {n o : Nat} (h : RowAt S v cs n 1 o) (hn : cs.length = n) (hl : cs'.length = n) (h0 : n ≠ 0) : v = .msl o 0 n 1 ∧ S.cells o = some cs ∧ Aft S (Res.row v cs o) (S.set o (.cells cs')) (Res.row v cs' o) := by
 rcases h with ⟨h1, _⟩ | ⟨_, e1, e2, _, e3⟩
 ·exact absurd h1 h0
 ·exact ⟨e1, e2, .inr ⟨by rw [hl]; exact h0, by rw [hl, e1], by rw [cells_setc, if_pos rfl], by rw [Nat.mul_one], e3⟩, (Keeps.set1 _ _ _).mono fun j' _ e => ⟨by rw [hn]; exact h0, e⟩, fun j' hj' => .inl ⟨by rw [hn]; exact h0, hj'.2⟩⟩
theorem votes_ok {X : RN} (h : X.Ok) {l : List Bool} (hl : l.length ≤ X.n) : ({ X with votes := l } : RN).Ok :=
 ⟨h.n0, h.n5, h.me, h.term, h.v0, h.vn, h.log, h.ll, h.cm, h.role, h.h0, h.hn, hl, h.lead, h.next, h.mat, h.idle, h.limit, h.draw, h.out, h.rl⟩
theorem RaftAt.votes_set {S : St} {L : RL} {X : RN} {l' : List Bool} (h : RaftAt S L X) (h0 : X.votes.length ≠ 0) (hl : l'.length = X.votes.length) : RAft S L X (S.set L.ov (.cells (l'.map V.bool))) L { X with votes := l' } := by
 refine RAft.of h ?_ h.d (votes_ok h.ok (by rw [hl]; exact h.ok.cand)) rfl
 exact Aft.part h.h (List.perm_middle (l₁ := [_, _, _])) (rowc_aft h.vv (by simp) (by simp [hl]) h0).2.2 (List.perm_middle (l₁ := [_, _, _]))
theorem RaftAt.votes_new {S : St} {L : RL} {X : RN} {l' : List Bool} (h : RaftAt S L X) (h0 : l'.length ≠ 0) (hl : l'.length ≤ X.n) {cs : List V} (hcs : cs = RN.cells { X with votes := l' } { L with vv := .msl S.n 0 l'.length 1, ov := S.n }) :
  RAft S L X ((S.add (.cells (l'.map V.bool))).set L.r (.cells cs)) { L with vv := .msl S.n 0 l'.length 1, ov := S.n } { X with votes := l' } := by
 subst hcs
 refine RAft.of h ?_ h.d (votes_ok h.ok hl) rfl
 have a1 : Aft S (.row L.vv (X.votes.map V.bool) L.ov) (S.add (.cells (l'.map V.bool))) (.row (.msl S.n 0 l'.length 1) (l'.map V.bool) S.n) :=
  ⟨.inr ⟨by rw [List.length_map]; exact h0, by rw [List.length_map], by rw [cells_addc, if_pos rfl], by rw [Nat.mul_one], by rw [St.add_n]; omega⟩, ((Keeps.refl (fun _ => False) S).add _).mono fun j _ hj => hj.elim, fun j hj => .inr (by have : j = S.n := hj.2; omega)⟩
 have b1 := Aft.part h.h (m := [.cells L.r (X.cells L), .list LER 2 L.vl X.log L.tl, .list PkR 3 L.vo X.out L.to, .row L.vn (X.next.map natV) L.on, .row L.vm (X.mat.map natV) L.om, .wal L.i L.g L.D raftN X.R L.tw])
  (List.perm_middle (l₁ := [_, _, _])) a1 (List.perm_middle (l₁ := [Res.cells L.r (X.cells L), Res.list LER 2 L.vl X.log L.tl, Res.list PkR 3 L.vo X.out L.to]))
 have h2 : Hold _ _ := b1.p
 exact b1.trans (Aft.part h2 (List.Perm.refl _) (Aft.set h2.head) (List.Perm.refl _))
theorem splice_bool {l : List Bool} {f : Nat} {v : Bool} (hf : f < l.length) : splice (l.map V.bool) (f * 1) [.bool v] = (l.set f v).map V.bool := by
 rw [splice, Nat.mul_one, List.map_set, List.set_eq_take_append_cons_drop, if_pos (by rw [List.length_map]; exact hf)]
 simp
def RN.votedBy (X : RN) (f : Nat) : RN := { X with votes := X.votes.set f true }
def RN.kindM (X : RN) (f : Nat) (m : Ms) : Int × RN :=
 if m.kind = 1 then X.voteAsk f m else if m.kind = 2 then (if (m.term = X.term ∧ X.role = 1) ∧ m.ok = true then (X.votedBy f).count else (0, X)) else if m.kind = 3 then X.logAsk f m else if m.kind = 4 then (0, X.logTell f m) else (0, X)
def RN.heard (X : RN) (m : Ms) : Int × RN := if X.term < m.term then X.follow m.term (-1) else (0, X)
def RN.stepM (X : RN) (f : Nat) (m : Ms) : Int × RN := if (X.heard m).1 ≠ 0 then X.heard m else (X.heard m).2.kindM f m
def RN.step (X : RN) (f : Nat) (bs : List UInt8) : Int × RN :=
 match decM bs with
 | none => (3, X)
 | some m => if X.bad then (12, X) else X.stepM f m
theorem step_kind {w0 : World} {S : St} {Qc : CPost} {L : RL} {X : RN} {f M : Nat} {m : Ms} {ve : V} {te : Tok} {fr : Fr} (h : RaftAt S L X) (hm : m.Ok) (hE : IsSlice LER 2 ve m.ents te) (ht : m.term < 9223372036854775808) (h16 : m.ents.length ≤ 16) (hf : f < X.n) (hR : X.Room) (hv : X.role = 1 → X.votes.length = X.n)
  (cM : S.cells M = some (m.v ve)) (f0 : fr 0 = .ptr (some (L.r, 0))) (f1 : fr 1 = .int .i64 (f : Nat)) (f7 : fr 7 = .ptr (some (M, 0))) (f56 : fr 56 = .int .u8 (m.kind : Nat))
  (hQ1 : ∀ fr' S' L', RAft S L X S' L' (X.kindM f m).2 → fr' 6 = .int .i64 (X.kindM f m).1 → Qc .ret fr' S') (hQ2 : (X.kindM f m).1 = 0 → ∀ fr' S' L', RAft S L X S' L' (X.kindM f m).2 → Qc .normal fr' S') : wCode (RSim Try.prog w0) k_raft_Node_Step_0 fr S Qc := by
 have ex := h.ex
 have hone := hE.one
 have q1 : ((m.kind : Int) == 1) = decide (m.kind = 1) := by rw [Bool.eq_iff_iff, beq_iff_eq, decide_eq_true_iff]; omega
 have q2 : ((m.kind : Int) == 2) = decide (m.kind = 2) := by rw [Bool.eq_iff_iff, beq_iff_eq, decide_eq_true_iff]; omega
 have q3 : ((m.kind : Int) == 3) = decide (m.kind = 3) := by rw [Bool.eq_iff_iff, beq_iff_eq, decide_eq_true_iff]; omega
 have q4 : ((m.kind : Int) == 4) = decide (m.kind = 4) := by rw [Bool.eq_iff_iff, beq_iff_eq, decide_eq_true_iff]; omega
 have cM' := cM
 unfold Ms.v at cM'
 unfold RN.cells at ex
 unfold RN.kindM at hQ1 hQ2
 simp only [k_raft_Node_Step_0, go_sem, f56, q1]
 refine wc_ite (b := decide (m.kind = 1)) (by simp only [go_sem]) (fun hc => ?_) (fun hc => ?_)
 ·have hk := of_decide_eq_true hc
  rw [if_pos hk] at hQ1
  simp only [go_sem, f0, f1, f7, cM', hone]
  refine wi_call ?_
  simp only [go_sem]
  refine voteAsk_runs (m := m) (ve := ve) (te := te) h hm hE hf hR fun S' L' a => ?_
  simp only [go_sem]
  exact hQ1 _ S' L' a (by simp only [go_sem])
 have hk1 := of_decide_eq_false hc
 rw [if_neg hk1] at hQ1 hQ2
 clear hc
 simp only [go_sem, f56, q2]
 refine wc_ite (b := decide (m.kind = 2)) (by simp only [go_sem]) (fun hc => ?_) (fun hc => ?_)
 ·have hk := of_decide_eq_true hc
  rw [if_pos hk] at hQ1 hQ2
  have p1 : ((m.term : Int) == (X.term : Int)) = decide (m.term = X.term) := by rw [Bool.eq_iff_iff, beq_iff_eq, decide_eq_true_iff]; omega
  have p2 : ((X.role : Int) == 1) = decide (X.role = 1) := by rw [Bool.eq_iff_iff, beq_iff_eq, decide_eq_true_iff]; omega
  cases b1 : decide (m.term = X.term)
  ·rw [b1] at p1
   rw [if_neg fun hh => (of_decide_eq_false b1) hh.1.1] at hQ2
   simp only [go_sem, f0, f7, cM', ex, p1]
   refine wc_ite (b := false) (by simp only [go_sem] <;> rfl) (fun h => by cases h) (fun _ => ?_)
   simp only [go_sem]
   exact hQ2 rfl _ S L (RAft.refl h)
  rw [b1] at p1
  cases b2 : decide (X.role = 1)
  ·rw [b2] at p2
   rw [if_neg fun hh => (of_decide_eq_false b2) hh.1.2] at hQ2
   simp only [go_sem, f0, f7, cM', ex, p1, p2]
   refine wc_ite (b := false) (by simp only [go_sem] <;> rfl) (fun h => by cases h) (fun _ => ?_)
   simp only [go_sem]
   exact hQ2 rfl _ S L (RAft.refl h)
  rw [b2] at p2
  have hr := of_decide_eq_true b2
  cases b3 : m.ok
  ·rw [b3] at cM'
   rw [if_neg fun hh => (by rw [b3] at hh; exact absurd hh.2 (by simp))] at hQ2
   simp only [go_sem, f0, f7, cM', ex, p1, p2]
   refine wc_ite (b := false) (by simp only [go_sem] <;> rfl) (fun h => by cases h) (fun _ => ?_)
   simp only [go_sem]
   exact hQ2 rfl _ S L (RAft.refl h)
  ·rw [b3] at cM'
   rw [if_pos ⟨⟨of_decide_eq_true b1, hr⟩, b3⟩] at hQ1
   have hvl := hv hr
   have hn0 := h.ok.n0
   have hn5 := h.ok.n5
   have a1 := h.votes_set (l' := X.votes.set f true) (by omega) (by simp)
   obtain ⟨hvv, hcv, _⟩ := rowc_aft (cs' := X.votes.map V.bool) h.vv (by simp) (by simp) (by omega)
   have hjt : (f < X.votes.length) = True := eq_true (by omega)
   have hfit : (f * 1 + 1 ≤ (List.map V.bool X.votes).length) = True := eq_true (by rw [List.length_map]; omega)
   have hsp := splice_bool (v := true) (l := X.votes) (f := f) (by omega)
   unfold splice at hsp
   simp only [List.length_cons, List.length_nil, Nat.zero_add] at hsp
   rw [hvv] at ex
   simp only [go_sem, f0, f7, cM', ex, p1, p2]
   refine wc_ite (b := true) (by simp only [go_sem] <;> rfl) (fun _ => ?_) (fun h => by cases h)
   simp only [go_sem, f0, f1, ex, hjt, hcv, hfit, hsp]
   generalize S.set L.ov (.cells _) = S1 at *
   refine wi_call ?_
   simp only [go_sem]
   refine count_runs a1.w ⟨hR.log, hR.out, hR.rl⟩ (by show (X.votes.set f true).length ≤ 1000; rw [List.length_set]; omega) fun S' L' a => ?_
   simp only [go_sem]
   exact hQ1 _ S' L' (a1.trans a) (by simp only [go_sem]; rfl)
 have hk2 := of_decide_eq_false hc
 rw [if_neg hk2] at hQ1 hQ2
 clear hc
 simp only [go_sem, f56, q3]
 refine wc_ite (b := decide (m.kind = 3)) (by simp only [go_sem]) (fun hc => ?_) (fun hc => ?_)
 ·have hk := of_decide_eq_true hc
  rw [if_pos hk] at hQ1
  simp only [go_sem, f0, f1, f7, cM', hone]
  refine wi_call ?_
  simp only [go_sem]
  refine logAsk_runs (m := m) (ve := ve) (te := te) h hm hE ht h16 hf hR fun S' L' a => ?_
  simp only [go_sem]
  exact hQ1 _ S' L' a (by simp only [go_sem])
 have hk3 := of_decide_eq_false hc
 rw [if_neg hk3] at hQ1 hQ2
 clear hc
 simp only [go_sem, f56, q4]
 refine wc_ite (b := decide (m.kind = 4)) (by simp only [go_sem]) (fun hc => ?_) (fun hc => ?_)
 ·have hk := of_decide_eq_true hc
  rw [if_pos hk] at hQ2
  simp only [go_sem, f0, f1, f7, cM', hone]
  refine wi_call ?_
  simp only [go_sem]
  refine logTell_runs (m := m) (ve := ve) (te := te) h hm hE hf hR fun S' L' a => ?_
  simp only [go_sem]
  exact hQ2 rfl _ S' L' a
 ·have hk4 := of_decide_eq_false hc
  rw [if_neg hk4] at hQ2
  simp only [go_sem]
  exact hQ2 rfl _ S L (RAft.refl h)
theorem step_runs {w0 : World} {S : St} {Q : AEnd → St → Prop} {L : RL} {X : RN} {f : Nat} {v : V} {bs : List UInt8} {m : Ms} (h : RaftAt S L X) (hb : IsBytes v bs) (hbl : bs.length ≤ 1000000000) (hd : decM bs = some m) (hm : m.Ok) (ht : m.term < 9223372036854775808) (h16 : m.ents.length ≤ 16) (hf : f < X.n) (hfm : f ≠ X.me) (hR : X.Wide) (hv : X.bad = false → X.role = 1 → X.votes.length = X.n)
  (hQ : ∀ S' L', RAft S L X S' L' (X.step f bs).2 → Q (.ret (.int .i64 (X.step f bs).1)) S') : RSim Try.prog w0 n_raft_Node_Step [.ptr (some (L.r, 0)), .int .i64 (f : Nat), v] S Q := by
 have ex := h.ex
 have hk := h.ok
 have hn0 := hk.n0
 have hRl := hR.log
 have hRo := hR.out
 have hRr := hR.rl
 have p0 : decide ((f : Int) < 0) = false := decide_eq_false (by omega)
 have p1 : decide ((f : Int) ≥ (X.n : Int)) = false := decide_eq_false (by omega)
 have p2 : ((f : Int) == (X.me : Int)) = false := by rw [Bool.eq_false_iff, ne_eq, beq_iff_eq]; omega
 have exX := ex
 unfold RN.step at hQ
 rw [hd] at hQ
 simp only at hQ
 unfold RN.cells at ex
 refine RSim.run mixed k_raft_Node_Step ?_ (by simp)
 simp only [b_raft_Node_Step, go_sem, r_raft_Node_Step_3, p0]
 refine wc_ite (b := false) (by simp only [go_sem] <;> rfl) (fun h => by cases h) (fun _ => ?_)
 simp only [go_sem, r_raft_Node_Step_3, p0, p1, p2, ex]
 refine wc_ite (b := false) (by simp only [go_sem] <;> rfl) (fun h => by cases h) (fun _ => ?_)
 simp only [go_sem, r_raft_Node_Step_2]
 refine wi_call ?_
 simp only [go_sem]
 refine decodeM_runs hb hbl (fun m' ve te S1 hd' hE _ k1 => ?_) fun cs S1 hd' _ _ _ => by rw [hd] at hd'; cases hd'
 rw [hd] at hd'
 injection hd' with hd'
 subst hd'
 have hone := hE.one
 have h1 := h.stay k1
 have kB : Keeps (fun _ => False) S1 ((S1.add (.cells [.int .u8 0, .int .u64 0, .int .u64 0, .int .u64 0, .int .u64 0, .bool false, .sl [] 0 2 .nil])).set S1.n (.cells (m.v ve))) := ((Keeps.refl _ S1).add _).set (.inr (Nat.le_refl _)) _
 have cB : ((S1.add (.cells [.int .u8 0, .int .u64 0, .int .u64 0, .int .u64 0, .int .u64 0, .bool false, .sl [] 0 2 .nil])).set S1.n (.cells (m.v ve))).cells S1.n = some (m.v ve) := by rw [cells_setc, if_pos rfl]
 have h2 := h1.stay kB
 have lB : S1.n < ((S1.add (.cells [.int .u8 0, .int .u64 0, .int .u64 0, .int .u64 0, .int .u64 0, .bool false, .sl [] 0 2 .nil])).set S1.n (.cells (m.v ve))).n := by rw [St.set_n, St.add_n]; omega
 have hMo : ¬ (Res.raft L X).own S1.n := fun hh => by have := (Res.raft L X).lt h1 hh; omega
 have A := (RAft.new h k1).trans (RAft.new h1 kB)
 have ex2 := h2.ex
 unfold RN.cells at ex2
 have cB' := cB
 unfold Ms.v at cB' ex2 kB h2 lB cB A
 simp only [go_sem, hone, Ms.v]
 refine wc_ite (b := false) (by simp only [go_sem] <;> rfl) (fun h => by cases h) (fun _ => ?_)
 generalize (S1.add (.cells _)).set S1.n (.cells _) = S2 at *
 generalize S1.n = M at *
 simp only [go_sem, r_raft_Node_Step_1, ex2]
 refine wc_ite (b := X.bad) (by simp only [go_sem]) (fun hc => ?_) (fun hc => ?_)
 ·rw [if_pos hc] at hQ
  simp only [go_sem]
  exact hQ S2 L A
 rw [if_neg (by rw [hc]; simp)] at hQ
 unfold RN.stepM RN.heard at hQ
 have p3 : decide ((m.term : Int) > (X.term : Int)) = decide (X.term < m.term) := decide_eq_decide.mpr (by omega)
 simp only [go_sem, r_raft_Node_Step_0, ex2, cB', p3]
 cases b3 : decide (X.term < m.term)
 ·have hnt := of_decide_eq_false b3
  rw [if_neg hnt, if_neg (by simp)] at hQ
  refine wc_ite (b := false) (by simp only [go_sem] <;> rfl) (fun h => by cases h) (fun _ => ?_)
  simp only [go_sem, cB']
  refine step_kind (f := f) (M := M) (m := m) (ve := ve) (te := te) h2 hm hE ht h16 hf hR.room (hv hc) cB (by simp only [go_sem]) (by simp only [go_sem]) (by simp only [go_sem]) (by simp only [go_sem]) (fun fr' S' L' a h6 => ?_) fun he fr' S' L' a => ?_
  ·simp only [go_sem, h6]
   exact hQ S' L' (A.trans a)
  ·simp only [go_sem]
   simp only at hQ
   rw [he] at hQ
   exact hQ S' L' (A.trans a)
 ·have hnt := of_decide_eq_true b3
  rw [if_pos hnt] at hQ
  refine wc_ite (b := true) (by simp only [go_sem] <;> rfl) (fun _ => ?_) (fun h => by cases h)
  simp only [go_sem, cB']
  refine wi_call ?_
  simp only [go_sem]
  refine follow_runs h2 ht (by omega) (by omega) (by omega) fun S3 L3 a3 => ?_
  have hr3 : L3.r = L.r := a3.2.1
  by_cases e0 : (X.follow m.term (-1)).1 = 0
  ·have qe : ((X.follow m.term (-1)).1 != 0) = false := by rw [e0]; rfl
   rw [if_neg (by rw [e0]; simp)] at hQ
   obtain ⟨D', R', tm, vt, hff, hRl'⟩ := follow_fields X m.term (-1) e0
   have cM3 := a3.1.k.cells (show S2.cells M = some (m.v ve) from cB) lB hMo
   have cM3' := cM3
   unfold Ms.v at cM3'
   simp only [go_sem, qe]
   refine wc_ite (b := false) (by simp only [go_sem] <;> rfl) (fun h => by cases h) (fun _ => ?_)
   simp only [go_sem, cM3']
   refine step_kind (L := L3) (f := f) (M := M) (m := m) (ve := ve) (te := te) a3.w hm hE ht h16 (by rw [hff]; exact hf) (by rw [hff]; exact ⟨by show X.log.length + 30 ≤ _; omega, by show X.out.length + 30 ≤ _; omega, by show R'.length + 30 ≤ _; omega⟩) (by rw [hff]; exact fun e => absurd e (by show (0 : Nat) ≠ 1; decide)) cM3 (by simp only [go_sem, hr3]) (by simp only [go_sem]) (by simp only [go_sem]) (by simp only [go_sem]) (fun fr' S' L' a h6 => ?_) fun he fr' S' L' a => ?_
   ·simp only [go_sem, h6]
    exact hQ S' L' ((A.trans a3).trans a)
   ·simp only [go_sem]
    rw [he] at hQ
    exact hQ S' L' ((A.trans a3).trans a)
  ·have qe : ((X.follow m.term (-1)).1 != 0) = true := by simpa using e0
   rw [if_pos e0] at hQ
   simp only [go_sem, qe]
   refine wc_ite (b := true) (by simp only [go_sem] <;> rfl) (fun _ => ?_) (fun h => by cases h)
   simp only [go_sem]
   exact hQ S3 L3 (A.trans a3)
end Go.VM
namespace Go.VM
open Go Go.RowKit Go.Proofs
def RN.askM (X : RN) : Ms := ⟨1, false, 0, X.log.length, lastT X.log X.log.length, 0, []⟩
def RN.pollK (X : RN) (k : Nat) : RN := { X with out := X.out ++ ((List.range k).filter fun to => to != X.me).map fun to => ⟨X.me, to, msB { X.askM with term := X.term }⟩ }
def RN.stand (X : RN) : RN := ({ X with votes := (List.replicate X.n false).set X.me true } : RN).pollK X.n
def RN.elect (X : RN) : RN := { X.rest with role := 1, head := -1, term := X.term + 1, vote := X.me }
def RN.runs (X : RN) : Int × RN := if (X.elect.keep [X.elect.hardB]).1 ≠ 0 then X.elect.keep [X.elect.hardB] else (X.elect.keep [X.elect.hardB]).2.stand.count
def RN.aged (X : RN) (d : Nat) : RN := { X with draw := d, idle := X.idle + 1 }
def RN.tick (X : RN) (d : Nat) : Int × RN :=
 if X.bad then (12, X) else if X.role = 2 then (0, if 2 ≤ X.idle + 1 then ({ X.aged d with idle := 0 } : RN).tell else X.aged d) else if X.idle + 1 < X.limit then (0, X.aged d) else (X.aged d).runs
theorem pollK_succ (X : RN) (k : Nat) : X.pollK (k + 1) = if k = X.me then X.pollK k else (X.pollK k).sent k X.askM := by
 unfold RN.pollK RN.sent
 rw [List.range_succ, List.filter_append]
 by_cases h : k = X.me
 ·rw [if_pos h]
  have : (List.filter (fun to => to != X.me) [k]) = [] := by simp [h]
  rw [this, List.append_nil]
 ·rw [if_neg h]
  have : (List.filter (fun to => to != X.me) [k]) = [k] := by simp [h]
  rw [this, List.map_append, List.map_cons, List.map_nil, ← List.append_assoc]
theorem polls_len (X : RN) (k : Nat) : (X.pollK k).out.length ≤ X.out.length + k := by
 unfold RN.pollK
 simp only [List.length_append, List.length_map]
 have := List.length_filter_le (fun to => to != X.me) (List.range k)
 rw [List.length_range] at this
 omega
theorem tick_stand {w0 : World} {S : St} {Q : AEnd → St → Prop} {L : RL} {X : RN} {fr : Fr} (h : RaftAt S L X) (hRl : X.log.length + 30 ≤ 1000000) (hRo : X.out.length + 35 ≤ 1000000) (hRr : X.R.length + 30 ≤ 1000000) (f0 : fr 0 = .ptr (some (L.r, 0)))
  (hQ : ∀ S' L', RAft S L X S' L' X.stand.count.2 → Q (.ret (.int .i64 X.stand.count.1)) S') : wCode (RSim Try.prog w0) r_raft_Node_Tick_0 fr S (resQ [.tmp 4] Q) := by
 have ex := h.ex
 have hk := h.ok
 have hn0 := hk.n0
 have hn5 := hk.n5
 have hme := hk.me
 have hrl := h.lt
 have hfl : (List.replicate X.n [V.bool false]).flatten = (List.replicate X.n false).map V.bool := by
  rw [List.map_replicate]
  generalize X.n = m
  induction m with
  | zero => rfl
  | succ m ih => rw [List.replicate_succ, List.replicate_succ, List.flatten_cons, ih]; rfl
 have a1 := h.votes_new (l' := List.replicate X.n false) (by rw [List.length_replicate]; omega) (by rw [List.length_replicate]; omega) rfl
 have hrn : ¬ L.r = S.n := by omega
 rw [List.length_replicate] at a1
 have exX := ex
 unfold RN.cells at ex
 simp only [r_raft_Node_Tick_0, go_sem, f0, ex]
 refine wi_makeMu (n := X.n) (by simp only [go_sem]) (by simp only [go_sem]) (by simp [roomOk]; omega) ?_
 rw [hfl]
 unfold RN.cells at a1
 have h1 := a1.w
 have hlr : (List.replicate X.n false).length = X.n := List.length_replicate
 have hnr : ¬ S.n = L.r := by omega
 have a2 := h1.votes_set (l' := (List.replicate X.n false).set X.me true) (by show (List.replicate X.n false).length ≠ 0; rw [hlr]; omega) (by show _ = (List.replicate X.n false).length; rw [List.length_set])
 have hjt : (X.me < X.n) = True := eq_true hme
 have hfit : (X.me * 1 + 1 ≤ (List.map V.bool (List.replicate X.n false)).length) = True := eq_true (by rw [List.length_map, hlr]; omega)
 have hsp := splice_bool (v := true) (l := List.replicate X.n false) (f := X.me) (by rw [hlr]; exact hme)
 unfold splice at hsp
 simp only [List.length_cons, List.length_nil, Nat.zero_add] at hsp
 simp only [go_sem, hrn, hnr, f0, ex, hjt, hfit, hsp]
 generalize ((S.add (.cells _)).set L.r (.cells _)).set S.n (.cells _) = S2 at *
 have a12 := a1.trans a2
 have h2 := a12.w
 have ex2 := h2.ex
 generalize hY : ({ X with votes := (List.replicate X.n false).set X.me true } : RN) = Y at *
 have yn : Y.n = X.n := by rw [← hY]
 have ym : Y.me = X.me := by rw [← hY]
 have yl : Y.log = X.log := by rw [← hY]
 have yo : Y.out = X.out := by rw [← hY]
 have yR : Y.R = X.R := by rw [← hY]
 have yv : Y.votes.length ≤ 5 := by rw [← hY]; show ((List.replicate X.n false).set X.me true).length ≤ 5; rw [List.length_set, hlr]; exact hn5
 have hst : X.stand = Y.pollK X.n := by unfold RN.stand; rw [hY]
 rw [hst] at hQ
 refine loop_rule RSim.le (k := X.n) (fun q fr Sa => ∃ (j : Nat) (La : RL), q = X.n - j ∧ j ≤ X.n ∧ fr 0 = .ptr (some (L.r, 0)) ∧ fr 98 = .int .i64 (X.n : Nat) ∧ fr 99 = .int .i64 (j : Nat) ∧ RAft S L X Sa La (Y.pollK j) ∧ La.r = L.r) ?_
  ⟨0, { L with vv := .msl S.n 0 X.n 1, ov := S.n }, rfl, by omega, by simp only [go_sem, f0], by simp only [go_sem], by simp only [go_sem]; rfl, by
   have e : Y.pollK 0 = Y := by unfold RN.pollK; simp
   rw [e]; exact a12, rfl⟩
 rintro q fr Sa ⟨j, La, hq, hj, g0, g98, g99, hA, hrA⟩
 have hpl := polls_len Y j
 rw [yo] at hpl
 have exA := hA.w.ex
 obtain ⟨hEl, _⟩ := hA.w.lg
 obtain ⟨ce, he⟩ := hEl.len
 have pm : (Y.pollK j).me = X.me := ym
 have pl : (Y.pollK j).log = X.log := yl
 rw [hrA] at exA
 unfold RN.cells at exA
 rw [he, pm, pl] at exA
 have cv : ∀ S, V.conv S (.int .u64) (.int .i64 (X.log.length : Int)) = some (.int .u64 (X.log.length : Int)) := fun S => by simp only [V.conv]; rw [wu64 (by omega) (by omega)]
 simp only [l_raft_Node_Tick_0, go_sem, g98, g99]
 refine wc_ite (b := decide ((j : Int) < (X.n : Int))) (by simp only [go_sem]) (fun hc => ?_) (fun hc => ?_)
 ·have hlt : j < X.n := by have := of_decide_eq_true hc; omega
  have w1 : IntKind.i64.wrap ((j : Int) + 1) = ((j + 1 : Nat) : Int) := by rw [w64 (by omega) (by omega)]; omega
  have q1 : ((j : Int) != (X.me : Int)) = decide (j ≠ X.me) := by rw [Bool.eq_iff_iff, bne_iff_ne, decide_eq_true_iff]; omega
  have hsucc := pollK_succ Y j
  rw [ym] at hsucc
  by_cases hjm : j = X.me
  ·rw [decide_eq_false (by simpa using hjm)] at q1
   rw [if_pos hjm] at hsucc
   simp only [go_sem, k_raft_Node_Tick_0, g0, g99, exA, q1]
   refine wc_ite (b := false) (by simp only [go_sem] <;> rfl) (fun h => by cases h) (fun _ => ?_)
   simp only [go_sem, g99, w1]
   exact ⟨X.n - (j + 1), by omega, j + 1, La, rfl, by omega, g0, g98, rfl, by rw [hsucc]; exact hA, hrA⟩
  ·rw [decide_eq_true hjm] at q1
   rw [if_neg hjm] at hsucc
   simp only [go_sem, k_raft_Node_Tick_0, g0, g99, exA, q1]
   refine wc_ite (b := true) (by simp only [go_sem] <;> rfl) (fun _ => ?_) (fun h => by cases h)
   simp only [go_sem, g0, exA, cv]
   refine wi_call ?_
   simp only [go_sem]
   rw [← hrA]
   refine last_runs hA.w (by omega) (by omega) ?_
   rw [Int.toNat_natCast, pl, hrA]
   have hlt := lastT_lt (l := X.log) (by have := hA.w.ok.log; rw [pl] at this; exact this) X.log.length
   have am : Y.askM = ⟨1, false, 0, X.log.length, lastT X.log X.log.length, 0, []⟩ := by unfold RN.askM; rw [yl]
   simp only [go_sem, exA]
   refine wi_call ?_
   simp only [go_sem]
   rw [← hrA]
   refine send_runs (m := ⟨1, false, 0, X.log.length, lastT X.log X.log.length, 0, []⟩) (ve := .sl [] 0 2 .nil) (te := .nil) hA.w ⟨show 1 < 256 by decide, show 0 < 18446744073709551616 by decide, by show X.log.length < _; omega, by show lastT X.log X.log.length < _; omega, show 0 < 18446744073709551616 by decide, show 0 ≤ 1000000 by decide, fun x hx => by cases hx⟩ (isSlice_nil LER 2) (by omega) fun Sb Lb b => ?_
   rw [← am] at b
   simp only [go_sem, g99, w1]
   exact ⟨X.n - (j + 1), by omega, j + 1, Lb, rfl, by omega, by rw [hrA]; exact g0, g98, rfl, by rw [hsucc]; exact hA.trans b, b.2.1⟩
 ·have hje : j = X.n := by have := of_decide_eq_false hc; omega
  subst hje
  simp only [go_sem, g0]
  refine wi_call ?_
  simp only [go_sem]
  rw [← hrA]
  refine count_runs hA.w ⟨by rw [pl]; exact hRl, by omega, by show Y.R.length + 30 ≤ _; rw [yR]; exact hRr⟩ (by show Y.votes.length ≤ _; omega) fun S' L' a => ?_
  simp only [go_sem]
  exact hQ S' L' (hA.trans a)
theorem tick_elect {w0 : World} {S : St} {Q : AEnd → St → Prop} {L : RL} {X : RN} {fr : Fr} (h : RaftAt S L X) (hr : X.role ≠ 2) (hR : X.Wide) (ht : X.term + 1 < 9223372036854775808) (f0 : fr 0 = .ptr (some (L.r, 0)))
  (hQ : ∀ S' L', RAft S L X S' L' X.runs.2 → Q (.ret (.int .i64 X.runs.1)) S') : wCode (RSim Try.prog w0) r_raft_Node_Tick_1 fr S (resQ [.tmp 4] Q) := by
 have hRl := hR.log
 have hRo := hR.out
 have hRr := hR.rl
 simp only [r_raft_Node_Tick_1, go_sem, f0]
 refine wi_call ?_
 simp only [go_sem]
 refine rest_runs h fun S1 a1 => ?_
 have hk1 := a1.w.ok
 have ex1 := a1.w.ex
 have w1 : IntKind.u64.wrap ((X.term : Int) + 1) = ((X.term + 1 : Nat) : Int) := by rw [wu64 (by omega) (by omega)]; omega
 have a2 := a1.w.put (X' := X.elect) rfl rfl rfl rfl rfl rfl rfl ⟨hk1.n0, hk1.n5, hk1.me, ht, by simp only [RN.elect]; omega, by have := hk1.me; simp only [RN.elect]; have e : X.rest.me = X.me := rfl; rw [e] at this; exact_mod_cast this, hk1.log, hk1.ll, hk1.cm, by simp only [RN.elect]; omega, by simp only [RN.elect]; omega, by have := hk1.n0; simp only [RN.elect]; omega, hk1.cand, fun h => (by cases h), fun k hk => ⟨(hk1.next k hk).1, fun h => (by cases h), (hk1.next k hk).2.2⟩, fun k hk => ⟨fun h => (by cases h), (hk1.mat k hk).2⟩, hk1.idle, hk1.limit, hk1.draw, hk1.out, hk1.rl⟩ rfl
 have a3 := a1.trans a2
 have hbl := hardB_len a2.w.ok
 have hrt : X.rest.term = X.term := rfl
 have hrme : X.rest.me = X.me := rfl
 unfold RN.cells at ex1
 rw [hrt, hrme] at ex1
 simp only [go_sem, f0, ex1, w1]
 show wItems (RSim Try.prog w0) _ _ (S1.set L.r (.cells (RN.cells X.elect L))) _ _
 generalize S1.set L.r (.cells _) = S2 at *
 refine wi_call ?_
 simp only [go_sem]
 refine hard_runs a3.w fun S4 v4 b4 k4 => ?_
 have a4 := a3.trans (RAft.new a3.w k4)
 have hone := b4.is.one
 have hcl := cells_one hone
 simp only [go_sem, hone, hcl]
 refine wi_call ?_
 simp only [go_sem]
 refine keep_runs (l := [X.elect.hardB]) (tl := .cap) a4.w ⟨[[v4]], rfl, fun e => (by cases e), fun c hc => by rw [List.mem_singleton.1 hc]; rfl, rfl, fun j c x hc hx => by
   cases j with
   | zero => simp only [List.getElem?_cons_zero, Option.some.injEq] at hc hx; subst hc; subst hx; exact ⟨v4, rfl, b4.is⟩
   | succ j => simp at hc⟩ (fun r hr => by rw [List.mem_singleton.1 hr]; omega) (by simp only [List.length_cons, List.length_nil]; show X.R.length + _ ≤ _; omega) fun S5 L5 a5 => ?_
 have a6 := a4.trans a5
 have hr5 : L5.r = L.r := a6.2.1
 unfold RN.runs at hQ
 by_cases e0 : (X.elect.keep [X.elect.hardB]).1 = 0
 ·have qe : ((X.elect.keep [X.elect.hardB]).1 != 0) = false := by rw [e0]; rfl
  rw [if_neg (by rw [e0]; simp)] at hQ
  obtain ⟨D', R', hff, hRl'⟩ : ∃ D R, (X.elect.keep [X.elect.hardB]).2 = X.elect.dr D R ∧ R.length ≤ X.R.length + 1 := by
   have hl := keepL_len [X.elect.hardB] X.elect.D X.elect.R
   unfold RN.keep at e0 ⊢
   simp only at e0 ⊢
   split
   ·exact ⟨_, _, rfl, hl⟩
   ·rename_i hne
    rw [if_neg hne] at e0
    exact absurd e0 hne
  simp only [go_sem, qe]
  refine wc_ite (b := false) (by simp only [go_sem] <;> rfl) (fun h => by cases h) (fun _ => ?_)
  refine tick_stand (L := L5) a6.w (by rw [hff]; show X.log.length + 30 ≤ _; omega) (by rw [hff]; show X.out.length + 35 ≤ _; omega) (by rw [hff]; show R'.length + 30 ≤ _; omega) (by simp only [go_sem, f0, hr5]) fun S' L' a => ?_
  exact hQ S' L' (a6.trans a)
 ·have qe : ((X.elect.keep [X.elect.hardB]).1 != 0) = true := by simpa using e0
  rw [if_pos e0] at hQ
  simp only [go_sem, qe]
  refine wc_ite (b := true) (by simp only [go_sem] <;> rfl) (fun _ => ?_) (fun h => by cases h)
  simp only [go_sem]
  exact hQ S5 L5 a6
theorem aged_ok {X : RN} (h : X.Ok) {d : Nat} (hd : d < 18446744073709551616) (hi : X.idle + 1 ≤ 1000000) : (X.aged d).Ok :=
 ⟨h.n0, h.n5, h.me, h.term, h.v0, h.vn, h.log, h.ll, h.cm, h.role, h.h0, h.hn, h.cand, h.lead, h.next, h.mat, hi, h.limit, hd, h.out, h.rl⟩
theorem tick_runs {w0 : World} {S : St} {Q : AEnd → St → Prop} {L : RL} {X : RN} {d : Nat} (h : RaftAt S L X) (hd : d < 18446744073709551616) (hi : X.idle + 1 ≤ 1000000) (hR : X.Wide) (ht : X.term + 1 < 9223372036854775808)
  (hQ : ∀ S' L', RAft S L X S' L' (X.tick d).2 → Q (.ret (.int .i64 (X.tick d).1)) S') : RSim Try.prog w0 n_raft_Node_Tick [.ptr (some (L.r, 0)), .int .u64 (d : Nat)] S Q := by
 have ex := h.ex
 have hk := h.ok
 have hlim := hk.limit
 have hRo := hR.out
 have w1 : IntKind.i64.wrap ((X.idle : Int) + 1) = ((X.idle + 1 : Nat) : Int) := by rw [w64 (by omega) (by omega)]; omega
 have p0 : ((X.role : Int) == 2) = decide (X.role = 2) := by rw [Bool.eq_iff_iff, beq_iff_eq, decide_eq_true_iff]; omega
 have p1 : decide (((X.idle + 1 : Nat) : Int) ≥ 2) = decide (2 ≤ X.idle + 1) := decide_eq_decide.mpr (by omega)
 have p2 : decide (((X.idle + 1 : Nat) : Int) < (X.limit : Int)) = decide (X.idle + 1 < X.limit) := decide_eq_decide.mpr (by omega)
 have a1 := h.put (X' := X.aged d) rfl rfl rfl rfl rfl rfl rfl (aged_ok hk hd hi) rfl
 unfold RN.tick at hQ
 have exX := ex
 unfold RN.cells at ex
 refine RSim.run mixed k_raft_Node_Tick ?_ (by simp)
 simp only [b_raft_Node_Tick, go_sem]
 refine wc_ite (b := false) (by simp only [go_sem] <;> rfl) (fun h => by cases h) (fun _ => ?_)
 simp only [go_sem, r_raft_Node_Tick_4, ex]
 refine wc_ite (b := X.bad) (by simp only [go_sem]) (fun hc => ?_) (fun hc => ?_)
 ·rw [if_pos hc] at hQ
  simp only [go_sem]
  exact hQ S L (RAft.refl h)
 rw [if_neg (by rw [hc]; simp)] at hQ
 clear hc
 simp only [go_sem, r_raft_Node_Tick_3, ex, w1, p0]
 refine wc_ite (b := decide (X.role = 2)) (by simp only [go_sem]) (fun hc => ?_) (fun hc => ?_)
 ·have hr := of_decide_eq_true hc
  rw [if_pos hr] at hQ
  simp only [go_sem, ex, p1]
  refine wc_ite (b := decide (2 ≤ X.idle + 1)) (by simp only [go_sem]) (fun hc => ?_) (fun hc => ?_)
  ·have h2 := of_decide_eq_true hc
   rw [if_pos h2] at hQ
   have a2 := h.put (X' := ({ X.aged d with idle := 0 } : RN)) rfl rfl rfl rfl rfl rfl rfl ⟨hk.n0, hk.n5, hk.me, hk.term, hk.v0, hk.vn, hk.log, hk.ll, hk.cm, hk.role, hk.h0, hk.hn, hk.cand, hk.lead, hk.next, hk.mat, Nat.zero_le _, hk.limit, hd, hk.out, hk.rl⟩ rfl
   simp only [go_sem, ex]
   show wItems (RSim Try.prog w0) _ _ (S.set L.r (.cells (RN.cells ({ X.aged d with idle := 0 } : RN) L))) _ _
   generalize S.set L.r (.cells (RN.cells ({ X.aged d with idle := 0 } : RN) L)) = S2 at *
   refine wi_call ?_
   simp only [go_sem]
   refine tell_runs a2.w hr (by show X.out.length + 5 ≤ _; omega) fun S' L' a => ?_
   simp only [go_sem]
   exact hQ S' L' (a2.trans a)
  ·have h2 := of_decide_eq_false hc
   rw [if_neg h2] at hQ
   simp only [go_sem]
   exact hQ _ L a1
 ·have hr := of_decide_eq_false hc
  rw [if_neg hr] at hQ
  simp only [go_sem, r_raft_Node_Tick_2, ex, p2]
  refine wc_ite (b := decide (X.idle + 1 < X.limit)) (by simp only [go_sem]) (fun hc => ?_) (fun hc => ?_)
  ·have h2 := of_decide_eq_true hc
   rw [if_pos h2] at hQ
   simp only [go_sem]
   exact hQ _ L a1
  ·have h2 := of_decide_eq_false hc
   rw [if_neg h2] at hQ
   refine tick_elect (L := L) a1.w hr ⟨hR.log, hR.out, hR.rl⟩ ht (by simp only [go_sem]) fun S' L' a => ?_
   exact hQ S' L' (a1.trans a)
end Go.VM
namespace Go.VM
open Go Go.RowKit Go.Proofs
def RN.leads (X : RN) : Bool := !X.bad && decide (X.role = 2)
def RN.propose (X : RN) (d : List UInt8) : Int × RN := if 200 < d.length then (2, X) else if X.leads = false then (12, X) else X.add d
section
variable {w0 : World} {S : St} {Q : AEnd → St → Prop} {L : RL} {X : RN}
theorem len_runs (h : RaftAt S L X) (hQ : Q (.ret (.int .i64 (X.log.length : Nat))) S) : RSim Try.prog w0 n_raft_Node_Len [.ptr (some (L.r, 0))] S Q := by
 have ex := h.ex
 obtain ⟨hE, _⟩ := h.lg
 obtain ⟨ce, he⟩ := hE.len
 unfold RN.cells at ex
 rw [he] at ex
 refine RSim.run mixed k_raft_Node_Len ?_ (by simp)
 simp only [b_raft_Node_Len, go_sem]
 refine wc_ite (b := false) (by simp only [go_sem] <;> rfl) (fun h => by cases h) (fun _ => ?_)
 simp only [go_sem, ex]
 exact hQ
theorem rsure_runs (h : RaftAt S L X) (hQ : Q (.ret (.int .i64 (X.commit : Nat))) S) : RSim Try.prog w0 n_raft_Node_Sure [.ptr (some (L.r, 0))] S Q := by
 have ex := h.ex
 unfold RN.cells at ex
 refine RSim.run mixed k_raft_Node_Sure ?_ (by simp)
 simp only [b_raft_Node_Sure, go_sem]
 refine wc_ite (b := false) (by simp only [go_sem] <;> rfl) (fun h => by cases h) (fun _ => ?_)
 simp only [go_sem, ex]
 exact hQ
theorem term_runs (h : RaftAt S L X) (hQ : Q (.ret (.int .u64 (X.term : Nat))) S) : RSim Try.prog w0 n_raft_Node_Term [.ptr (some (L.r, 0))] S Q := by
 have ex := h.ex
 unfold RN.cells at ex
 refine RSim.run mixed k_raft_Node_Term ?_ (by simp)
 simp only [b_raft_Node_Term, go_sem]
 refine wc_ite (b := false) (by simp only [go_sem] <;> rfl) (fun h => by cases h) (fun _ => ?_)
 simp only [go_sem, ex]
 exact hQ
theorem head_runs (h : RaftAt S L X) (hQ : Q (.ret (.int .i64 X.head)) S) : RSim Try.prog w0 n_raft_Node_Leader [.ptr (some (L.r, 0))] S Q := by
 have ex := h.ex
 unfold RN.cells at ex
 refine RSim.run mixed k_raft_Node_Leader ?_ (by simp)
 simp only [b_raft_Node_Leader, go_sem]
 refine wc_ite (b := false) (by simp only [go_sem] <;> rfl) (fun h => by cases h) (fun _ => ?_)
 simp only [go_sem, ex]
 exact hQ
theorem leads_runs (h : RaftAt S L X) (hQ : Q (.ret (.bool X.leads)) S) : RSim Try.prog w0 n_raft_Node_Leads [.ptr (some (L.r, 0))] S Q := by
 have ex := h.ex
 have p0 : ((X.role : Int) == 2) = decide (X.role = 2) := by rw [Bool.eq_iff_iff, beq_iff_eq, decide_eq_true_iff]; omega
 unfold RN.leads at hQ
 unfold RN.cells at ex
 cases hb : X.bad
 ·rw [hb] at ex hQ
  refine RSim.run mixed k_raft_Node_Leads ?_ (by simp)
  simp only [b_raft_Node_Leads, go_sem, ex, p0]
  exact hQ
 ·rw [hb] at ex hQ
  refine RSim.run mixed k_raft_Node_Leads ?_ (by simp)
  simp only [b_raft_Node_Leads, go_sem, ex, p0]
  exact hQ
theorem out_runs (h : RaftAt S L X) (hQ : ∀ S' L' v t, RAft S L X S' L' { X with out := [] } → IsSlice PkR 3 v X.out t → Q (.ret v) S') : RSim Try.prog w0 n_raft_Node_Out [.ptr (some (L.r, 0))] S Q := by
 have ex := h.ex
 have hk := h.ok
 have a : RAft S L X (S.set L.r (.cells (RN.cells { X with out := [] } { L with vo := .sl [] 0 3 .nil, to := .nil }))) { L with vo := .sl [] 0 3 .nil, to := .nil } { X with out := [] } := by
  have ok' : ({ X with out := [] } : RN).Ok := ⟨hk.n0, hk.n5, hk.me, hk.term, hk.v0, hk.vn, hk.log, hk.ll, hk.cm, hk.role, hk.h0, hk.hn, hk.cand, hk.lead, hk.next, hk.mat, hk.idle, hk.limit, hk.draw, Nat.zero_le _, hk.rl⟩
  refine RAft.of h ?_ h.d ok' rfl
  have a1 : Aft S (.list PkR 3 L.vo X.out L.to) S (.list PkR 3 (.sl [] 0 3 .nil) [] .nil) := ⟨⟨isSlice_nil PkR 3, trivial⟩, Keeps.refl _ _, fun j hj => by cases hj⟩
  have b1 := Aft.part h.h (m := [.cells L.r (X.cells L), .list LER 2 L.vl X.log L.tl, .row L.vv (X.votes.map V.bool) L.ov, .row L.vn (X.next.map natV) L.on, .row L.vm (X.mat.map natV) L.om, .wal L.i L.g L.D raftN X.R L.tw])
   (List.perm_middle (l₁ := [_, _])) a1 (List.perm_middle (l₁ := [Res.cells L.r (X.cells L), Res.list LER 2 L.vl X.log L.tl]))
  have h2 : Hold S _ := b1.p
  exact b1.trans (Aft.part h2 (List.Perm.refl _) (Aft.set h2.head) (List.Perm.refl _))
 obtain ⟨hO, _⟩ := h.ou
 have hone := hO.one
 have hcl := cells_one hone
 unfold RN.cells at ex a
 refine RSim.run mixed k_raft_Node_Out ?_ (by simp)
 simp only [b_raft_Node_Out, go_sem]
 refine wc_ite (b := false) (by simp only [go_sem] <;> rfl) (fun h => by cases h) (fun _ => ?_)
 simp only [go_sem, ex, hone, hcl]
 exact hQ _ _ _ _ a hO
theorem propose_runs {v : V} {d : List UInt8} (h : RaftAt S L X) (hv : IsBytes v d) (hR : X.Room) (hQ : ∀ S' L', RAft S L X S' L' (X.propose d).2 → Q (.ret (.int .i64 (X.propose d).1)) S') : RSim Try.prog w0 n_raft_Node_Propose [.ptr (some (L.r, 0)), v] S Q := by
 have ex := h.ex
 obtain ⟨t, rfl, ht⟩ := id hv
 have p0 : decide ((d.length : Int) > 200) = decide (200 < d.length) := decide_eq_decide.mpr (by omega)
 have p1 : ((X.role : Int) != 2) = decide (X.role ≠ 2) := by rw [Bool.eq_iff_iff, bne_iff_ne, decide_eq_true_iff]; omega
 unfold RN.propose RN.leads at hQ
 unfold RN.cells at ex
 refine RSim.run mixed k_raft_Node_Propose ?_ (by simp)
 simp only [b_raft_Node_Propose, go_sem]
 refine wc_ite (b := false) (by simp only [go_sem] <;> rfl) (fun h => by cases h) (fun _ => ?_)
 simp only [go_sem, p0]
 refine wc_ite (b := decide (200 < d.length)) (by simp only [go_sem]) (fun hc => ?_) (fun hc => ?_)
 ·rw [if_pos (of_decide_eq_true hc)] at hQ
  simp only [go_sem]
  exact hQ S L (RAft.refl h)
 have hd := of_decide_eq_false hc
 rw [if_neg hd] at hQ
 clear hc
 cases hb : X.bad
 ·rw [hb] at ex hQ
  by_cases hr : X.role = 2
  ·rw [decide_eq_false (by simpa using hr)] at p1
   rw [if_neg (by simp [hr])] at hQ
   simp only [go_sem, ex, p1]
   refine wc_ite (b := false) (by simp only [go_sem] <;> rfl) (fun h => by cases h) (fun _ => ?_)
   simp only [go_sem]
   refine wi_call ?_
   simp only [go_sem]
   refine add_runs h hr hv (by omega) hR fun S' L' a => ?_
   simp only [go_sem]
   exact hQ S' L' a
  ·rw [decide_eq_true hr] at p1
   rw [if_pos (by simp [hr])] at hQ
   simp only [go_sem, ex, p1]
   refine wc_ite (b := true) (by simp only [go_sem] <;> rfl) (fun _ => ?_) (fun h => by cases h)
   simp only [go_sem]
   exact hQ S L (RAft.refl h)
 ·rw [hb] at ex hQ
  rw [if_pos (by simp)] at hQ
  simp only [go_sem, ex]
  refine wc_ite (b := true) (by simp only [go_sem] <;> rfl) (fun _ => ?_) (fun h => by cases h)
  simp only [go_sem]
  exact hQ S L (RAft.refl h)
theorem entry_runs {i : Nat} {x : LE} (h : RaftAt S L X) (hi : 1 ≤ i) (hx : X.log[i - 1]? = some x) (hQ : ∀ S' v', IsBytes v' x.d → Keeps (fun _ => False) S S' → Q (.ret (.tup [v', .int .u64 (x.t : Nat), .int .i64 0])) S') : RSim Try.prog w0 n_raft_Node_Entry [.ptr (some (L.r, 0)), .int .i64 (i : Nat)] S Q := by
 have ex := h.ex
 have hll := h.ok.ll
 have hjl := (List.getElem?_eq_some_iff.1 hx).1
 have hxo := h.ok.log x (List.mem_of_getElem? hx)
 have hxd := hxo.d
 obtain ⟨hE, _⟩ := h.lg
 obtain ⟨ce, he⟩ := hE.len
 obtain ⟨dv, rest, hd, hdv, hne, _⟩ := le_at hE he hx
 have hdo := hdv.one
 have hjt : (i - 1 < X.log.length) = True := eq_true hjl
 have htn : (L.tl = .nil) = False := eq_false hne
 have w1 : IntKind.i64.wrap ((i : Int) - 1) = ((i - 1 : Nat) : Int) := by rw [w64 (by omega) (by omega)]; omega
 have q1 : decide ((i : Int) < 1) = false := decide_eq_false (by omega)
 have q2 : decide ((i : Int) > (X.log.length : Int)) = false := decide_eq_false (by omega)
 have ex0 := ex
 unfold RN.cells at ex
 rw [he] at ex
 refine RSim.run mixed k_raft_Node_Entry ?_ (by simp)
 simp only [b_raft_Node_Entry, go_sem, q1, q2, ex]
 refine wc_ite (b := false) (by simp only [go_sem] <;> rfl) (fun h => by cases h) (fun _ => ?_)
 simp only [go_sem, ex, w1, hjt, htn, hd]
 refine wi_call ?_
 simp only [go_sem]
 refine clone_runs hdv (by omega) fun S1 v1 b1 k1 => ?_
 have ex1 := k1.cells ex0 h.lt _root_.id
 unfold RN.cells at ex1
 rw [he] at ex1
 simp only [go_sem, ex1, w1, hjt, htn, hd]
 exact hQ S1 v1 b1 k1
end
end Go.VM
namespace Go.VM
open Go Go.RowKit Go.Proofs
inductive RC where
 | H (t : Nat) (v : Int)
 | E (i : Nat) (x : LE)
 deriving DecidableEq
def RC.b : RC → List UInt8
 | .H t v => 72 :: (uvar t ++ uvar (v + 1).toNat)
 | .E i x => recE i x
def RN.play (X : RN) : RC → RN
 | .H t v => { X with term := t, vote := v }
 | .E i x => { X with log := X.log.take (i - 1) ++ [x] }
def RC.Fit (X : RN) : RC → Prop
 | .H t v => t < 9223372036854775808 ∧ -1 ≤ v ∧ v < X.n
 | .E i x => 1 ≤ i ∧ i ≤ X.log.length + 1 ∧ x.Ok ∧ X.log.length + 1 ≤ 1000000
theorem ruv_one {x : Nat} (h : x < 9223372036854775808) (rest : List UInt8) : ruv 0 0 (uvar x ++ rest) = some (x, (uvar x).length) := by
 have hl := uvar_len x 9 (by omega) (by decide)
 have := ruv_uvar x 0 0 rest (by omega) (fun h => absurd h (by decide))
 simpa using this
theorem play_hard_ok {X : RN} (h : X.Ok) {t : Nat} {v : Int} (ht : t < 9223372036854775808) (h1 : -1 ≤ v) (h2 : v < X.n) : ({ X with term := t, vote := v } : RN).Ok :=
 ⟨h.n0, h.n5, h.me, ht, h1, h2, h.log, h.ll, h.cm, h.role, h.h0, h.hn, h.cand, h.lead, h.next, h.mat, h.idle, h.limit, h.draw, h.out, h.rl⟩
theorem replay_runs {w0 : World} {S : St} {Q : AEnd → St → Prop} {L : RL} {X : RN} {c : RC} {v : V} (h : RaftAt S L X) (hr : X.role ≠ 2) (hv : IsBytes v c.b) (hc : c.Fit X) (hQ : ∀ S' L', RAft S L X S' L' (X.play c) → (L'.g = L.g ∧ L'.D = L.D ∧ L'.tw = L.tw) → Q (.ret (.bool true)) S') : RSim Try.prog w0 n_raft_Node_replay [.ptr (some (L.r, 0)), v] S Q := by
 have hk := h.ok
 have hn5 := hk.n5
 have ex := h.ex
 have exX := ex
 cases c with
 | H t w =>
  obtain ⟨ht, hw1, hw2⟩ := hc
  obtain ⟨k, hkw⟩ : ∃ k : Nat, w = (k : Int) - 1 := ⟨(w + 1).toNat, by omega⟩
  have hkn : (w + 1).toNat = k := by omega
  simp only [RC.b, hkn] at hv
  obtain ⟨tk, rfl, htk⟩ := id hv
  have hne : tk ≠ .nil := fun e => by have := htk e; cases this
  have htn : (tk = .nil) = False := eq_false hne
  have u1 := uvar_len10 (v := t) (by omega)
  have u2 := uvar_len10 (v := k) (by omega)
  have hlen : (72 :: (uvar t ++ uvar k) : List UInt8).length = 1 + (uvar t).length + (uvar k).length := by simp; omega
  have p0 : (((72 :: (uvar t ++ uvar k) : List UInt8).length : Int) == 0) = false := by rw [hlen, Bool.eq_false_iff, ne_eq, beq_iff_eq]; omega
  have hr1 : ruv 0 0 ((72 :: (uvar t ++ uvar k) : List UInt8).drop 1) = some (t, (uvar t).length) := ruv_one ht _
  have hr2 : ruv 0 0 ((72 :: (uvar t ++ uvar k) : List UInt8).drop (1 + (uvar t).length)) = some (k, (uvar k).length) := by
   have e : (72 :: (uvar t ++ uvar k) : List UInt8).drop (1 + (uvar t).length) = uvar k := by rw [Nat.add_comm, List.drop_succ_cons, List.drop_left]
   rw [e]
   have := ruv_one (x := k) (by omega) []
   rwa [List.append_nil] at this
  have d0 : ((72 :: (uvar t ++ uvar k) : List UInt8).map u8V).drop (0 * 1) = .int .u8 72 :: (uvar t ++ uvar k).map u8V := rfl
  have e72 : ((72 : Int) == 72) = true := rfl
  have hp : (0 < (72 :: (uvar t ++ uvar k) : List UInt8).length) = True := eq_true (by rw [hlen]; omega)
  have cv : ∀ S, V.conv S (.int .i64) (.int .u64 (k : Int)) = some (.int .i64 (k : Int)) := fun S => by simp only [V.conv]; rw [w64 (by omega) (by omega)]
  have w1 : IntKind.i64.wrap ((k : Int) - 1) = w := by rw [w64 (by omega) (by omega)]; omega
  have p1 : ((((1 + (uvar t).length + (uvar k).length : Nat) : Int)) == (((72 :: (uvar t ++ uvar k) : List UInt8).length : Nat) : Int)) = true := by rw [hlen]; simp
  have p2 : decide (w < (X.n : Int)) = true := decide_eq_true hw2
  have a := h.put (X' := { X with term := t, vote := w }) rfl rfl rfl rfl rfl rfl rfl (play_hard_ok hk ht hw1 hw2) rfl
  unfold RN.cells at ex a
  generalize hB : (72 :: (uvar t ++ uvar k) : List UInt8) = B at *
  refine RSim.run mixed k_raft_Node_replay ?_ (by simp)
  simp only [b_raft_Node_replay, go_sem, p0]
  refine wc_ite (b := false) (by simp only [go_sem] <;> rfl) (fun h => by cases h) (fun _ => ?_)
  simp only [go_sem]
  refine wi_call ?_
  simp only [go_sem]
  refine readUvarint_runs (p := 1) (by omega) (by omega) htk (fun v1 k1 e1 hv1 hk1 => ?_) fun e1 => by rw [hr1] at e1; cases e1
  rw [hr1] at e1
  injection e1 with e1
  injection e1 with e1 e2
  subst e1
  subst e2
  simp only [go_sem]
  refine wc_ite (b := false) (by simp only [go_sem] <;> rfl) (fun h => by cases h) (fun _ => ?_)
  simp only [go_sem]
  refine wi_call ?_
  simp only [go_sem]
  refine readUvarint_runs (p := 1 + (uvar t).length) (by omega) (by omega) htk (fun v2 k2 e1 hv2 hk2 => ?_) fun e1 => by rw [hr2] at e1; cases e1
  rw [hr2] at e1
  injection e1 with e1
  injection e1 with e1 e2
  subst e1
  subst e2
  simp only [go_sem]
  refine wc_ite (b := false) (by simp only [go_sem] <;> rfl) (fun h => by cases h) (fun _ => ?_)
  simp only [go_sem, i_raft_Node_replay_0, htn, toN0, hp, d0, e72]
  refine wc_ite (b := true) (by simp only [go_sem] <;> rfl) (fun _ => ?_) (fun h => by cases h)
  simp only [go_sem, ex, cv, w1, p1, p2]
  exact hQ _ L a ⟨rfl, rfl, rfl⟩
 | E i x =>
  obtain ⟨hi1, hi2, hxo, hll⟩ := hc
  have hxt := hxo.t
  have hxd := hxo.d
  simp only [RC.b, recE] at hv
  have hv0 := hv
  obtain ⟨tk, rfl, htk⟩ := id hv
  have hne : tk ≠ .nil := fun e => by have := htk e; cases this
  have htn : (tk = .nil) = False := eq_false hne
  have u1 := uvar_len10 (v := i) (by omega)
  have u2 := uvar_len10 (v := x.t) (by omega)
  have hlen : (69 :: (uvar i ++ uvar x.t ++ x.d) : List UInt8).length = 1 + (uvar i).length + (uvar x.t).length + x.d.length := by simp; omega
  have p0 : (((69 :: (uvar i ++ uvar x.t ++ x.d) : List UInt8).length : Int) == 0) = false := by rw [hlen, Bool.eq_false_iff, ne_eq, beq_iff_eq]; omega
  have hr1 : ruv 0 0 ((69 :: (uvar i ++ uvar x.t ++ x.d) : List UInt8).drop 1) = some (i, (uvar i).length) := by
   rw [List.drop_succ_cons, List.drop_zero, List.append_assoc]; exact ruv_one (by omega) _
  have hr2 : ruv 0 0 ((69 :: (uvar i ++ uvar x.t ++ x.d) : List UInt8).drop (1 + (uvar i).length)) = some (x.t, (uvar x.t).length) := by
   have e : (69 :: (uvar i ++ uvar x.t ++ x.d) : List UInt8).drop (1 + (uvar i).length) = uvar x.t ++ x.d := by rw [Nat.add_comm, List.drop_succ_cons, List.append_assoc, List.drop_left]
   rw [e]
   exact ruv_one hxt _
  have hdd : (69 :: (uvar i ++ uvar x.t ++ x.d) : List UInt8).drop (1 + (uvar i).length + (uvar x.t).length) = x.d := by
   rw [show 1 + (uvar i).length + (uvar x.t).length = (uvar i ++ uvar x.t).length + 1 by rw [List.length_append]; omega, List.drop_succ_cons, List.drop_left]
  have d0 : ((69 :: (uvar i ++ uvar x.t ++ x.d) : List UInt8).map u8V).drop (0 * 1) = .int .u8 69 :: (uvar i ++ uvar x.t ++ x.d).map u8V := rfl
  have e72 : ((69 : Int) == 72) = false := rfl
  have e69 : ((69 : Int) == 69) = true := rfl
  have hp : (0 < (69 :: (uvar i ++ uvar x.t ++ x.d) : List UInt8).length) = True := eq_true (by rw [hlen]; omega)
  have cv : ∀ S, V.conv S (.int .u64) (.int .i64 (X.log.length : Int)) = some (.int .u64 (X.log.length : Int)) := fun S => by simp only [V.conv]; rw [wu64 (by omega) (by omega)]
  have w1 : IntKind.u64.wrap ((X.log.length : Int) + 1) = ((X.log.length + 1 : Nat) : Int) := by rw [wu64 (by omega) (by omega)]; omega
  have w2 : IntKind.u64.wrap ((i : Int) - 1) = ((i - 1 : Nat) : Int) := by rw [wu64 (by omega) (by omega)]; omega
  have p1 : decide ((i : Int) ≥ 1) = true := decide_eq_true (by omega)
  have p2 : decide ((i : Int) ≤ ((X.log.length + 1 : Nat) : Int)) = true := decide_eq_true (by omega)
  have hb : i - 1 ≤ X.log.length := by omega
  obtain ⟨v', t', hcut, hE', ht'⟩ := cut_log h.lg.1 hb 86 88
  obtain ⟨ce, he⟩ := h.lg.1.len
  have i1 : (V.int .u64 ((i - 1 : Nat) : Int)).idx = some (i - 1) := by simp [V.idx]
  have hlt : (X.log.take (i - 1)).length = i - 1 := by rw [List.length_take]; omega
  have okl : ∀ y ∈ X.log.take (i - 1) ++ [x], y.Ok := fun y hy => (List.mem_append.1 hy).elim (fun hy => hk.log y (List.mem_of_mem_take hy)) fun hy => by rw [List.mem_singleton.1 hy]; exact hxo
  have ok' := logx_ok hk hr (l := X.log.take (i - 1) ++ [x]) (by simp only [List.length_append, hlt, List.length_cons, List.length_nil]; omega) okl
  have hno : ∀ j, ¬ tokOwn t' j := fun j hj => by rcases ht' with rfl | rfl <;> cases hj
  have hB2 : (1 + (uvar i).length + (uvar x.t).length ≤ (69 :: (uvar i ++ uvar x.t ++ x.d) : List UInt8).length) = True := eq_true (by rw [hlen]; omega)
  have hcutB : IsBytes (.sl (List.take (((69 :: (uvar i ++ uvar x.t ++ x.d) : List UInt8).length - (1 + (uvar i).length + (uvar x.t).length)) * 1) (List.drop ((1 + (uvar i).length + (uvar x.t).length) * 1) (List.map u8V (69 :: (uvar i ++ uvar x.t ++ x.d))))) ((69 :: (uvar i ++ uvar x.t ++ x.d) : List UInt8).length - (1 + (uvar i).length + (uvar x.t).length)) 1 tk) x.d := by
   rw [Nat.mul_one, Nat.mul_one, ← List.map_drop, hdd, hlen, Nat.add_sub_cancel_left, List.take_of_length_le (by simp)]
   exact ⟨tk, rfl, fun e => absurd e hne⟩
  have exl := ex
  unfold RN.cells at ex exl
  rw [he] at exl
  generalize hB : (69 :: (uvar i ++ uvar x.t ++ x.d) : List UInt8) = B at *
  refine RSim.run mixed k_raft_Node_replay ?_ (by simp)
  simp only [b_raft_Node_replay, go_sem, p0]
  refine wc_ite (b := false) (by simp only [go_sem] <;> rfl) (fun h => by cases h) (fun _ => ?_)
  simp only [go_sem]
  refine wi_call ?_
  simp only [go_sem]
  refine readUvarint_runs (p := 1) (by omega) (by omega) htk (fun v1 k1 e1 hv1 hk1 => ?_) fun e1 => by rw [hr1] at e1; cases e1
  rw [hr1] at e1
  injection e1 with e1
  injection e1 with e1 e2
  subst e1
  subst e2
  simp only [go_sem]
  refine wc_ite (b := false) (by simp only [go_sem] <;> rfl) (fun h => by cases h) (fun _ => ?_)
  simp only [go_sem]
  refine wi_call ?_
  simp only [go_sem]
  refine readUvarint_runs (p := 1 + (uvar i).length) (by omega) (by omega) htk (fun v2 k2 e1 hv2 hk2 => ?_) fun e1 => by rw [hr2] at e1; cases e1
  rw [hr2] at e1
  injection e1 with e1
  injection e1 with e1 e2
  subst e1
  subst e2
  simp only [go_sem]
  refine wc_ite (b := false) (by simp only [go_sem] <;> rfl) (fun h => by cases h) (fun _ => ?_)
  simp only [go_sem, i_raft_Node_replay_0, htn, toN0, hp, d0, e72]
  refine wc_ite (b := false) (by simp only [go_sem] <;> rfl) (fun h => by cases h) (fun _ => ?_)
  simp only [go_sem, htn, toN0, hp, d0, e69, p1, exl, cv, w1, p2]
  refine wc_ite (b := true) (by simp only [go_sem] <;> rfl) (fun _ => ?_) (fun h => by cases h)
  simp only [go_sem, ex, w2, i1, hcut, htn, hB2]
  refine wi_call ?_
  simp only [go_sem]
  refine clone_runs hcutB (by omega) fun S1 v1 b1 kk1 => ?_
  have h1 := h.stay kk1
  have ex1 := h1.ex
  have hdo := b1.one
  have hdc := cells_one hdo
  have htk1 : TokOk S1 t' := by rcases ht' with rfl | rfl <;> trivial
  unfold RN.cells at ex1
  simp only [go_sem, ex1, hdo, hdc]
  refine wi_appendR (v := v') (l := X.log.take (i - 1)) (y := x) (c := [.int .u64 (x.t : Nat), v1]) (by simp only [go_sem]) hE' (by simp only [go_sem]; rfl) rfl ⟨v1, rfl, b1⟩ (by rw [hlt]; omega) htk1 fun tl' S2 vl' hE2 k2 ht2 hn2 hne2 => ?_
  have k2F : Keeps (fun _ => False) S1 S2 := k2.mono fun j _ hj => hno j hj
  have a2 := (RAft.new h kk1).trans (h1.setLog (log' := X.log.take (i - 1) ++ [x]) (k2.mono fun j _ hj => (hno j hj).elim) hE2 ht2 hn2 ok' rfl)
  have ex2 := k2F.cells h1.ex h1.lt _root_.id
  obtain ⟨cl2, hvl2⟩ := hE2.len
  subst hvl2
  unfold RN.cells at ex2 a2
  simp only [go_sem, ex2]
  exact hQ _ _ a2 ⟨rfl, rfl, rfl⟩
end Go.VM
namespace Go.VM
open Go Go.RowKit Go.Proofs
def RN.zero (D : DS) (R : List (List UInt8)) (me n : Nat) : RN := ⟨D, R, me, n, 0, -1, [], 0, 0, -1, [], [], [], 0, 10, 0, [], false⟩
def RN.plays (X : RN) (l : List RC) : RN := l.foldl RN.play X
def Fits (n : Nat) : Nat → List RC → Prop
 | _, [] => True
 | k, .H t v :: l => (t < 9223372036854775808 ∧ -1 ≤ v ∧ v < n) ∧ Fits n k l
 | k, .E i x :: l => (1 ≤ i ∧ i ≤ k + 1 ∧ x.Ok ∧ k + 1 ≤ 1000000) ∧ Fits n i l
theorem play_role (X : RN) (c : RC) : (X.play c).role = X.role ∧ (X.play c).n = X.n := by cases c <;> exact ⟨rfl, rfl⟩
theorem plays_role (X : RN) (l : List RC) : (X.plays l).role = X.role ∧ (X.plays l).n = X.n := by
 induction l generalizing X with
 | nil => exact ⟨rfl, rfl⟩
 | cons c l ih => exact ⟨(ih (X.play c)).1.trans (play_role X c).1, (ih (X.play c)).2.trans (play_role X c).2⟩
theorem fits_at {n : Nat} : ∀ (l : List RC) (X : RN), X.n = n → Fits n X.log.length l → ∀ (j : Nat) (c : RC), l[j]? = some c → c.Fit (X.plays (l.take j))
 | [], X, _, _, j, c, h => by simp at h
 | .H t v :: l, X, hn, hf, 0, c, h => by
  simp only [List.getElem?_cons_zero, Option.some.injEq] at h
  subst h
  obtain ⟨⟨h1, h2, h3⟩, _⟩ := hf
  exact ⟨h1, h2, by rw [show ((X.plays (List.take 0 (RC.H t v :: l))).n) = X.n from rfl, hn]; exact h3⟩
 | .E i x :: l, X, hn, hf, 0, c, h => by
  simp only [List.getElem?_cons_zero, Option.some.injEq] at h
  subst h
  exact hf.1
 | .H t v :: l, X, hn, hf, j + 1, c, h => by
  simp only [List.getElem?_cons_succ] at h
  exact fits_at l (X.play (.H t v)) hn hf.2 j c h
 | .E i x :: l, X, hn, hf, j + 1, c, h => by
  simp only [List.getElem?_cons_succ] at h
  obtain ⟨⟨h1, h2, _, _⟩, h3⟩ := hf
  refine fits_at l (X.play (.E i x)) hn ?_ j c h
  have : (X.play (.E i x)).log.length = i := by
   show (X.log.take (i - 1) ++ [x]).length = i
   rw [List.length_append, List.length_take, List.length_singleton]; omega
  rw [this]; exact h3
theorem plays_snoc (X : RN) (l : List RC) (c : RC) : X.plays (l ++ [c]) = (X.plays l).play c := by
 unfold RN.plays
 rw [List.foldl_append]; rfl
theorem zero_ok {D : DS} {R : List (List UInt8)} {me n : Nat} (h0 : 1 ≤ n) (h5 : n ≤ 5) (hm : me < n) (hR : R.length ≤ 1000000) : (RN.zero D R me n).Ok :=
 ⟨h0, h5, hm, show 0 < 9223372036854775808 by decide, by simp only [RN.zero]; omega, by simp only [RN.zero]; omega, fun x hx => (by cases hx), show 0 ≤ 1000000 by decide, show 0 ≤ 1000000 by decide, show 0 ≤ 2 by decide, by simp only [RN.zero]; omega, by simp only [RN.zero]; omega, Nat.zero_le _, fun h => (by cases h), fun k hk => (by cases hk), fun k hk => (by cases hk), Nat.zero_le _, show 10 ≤ 20 by decide, show 0 < 18446744073709551616 by decide, Nat.zero_le _, hR⟩
theorem RC.b_len {X : RN} {c : RC} (h : c.Fit X) (hn : X.n ≤ 5) : c.b.length ≤ 100000000000000 := by
 cases c with
 | H t v =>
  obtain ⟨h1, h2, h3⟩ := h
  have u1 := uvar_len10 (v := t) (by omega)
  have u2 := uvar_len10 (v := (v + 1).toNat) (by omega)
  simp only [RC.b, List.length_cons, List.length_append]; omega
 | E i x =>
  obtain ⟨h1, h2, h3, h4⟩ := h
  have := recE_len (i := i) h3 (by omega)
  show (recE i x).length ≤ _
  omega
theorem zero_at {S : St} {i g : Nat} {D : Dk} {R : List (List UInt8)} {t : Tok} {me n : Nat} (hw : WalAt S i g D raftN R t) (h0 : 1 ≤ n) (h5 : n ≤ 5) (hm : me < n) (hR : R.length ≤ 1000000) {cs : List V}
  (hcs : cs = (RN.zero D.abs R me n).cells ⟨S.n, g, i, D, t, .sl [] 0 2 .nil, .nil, .sl [] 0 3 .nil, .nil, .sl [] 0 1 .nil, 0, .sl [] 0 1 .nil, 0, .sl [] 0 1 .nil, 0⟩) :
  RaftAt (S.add (.cells cs)) ⟨S.n, g, i, D, t, .sl [] 0 2 .nil, .nil, .sl [] 0 3 .nil, .nil, .sl [] 0 1 .nil, 0, .sl [] 0 1 .nil, 0, .sl [] 0 1 .nil, 0⟩ (RN.zero D.abs R me n) := by
 subst hcs
 have k : Keeps (fun _ => False) S (S.add (.cells ((RN.zero D.abs R me n).cells ⟨S.n, g, i, D, t, .sl [] 0 2 .nil, .nil, .sl [] 0 3 .nil, .nil, .sl [] 0 1 .nil, 0, .sl [] 0 1 .nil, 0, .sl [] 0 1 .nil, 0⟩))) := (Keeps.refl _ S).add _
 refine ⟨⟨Res.cells_new S _, ?_, ⟨isSlice_nil LER 2, trivial⟩, (fun y hy j hj => by cases hj), ⟨isSlice_nil PkR 3, trivial⟩, (fun y hy j hj => by cases hj), RowAt.nil _ 1 0, (fun y hy j hj => (hj.1 rfl).elim), RowAt.nil _ 1 0, (fun y hy j hj => (hj.1 rfl).elim), RowAt.nil _ 1 0, (fun y hy j hj => (hj.1 rfl).elim), hw.stay k, (fun y hy => by cases hy), trivial⟩, rfl, zero_ok h0 h5 hm hR⟩
 intro y hy j hj hyj
 have hj' : j = S.n := hj
 simp only [List.mem_cons, List.not_mem_nil, or_false] at hy
 rcases hy with rfl | rfl | rfl | rfl | rfl | rfl
 ·cases hyj
 ·cases hyj
 ·exact hyj.1 rfl
 ·exact hyj.1 rfl
 ·exact hyj.1 rfl
 ·have := hw.own_lt hyj; omega
theorem raftOpen_runs {w0 : World} {S : St} {Q : AEnd → St → Prop} {i me n : Nat} {D : Dk} {cs : List RC} {P : St → Nat → Dk → Tok → Prop} (h0 : 1 ≤ n) (h5 : n ≤ 5) (hm : me < n) (hf : Fits n 0 cs) (hcl : cs.length ≤ 1000000)
  (hwal : ∀ Q' : AEnd → St → Prop, (∀ S' D' g t, OAfter S i D S' g D' t raftN (cs.map RC.b) → P S' g D' t → Q' (.ret (.tup [.ptr (some (g, 0)), .int .i64 0])) S') → RSim Try.prog w0 n_wal_Open [.ptr (some (i, 0)), .str (mkS raftN)] S Q')
  (hQ : ∀ S1 S' L, P S1 L.g L.D L.tw → RaftAt S' L ((RN.zero L.D.abs (cs.map RC.b) me n).plays cs) → L.i = i → Keeps (ownD i D) S S' → (∀ j, (Res.raft L ((RN.zero L.D.abs (cs.map RC.b) me n).plays cs)).own j → ownD i D j ∨ S.n ≤ j) → Q (.ret (.tup [.ptr (some (L.r, 0)), .int .i64 0])) S') :
  RSim Try.prog w0 n_raft_Open [.ptr (some (i, 0)), .int .i64 (me : Nat), .int .i64 (n : Nat)] S Q := by
 have q1 : decide ((n : Int) < 1) = false := decide_eq_false (by omega)
 have q2 : decide ((n : Int) > 5) = false := decide_eq_false (by omega)
 have q3 : decide ((me : Int) < 0) = false := decide_eq_false (by omega)
 have q4 : decide ((me : Int) ≥ (n : Int)) = false := decide_eq_false (by omega)
 have hRl : (cs.map RC.b).length = cs.length := List.length_map ..
 refine RSim.run mixed k_raft_Open ?_ (by simp)
 simp only [b_raft_Open, go_sem, q1, q2, q3, q4]
 refine wc_ite (b := false) (by simp only [go_sem] <;> rfl) (fun h => by cases h) (fun _ => ?_)
 simp only [go_sem]
 refine wi_call ?_
 simp only [go_sem]
 refine hwal _ fun S1 D1 g t O hP => ?_
 simp only [go_sem]
 refine wc_ite (b := false) (by simp only [go_sem] <;> rfl) (fun h => by cases h) (fun _ => ?_)
 have hz := zero_at (me := me) O.w h0 h5 hm (by omega) rfl
 unfold RN.cells at hz
 simp only [go_sem]
 have k2 : Keeps (fun _ => False) S1 (S1.add (.cells (RN.cells (RN.zero D1.abs (cs.map RC.b) me n) ⟨S1.n, g, i, D1, t, .sl [] 0 2 .nil, .nil, .sl [] 0 3 .nil, .nil, .sl [] 0 1 .nil, 0, .sl [] 0 1 .nil, 0, .sl [] 0 1 .nil, 0⟩))) := (Keeps.refl _ _).add _
 show wItems (RSim Try.prog w0) _ _ (S1.add (.cells (RN.cells (RN.zero D1.abs (cs.map RC.b) me n) ⟨S1.n, g, i, D1, t, .sl [] 0 2 .nil, .nil, .sl [] 0 3 .nil, .nil, .sl [] 0 1 .nil, 0, .sl [] 0 1 .nil, 0, .sl [] 0 1 .nil, 0⟩))) _ _
 change RaftAt (S1.add (.cells (RN.cells (RN.zero D1.abs (cs.map RC.b) me n) ⟨S1.n, g, i, D1, t, .sl [] 0 2 .nil, .nil, .sl [] 0 3 .nil, .nil, .sl [] 0 1 .nil, 0, .sl [] 0 1 .nil, 0, .sl [] 0 1 .nil, 0⟩))) _ _ at hz
 generalize hS2 : S1.add (.cells (RN.cells (RN.zero D1.abs (cs.map RC.b) me n) ⟨S1.n, g, i, D1, t, .sl [] 0 2 .nil, .nil, .sl [] 0 3 .nil, .nil, .sl [] 0 1 .nil, 0, .sl [] 0 1 .nil, 0, .sl [] 0 1 .nil, 0⟩)) = S2 at *
 refine wi_call ?_
 simp only [go_sem]
 refine logLen_runs (L := cs.map RC.b) hz.w ?_
 simp only [go_sem]
 generalize hL0 : (⟨S1.n, g, i, D1, t, .sl [] 0 2 .nil, .nil, .sl [] 0 3 .nil, .nil, .sl [] 0 1 .nil, 0, .sl [] 0 1 .nil, 0, .sl [] 0 1 .nil, 0⟩ : RL) = L0 at *
 have hr0 : L0.r = S1.n := by rw [← hL0]
 have hi0 : L0.i = i := by rw [← hL0]
 have hg0 : L0.g = g ∧ L0.D = D1 ∧ L0.tw = t := by rw [← hL0]; exact ⟨rfl, rfl, rfl⟩
 refine loop_rule RSim.le (k := cs.length) (fun q fr Sa => ∃ (j : Nat) (La : RL), q = cs.length - j ∧ j ≤ cs.length ∧ fr 8 = .ptr (some (g, 0)) ∧ fr 10 = .ptr (some (L0.r, 0)) ∧ fr 43 = .int .i64 (cs.length : Nat) ∧ fr 44 = .int .i64 (j : Nat) ∧
   RAft S2 L0 (RN.zero D1.abs (cs.map RC.b) me n) Sa La ((RN.zero D1.abs (cs.map RC.b) me n).plays (cs.take j)) ∧ La.g = g ∧ La.D = D1 ∧ La.tw = t) ?_
  ⟨0, L0, rfl, by omega, by simp only [go_sem], by simp only [go_sem, hr0], by simp only [go_sem, hRl], by simp only [go_sem]; rfl, RAft.refl hz, hg0.1, hg0.2.1, hg0.2.2⟩
 rintro q fr Sa ⟨j, La, hq, hj, f8, f10, f43, f44, hA, hg, hD, htw⟩
 have hr : La.r = L0.r := hA.2.1
 have hi : La.i = i := hA.2.2.trans hi0
 simp only [l_raft_Open_0, go_sem, f43, f44]
 refine wc_ite (b := decide ((j : Int) < (cs.length : Int))) (by simp only [go_sem]) (fun hc => ?_) (fun hc => ?_)
 ·have hlt : j < cs.length := by have := of_decide_eq_true hc; omega
  have w1 : IntKind.i64.wrap ((j : Int) + 1) = ((j + 1 : Nat) : Int) := by rw [w64 (by omega) (by omega)]; omega
  obtain ⟨c, hcj⟩ : ∃ c, cs[j]? = some c := ⟨_, List.getElem?_eq_getElem hlt⟩
  have hfit := fits_at cs (RN.zero D1.abs (cs.map RC.b) me n) rfl hf j c hcj
  have hrc : ((RN.zero D1.abs (cs.map RC.b) me n).plays (cs.take j)).R[j]? = some c.b := by
   have e : ((RN.zero D1.abs (cs.map RC.b) me n).plays (cs.take j)).R = cs.map RC.b := by
    have key : ∀ (l : List RC) (X : RN), (X.plays l).R = X.R := by
     intro l
     induction l with
     | nil => intro X; rfl
     | cons c l ih => intro X; exact (ih (X.play c)).trans (by cases c <;> rfl)
    exact key _ _
   rw [e, List.getElem?_map, hcj]; rfl
  have hpr := plays_role (RN.zero D1.abs (cs.map RC.b) me n) (cs.take j)
  simp only [go_sem, f8, f44]
  refine wi_call ?_
  simp only [go_sem]
  have hwA := hA.w.w
  rw [hg] at hwA
  refine logAt_runs hwA hrc (RC.b_len hfit (by rw [hpr.2]; exact h5)) fun Sb v hv kb => ?_
  have hB := hA.trans (RAft.new hA.w kb)
  simp only [go_sem, f10]
  refine wi_call ?_
  simp only [go_sem]
  rw [← hr]
  refine replay_runs hB.w (by rw [hpr.1]; show (0 : Nat) ≠ 2; decide) hv hfit fun Sc Lc a hl => ?_
  have hC := hB.trans a
  simp only [go_sem]
  refine wc_ite (b := false) (by simp only [go_sem] <;> rfl) (fun h => by cases h) (fun _ => ?_)
  simp only [go_sem, f44, w1]
  have ht : cs.take (j + 1) = cs.take j ++ [c] := take_snoc hcj
  refine ⟨cs.length - (j + 1), by omega, j + 1, Lc, rfl, by omega, f8, by rw [hr]; exact f10, f43, rfl, ?_, hl.1.trans hg, hl.2.1.trans hD, hl.2.2.trans htw⟩
  rw [ht, plays_snoc]
  exact hC
 ·have hje : j = cs.length := by have := of_decide_eq_false hc; omega
  subst hje
  rw [List.take_length] at hA
  simp only [go_sem, f10]
  have hD' := hD.symm
  subst hD'
  rw [← hr]
  subst hL0
  refine hQ S1 Sa La (by rw [hg, htw]; exact hP) hA.w hi ?_ ?_
  ·refine (O.k.trans k2 fun _ _ h => h.elim).trans hA.1.k fun j hj ho => ?_
   obtain ⟨x, hx, hj2⟩ := ho
   simp only [parts, List.mem_cons, List.not_mem_nil, or_false] at hx
   rcases hx with rfl | rfl | rfl | rfl | rfl | rfl | rfl
   ·have : j = S1.n := hj2; have := O.k.n; omega
   ·cases hj2
   ·cases hj2
   ·exact (hj2.1 rfl).elim
   ·exact (hj2.1 rfl).elim
   ·exact (hj2.1 rfl).elim
   ·exact (O.o j hj2).elim (fun h => h) fun h => by omega
  ·intro j hj
   rcases hA.1.o j hj with ho | ho
   ·obtain ⟨x, hx, hj2⟩ := ho
    simp only [parts, List.mem_cons, List.not_mem_nil, or_false] at hx
    rcases hx with rfl | rfl | rfl | rfl | rfl | rfl | rfl
    ·have : j = S1.n := hj2; have := O.k.n; exact .inr (by omega)
    ·cases hj2
    ·cases hj2
    ·exact (hj2.1 rfl).elim
    ·exact (hj2.1 rfl).elim
    ·exact (hj2.1 rfl).elim
    ·exact O.o j hj2
   ·have h1 := O.k.n
    have h2 := k2.n
    exact .inr (by omega)
end Go.VM
