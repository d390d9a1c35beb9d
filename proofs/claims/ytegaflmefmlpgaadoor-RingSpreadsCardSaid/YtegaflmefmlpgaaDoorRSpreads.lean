/-
  RingSpreads: the walk. NEWPP
-/
import Derived.Test.YtegaflmefmlpgaaDoorRSpread
import Derived.Test.YtegaflmefmlpgaaDoorRLaws
set_option maxRecDepth 20000
set_option linter.unusedVariables false
set_option linter.unusedSimpArgs false
namespace Go.VM
open Go Go.RowKit Go.Proofs

def boolC (b : Bool) : List V := [.bool b]
theorem boolC_len (b : Bool) : (boolC b).length = 1 := rfl
theorem u8c {x : Nat} (h : x < 256) : u8V (UInt8.ofNat x) = .int .u8 (x : Int) := by
  have : (UInt8.ofNat x).toNat = x := by simp; omega
  simp only [u8V, this]
theorem idB_conv {f i : Nat} (hf : f < 26) (hi : i < 400) (S : St) : V.conv S .bytesStr (.sl [.int .u8 ((97 + f : Nat) : Int), .int .u8 ((97 + i % 20 : Nat) : Int), .int .u8 ((97 + i / 20 : Nat) : Int)] 3 1 .cap) = some (.str (mkS (idB f i))) := by
  have := (isBytes_mk (idB f i) (t := .cap) (by intro h; cases h)).convS S
  simp only [idB, List.map_cons, List.map_nil, List.length_cons, List.length_nil, Nat.zero_add, Nat.reduceAdd] at this
  rw [u8c (show 97 + f < 256 by omega), u8c (show 97 + i % 20 < 256 by omega), u8c (show 97 + i / 20 < 256 by omega)] at this
  exact this

theorem rep_bool : ∀ n : Nat, (List.replicate n [V.bool false]).flatten = (List.replicate n false).flatMap boolC
  | 0 => rfl
  | n + 1 => by rw [List.replicate_succ, List.flatten_cons, rep_bool n, List.replicate_succ, List.flatMap_cons]; rfl
theorem ringSpreads_runs {w0 : World} {a b : Nat} (ha : a ≤ 255) (hb : b ≤ 255) {S : St} {Q : AEnd → St → Prop} (hQ : ∀ S', Q (.ret (.bool true)) S') : RSim Tryd.prog w0 n_l13_RingSpreads [.int .u8 a, .int .u8 b] S Q := by
  have cn : ∀ S, V.conv S (.int .i64) (.int .u8 (b : Int)) = some (.int .i64 (b : Int)) := fun S => by
    simp only [V.conv, w64 (show (-9223372036854775808 : Int) ≤ (b : Int) by omega) (show (b : Int) < 9223372036854775808 by omega)]
  have e1 : (b : Int).tmod 8 = ((b % 8 : Nat) : Int) := by rw [Int.tmod_eq_emod_of_nonneg (by omega)]; omega
  have e2 : IntKind.i64.wrap (1 + ((b % 8 : Nat) : Int)) = ((b % 8 + 1 : Nat) : Int) := by rw [w64 (by omega) (by omega)]; omega
  have e3 : (a : Int).tmod 26 = ((a % 26 : Nat) : Int) := by rw [Int.tmod_eq_emod_of_nonneg (by omega)]; omega
  have e4 : IntKind.u8.wrap (97 + ((a % 26 : Nat) : Int)) = ((97 + a % 26 : Nat) : Int) := by rw [IntKind.wrap_u8]; omega
  generalize hn : b % 8 + 1 = n at e2
  generalize hf : a % 26 = f at e3 e4
  have hn8 : n ≤ 8 := by omega
  have hn1 : 1 ≤ n := by omega
  have hf26 : f < 26 := by omega
  refine RSim.run mixed k_l13_RingSpreads ?_ (by simp)
  simp only [b_l13_RingSpreads, go_sem, Nat.reduceEqDiff, Nat.reduceAdd, Nat.reduceMul, Nat.reduceSub, Nat.reduceLeDiff, Int.reduceBEq, Int.reduceBNe, Int.reduceLT, Int.reduceLE, Int.reduceGT, Int.reduceGE, Int.reduceEq, ↓reduceIte, reduceCtorEq]
  refine wi_call ?_
  simp only [go_sem, Nat.reduceEqDiff, Nat.reduceAdd, Nat.reduceMul, Nat.reduceSub, Nat.reduceLeDiff, Int.reduceBEq, Int.reduceBNe, Int.reduceLT, Int.reduceLE, Int.reduceGT, Int.reduceGE, Int.reduceEq, ↓reduceIte, reduceCtorEq]
  refine ringAwake_runs fun S0 k0 => ?_
  simp only [go_sem, Nat.reduceEqDiff, Nat.reduceAdd, Nat.reduceMul, Nat.reduceSub, Nat.reduceLeDiff, Int.reduceBEq, Int.reduceBNe, Int.reduceLT, Int.reduceLE, Int.reduceGT, Int.reduceGE, Int.reduceEq, ↓reduceIte, reduceCtorEq]
  refine wc_ite (b := false) (by simp only [go_sem, Nat.reduceEqDiff, Nat.reduceAdd, Nat.reduceMul, Nat.reduceSub, Nat.reduceLeDiff, Int.reduceBEq, Int.reduceBNe, Int.reduceLT, Int.reduceLE, Int.reduceGT, Int.reduceGE, Int.reduceEq, ↓reduceIte, reduceCtorEq] <;> rfl) (fun h => by cases h) (fun _ => ?_)
  simp only [go_sem, Nat.reduceEqDiff, Nat.reduceAdd, Nat.reduceMul, Nat.reduceSub, Nat.reduceLeDiff, Int.reduceBEq, Int.reduceBNe, Int.reduceLT, Int.reduceLE, Int.reduceGT, Int.reduceGE, Int.reduceEq, ↓reduceIte, reduceCtorEq, cn, e1, e2]
  refine wi_makeMu (n := n) (by simp only [go_sem, Nat.reduceEqDiff, Nat.reduceAdd, Nat.reduceMul, Nat.reduceSub, Nat.reduceLeDiff, Int.reduceBEq, Int.reduceBNe, Int.reduceLT, Int.reduceLE, Int.reduceGT, Int.reduceGE, Int.reduceEq, ↓reduceIte, reduceCtorEq]) (by simp only [go_sem, Nat.reduceEqDiff, Nat.reduceAdd, Nat.reduceMul, Nat.reduceSub, Nat.reduceLeDiff, Int.reduceBEq, Int.reduceBNe, Int.reduceLT, Int.reduceLE, Int.reduceGT, Int.reduceGE, Int.reduceEq, ↓reduceIte, reduceCtorEq]) (by simp [roomOk]; omega) ?_
  generalize hS1 : S0.add (.cells (List.replicate n [V.bool false]).flatten) = S1
  have hrep := rep_bool n
  have b1 : S1.cells S0.n = some ((List.replicate n false).flatMap boolC) := by rw [← hS1, cells_addc, if_pos rfl, hrep]
  have hlt1 : S0.n < S1.n := by rw [← hS1]; simp [St.add_n]
  simp only [go_sem, Nat.reduceEqDiff, Nat.reduceAdd, Nat.reduceMul, Nat.reduceSub, Nat.reduceLeDiff, Int.reduceBEq, Int.reduceBNe, Int.reduceLT, Int.reduceLE, Int.reduceGT, Int.reduceGE, Int.reduceEq, ↓reduceIte, reduceCtorEq]
  refine loop_rule RSim.le (k := 400) (fun m fr S2 => ∃ (i : Nat) (L : List Bool), m = 400 - i ∧ i ≤ 400 ∧ fr 0 = .int .u8 a ∧ fr 5 = .int .i64 (n : Nat) ∧ fr 6 = .msl S0.n 0 n 1 ∧ fr 7 = .int .i64 i ∧ S2.cells S0.n = some (L.flatMap boolC) ∧ S0.n < S2.n ∧ L.length = n ∧ ∀ s, s < n → (∃ j, j < i ∧ IsBest (hashN (idB f j)) (pts n) s) → L[s]? = some true) ?_
    ⟨0, List.replicate n false, rfl, by omega, by simp only [go_sem, Nat.reduceEqDiff, Nat.reduceAdd, Nat.reduceMul, Nat.reduceSub, Nat.reduceLeDiff, Int.reduceBEq, Int.reduceBNe, Int.reduceLT, Int.reduceLE, Int.reduceGT, Int.reduceGE, Int.reduceEq, ↓reduceIte, reduceCtorEq], by simp only [go_sem, Nat.reduceEqDiff, Nat.reduceAdd, Nat.reduceMul, Nat.reduceSub, Nat.reduceLeDiff, Int.reduceBEq, Int.reduceBNe, Int.reduceLT, Int.reduceLE, Int.reduceGT, Int.reduceGE, Int.reduceEq, ↓reduceIte, reduceCtorEq], by simp only [go_sem, Nat.reduceEqDiff, Nat.reduceAdd, Nat.reduceMul, Nat.reduceSub, Nat.reduceLeDiff, Int.reduceBEq, Int.reduceBNe, Int.reduceLT, Int.reduceLE, Int.reduceGT, Int.reduceGE, Int.reduceEq, ↓reduceIte, reduceCtorEq], by simp only [go_sem, Nat.reduceEqDiff, Nat.reduceAdd, Nat.reduceMul, Nat.reduceSub, Nat.reduceLeDiff, Int.reduceBEq, Int.reduceBNe, Int.reduceLT, Int.reduceLE, Int.reduceGT, Int.reduceGE, Int.reduceEq, ↓reduceIte, reduceCtorEq]; rfl, b1, hlt1, by simp, fun s hs ⟨j, hj, _⟩ => by omega⟩
  rintro m fr S2 ⟨i, L, hm, hi, f0, f5, f6, f7, b2, hlt2, hL, hfound⟩
  simp only [l_l13_RingSpreads_0, go_sem, Nat.reduceEqDiff, Nat.reduceAdd, Nat.reduceMul, Nat.reduceSub, Nat.reduceLeDiff, Int.reduceBEq, Int.reduceBNe, Int.reduceLT, Int.reduceLE, Int.reduceGT, Int.reduceGE, Int.reduceEq, ↓reduceIte, reduceCtorEq, f7]
  refine wc_ite (b := decide ((i : Int) < 400)) (by simp only [go_sem, Nat.reduceEqDiff, Nat.reduceAdd, Nat.reduceMul, Nat.reduceSub, Nat.reduceLeDiff, Int.reduceBEq, Int.reduceBNe, Int.reduceLT, Int.reduceLE, Int.reduceGT, Int.reduceGE, Int.reduceEq, ↓reduceIte, reduceCtorEq]) (fun hc => ?_) (fun hc => ?_)
  · have hlt : i < 400 := by have := of_decide_eq_true hc; omega
    have w1 : IntKind.i64.wrap ((i : Int) + 1) = ((i + 1 : Nat) : Int) := by rw [w64 (by omega) (by omega)]; omega
    have w2 : (i : Int).tmod 20 = ((i % 20 : Nat) : Int) := by rw [Int.tmod_eq_emod_of_nonneg (by omega)]; omega
    have w3 : IntKind.i64.wrap (97 + ((i % 20 : Nat) : Int)) = ((97 + i % 20 : Nat) : Int) := by rw [w64 (by omega) (by omega)]; rfl
    have w4 : IntKind.i64.wrap ((i : Int).tdiv 20) = ((i / 20 : Nat) : Int) := by rw [Int.tdiv_eq_ediv_of_nonneg (by omega), w64 (by omega) (by omega)]; omega
    have w5 : IntKind.i64.wrap (97 + ((i / 20 : Nat) : Int)) = ((97 + i / 20 : Nat) : Int) := by rw [w64 (by omega) (by omega)]; rfl
    have c8 : ∀ (x : Nat), x < 256 → ∀ S, V.conv S (.int .u8) (.int .i64 (x : Int)) = some (.int .u8 (x : Int)) := fun x hx S => by
      simp only [V.conv, IntKind.wrap_u8]; congr 2; omega
    have c81 := c8 (97 + i % 20) (by omega)
    have c82 := c8 (97 + i / 20) (by omega)
    have cid := idB_conv hf26 hlt
    simp only [k_l13_RingSpreads_0, go_sem, Nat.reduceEqDiff, Nat.reduceAdd, Nat.reduceMul, Nat.reduceSub, Nat.reduceLeDiff, Int.reduceBEq, Int.reduceBNe, Int.reduceLT, Int.reduceLE, Int.reduceGT, Int.reduceGE, Int.reduceEq, ↓reduceIte, reduceCtorEq, f0, f5, f7, e3, e4, w2, w3, w4, w5, c81, c82, cid]
    refine wi_call ?_
    simp only [go_sem, Nat.reduceEqDiff, Nat.reduceAdd, Nat.reduceMul, Nat.reduceSub, Nat.reduceLeDiff, Int.reduceBEq, Int.reduceBNe, Int.reduceLT, Int.reduceLE, Int.reduceGT, Int.reduceGE, Int.reduceEq, ↓reduceIte, reduceCtorEq]
    refine ringShard_runs (by simp [idB]) (fun h => by omega) fun S3 m3 s hm3 h13 h83 hbest k3 => ?_
    have hm3' : m3 = n := by omega
    subst hm3'
    have hsn : s < m3 := by
      obtain ⟨p, hp, rfl, _⟩ := hbest
      exact (pts_rising m3 hn8).2 p hp
    have q1 : decide ((s : Int) < 0) = false := decide_eq_false (by omega)
    have q2 : decide ((s : Int) ≥ (m3 : Int)) = false := decide_eq_false (by omega)
    have b3 := k3.cells b2 hlt2 id
    have hst : (s < m3) = True := eq_true hsn
    have hLs : L[s]? = some (L[s]'(by omega)) := List.getElem?_eq_getElem _
    have hset := fm_set (cell := boolC) (sz := 1) boolC_len (k := 0) (y := true) (vs := [.bool true]) hLs rfl (by simp)
    have hle : (s * 1 + 1 ≤ (L.flatMap boolC).length) = True := eq_true (by rw [fm_len boolC_len]; omega)
    simp only [splice, List.length_cons, List.length_nil, Nat.zero_add, Nat.add_zero] at hset
    simp only [go_sem, Nat.reduceEqDiff, Nat.reduceAdd, Nat.reduceMul, Nat.reduceSub, Nat.reduceLeDiff, Int.reduceBEq, Int.reduceBNe, Int.reduceLT, Int.reduceLE, Int.reduceGT, Int.reduceGE, Int.reduceEq, ↓reduceIte, reduceCtorEq, f5, q1, q2]
    refine wc_ite (b := false) (by simp only [go_sem, Nat.reduceEqDiff, Nat.reduceAdd, Nat.reduceMul, Nat.reduceSub, Nat.reduceLeDiff, Int.reduceBEq, Int.reduceBNe, Int.reduceLT, Int.reduceLE, Int.reduceGT, Int.reduceGE, Int.reduceEq, ↓reduceIte, reduceCtorEq] <;> rfl) (fun h => by cases h) (fun _ => ?_)
    simp only [go_sem, Nat.reduceEqDiff, Nat.reduceAdd, Nat.reduceMul, Nat.reduceSub, Nat.reduceLeDiff, Int.reduceBEq, Int.reduceBNe, Int.reduceLT, Int.reduceLE, Int.reduceGT, Int.reduceGE, Int.reduceEq, ↓reduceIte, reduceCtorEq, f6, f7, hst, b3, hle, hset, w1]
    refine ⟨400 - (i + 1), by omega, i + 1, L.set s true, rfl, by omega, by simp only [go_sem, Nat.reduceEqDiff, Nat.reduceAdd, Nat.reduceMul, Nat.reduceSub, Nat.reduceLeDiff, Int.reduceBEq, Int.reduceBNe, Int.reduceLT, Int.reduceLE, Int.reduceGT, Int.reduceGE, Int.reduceEq, ↓reduceIte, reduceCtorEq, f0], by simp only [go_sem, Nat.reduceEqDiff, Nat.reduceAdd, Nat.reduceMul, Nat.reduceSub, Nat.reduceLeDiff, Int.reduceBEq, Int.reduceBNe, Int.reduceLT, Int.reduceLE, Int.reduceGT, Int.reduceGE, Int.reduceEq, ↓reduceIte, reduceCtorEq, f5], by simp only [go_sem, Nat.reduceEqDiff, Nat.reduceAdd, Nat.reduceMul, Nat.reduceSub, Nat.reduceLeDiff, Int.reduceBEq, Int.reduceBNe, Int.reduceLT, Int.reduceLE, Int.reduceGT, Int.reduceGE, Int.reduceEq, ↓reduceIte, reduceCtorEq, f6], by simp only [go_sem, Nat.reduceEqDiff, Nat.reduceAdd, Nat.reduceMul, Nat.reduceSub, Nat.reduceLeDiff, Int.reduceBEq, Int.reduceBNe, Int.reduceLT, Int.reduceLE, Int.reduceGT, Int.reduceGE, Int.reduceEq, ↓reduceIte, reduceCtorEq], k3.lt hlt2, by rw [List.length_set]; exact hL, fun s' hs' hex => ?_⟩
    rw [List.getElem?_set]
    by_cases hss : s = s'
    · rw [if_pos hss, if_pos (by omega)]
    · rw [if_neg hss]
      obtain ⟨j, hj, hb'⟩ := hex
      refine hfound s' hs' ⟨j, ?_, hb'⟩
      rcases Nat.lt_or_ge j i with h | h
      · exact h
      · have : j = i := by omega
        subst this
        exact absurd (hbest.uniq hb') hss
  · have hie : i = 400 := by have := of_decide_eq_false hc; omega
    subst hie
    have hall : ∀ s, s < n → L[s]? = some true := fun s hs => hfound s hs (spreads hf26 hn1 hn8 hs)
    simp only [go_sem, Nat.reduceEqDiff, Nat.reduceAdd, Nat.reduceMul, Nat.reduceSub, Nat.reduceLeDiff, Int.reduceBEq, Int.reduceBNe, Int.reduceLT, Int.reduceLE, Int.reduceGT, Int.reduceGE, Int.reduceEq, ↓reduceIte, reduceCtorEq]
    refine loop_rule RSim.le (k := n) (fun m fr1 S3 => ∃ s : Nat, m = n - s ∧ s ≤ n ∧ S3 = S2 ∧ fr1 5 = .int .i64 (n : Nat) ∧ fr1 6 = .msl S0.n 0 n 1 ∧ fr1 10 = .int .i64 s) ?_
      ⟨0, rfl, by omega, rfl, by simp only [go_sem, Nat.reduceEqDiff, Nat.reduceAdd, Nat.reduceMul, Nat.reduceSub, Nat.reduceLeDiff, Int.reduceBEq, Int.reduceBNe, Int.reduceLT, Int.reduceLE, Int.reduceGT, Int.reduceGE, Int.reduceEq, ↓reduceIte, reduceCtorEq, f5], by simp only [go_sem, Nat.reduceEqDiff, Nat.reduceAdd, Nat.reduceMul, Nat.reduceSub, Nat.reduceLeDiff, Int.reduceBEq, Int.reduceBNe, Int.reduceLT, Int.reduceLE, Int.reduceGT, Int.reduceGE, Int.reduceEq, ↓reduceIte, reduceCtorEq, f6], by simp only [go_sem, Nat.reduceEqDiff, Nat.reduceAdd, Nat.reduceMul, Nat.reduceSub, Nat.reduceLeDiff, Int.reduceBEq, Int.reduceBNe, Int.reduceLT, Int.reduceLE, Int.reduceGT, Int.reduceGE, Int.reduceEq, ↓reduceIte, reduceCtorEq]; rfl⟩
    rintro m1 fr1 S3 ⟨s, hm1, hs, rfl, g5, g6, g10⟩
    simp only [l_l13_RingSpreads_1, go_sem, Nat.reduceEqDiff, Nat.reduceAdd, Nat.reduceMul, Nat.reduceSub, Nat.reduceLeDiff, Int.reduceBEq, Int.reduceBNe, Int.reduceLT, Int.reduceLE, Int.reduceGT, Int.reduceGE, Int.reduceEq, ↓reduceIte, reduceCtorEq, g5, g10]
    refine wc_ite (b := decide ((s : Int) < (n : Int))) (by simp only [go_sem, Nat.reduceEqDiff, Nat.reduceAdd, Nat.reduceMul, Nat.reduceSub, Nat.reduceLeDiff, Int.reduceBEq, Int.reduceBNe, Int.reduceLT, Int.reduceLE, Int.reduceGT, Int.reduceGE, Int.reduceEq, ↓reduceIte, reduceCtorEq]) (fun hc => ?_) (fun hc => ?_)
    · have hlt : s < n := by have := of_decide_eq_true hc; omega
      have w1 : IntKind.i64.wrap ((s : Int) + 1) = ((s + 1 : Nat) : Int) := by rw [w64 (by omega) (by omega)]; omega
      have hst : (s < n) = True := eq_true hlt
      have hd : (List.drop (s * 1) (L.flatMap boolC)).head? = some (.bool true) := by rw [fm_at boolC_len (hall s hlt)]; rfl
      simp only [go_sem, Nat.reduceEqDiff, Nat.reduceAdd, Nat.reduceMul, Nat.reduceSub, Nat.reduceLeDiff, Int.reduceBEq, Int.reduceBNe, Int.reduceLT, Int.reduceLE, Int.reduceGT, Int.reduceGE, Int.reduceEq, ↓reduceIte, reduceCtorEq, g6, g10, hst, b2, hd]
      refine wc_ite (b := false) (by simp only [go_sem, Nat.reduceEqDiff, Nat.reduceAdd, Nat.reduceMul, Nat.reduceSub, Nat.reduceLeDiff, Int.reduceBEq, Int.reduceBNe, Int.reduceLT, Int.reduceLE, Int.reduceGT, Int.reduceGE, Int.reduceEq, ↓reduceIte, reduceCtorEq] <;> rfl) (fun h => by cases h) (fun _ => ?_)
      simp only [go_sem, Nat.reduceEqDiff, Nat.reduceAdd, Nat.reduceMul, Nat.reduceSub, Nat.reduceLeDiff, Int.reduceBEq, Int.reduceBNe, Int.reduceLT, Int.reduceLE, Int.reduceGT, Int.reduceGE, Int.reduceEq, ↓reduceIte, reduceCtorEq, g10, w1]
      exact ⟨n - (s + 1), by omega, s + 1, rfl, by omega, by simp only [go_sem, Nat.reduceEqDiff, Nat.reduceAdd, Nat.reduceMul, Nat.reduceSub, Nat.reduceLeDiff, Int.reduceBEq, Int.reduceBNe, Int.reduceLT, Int.reduceLE, Int.reduceGT, Int.reduceGE, Int.reduceEq, ↓reduceIte, reduceCtorEq, g5], by simp only [go_sem, Nat.reduceEqDiff, Nat.reduceAdd, Nat.reduceMul, Nat.reduceSub, Nat.reduceLeDiff, Int.reduceBEq, Int.reduceBNe, Int.reduceLT, Int.reduceLE, Int.reduceGT, Int.reduceGE, Int.reduceEq, ↓reduceIte, reduceCtorEq, g6], by simp only [go_sem, Nat.reduceEqDiff, Nat.reduceAdd, Nat.reduceMul, Nat.reduceSub, Nat.reduceLeDiff, Int.reduceBEq, Int.reduceBNe, Int.reduceLT, Int.reduceLE, Int.reduceGT, Int.reduceGE, Int.reduceEq, ↓reduceIte, reduceCtorEq]⟩
    · simp only [go_sem, Nat.reduceEqDiff, Nat.reduceAdd, Nat.reduceMul, Nat.reduceSub, Nat.reduceLeDiff, Int.reduceBEq, Int.reduceBNe, Int.reduceLT, Int.reduceLE, Int.reduceGT, Int.reduceGE, Int.reduceEq, ↓reduceIte, reduceCtorEq]
      exact hQ _
end Go.VM
