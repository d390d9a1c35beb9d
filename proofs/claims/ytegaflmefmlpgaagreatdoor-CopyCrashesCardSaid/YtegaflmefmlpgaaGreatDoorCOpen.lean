/-
  strconv.Itoa, for numbers of at most two digits. A copy: Open. NEWPP
-/
import Derived.Test.YtegaflmefmlpgaaGreatDoorCCodes
import Derived.Test.YtegaflmefmlpgaaGreatDoorVmSet
import Derived.Test.YtegaflmefmlpgaaGreatDoorDBase
import Derived.Test.YtegaflmefmlpgaaGreatDoorCRec
set_option maxRecDepth 20000
set_option linter.unusedVariables false
set_option linter.unusedSimpArgs false
namespace Go.VM
open Go Go.RowKit Go.Proofs

/-! ### Digits -/
def decS (n : Nat) : List UInt8 := if n < 10 then [UInt8.ofNat (48 + n)] else [UInt8.ofNat (48 + n / 10), UInt8.ofNat (48 + n % 10)]
def digitsL : List UInt8 := [48, 49, 50, 51, 52, 53, 54, 55, 56, 57, 97, 98, 99, 100, 101, 102, 103, 104, 105, 106, 107, 108, 109, 110, 111, 112, 113, 114, 115, 116, 117, 118, 119, 120, 121, 122]
def smallsL : List UInt8 := [48, 48, 48, 49, 48, 50, 48, 51, 48, 52, 48, 53, 48, 54, 48, 55, 48, 56, 48, 57, 49, 48, 49, 49, 49, 50, 49, 51, 49, 52, 49, 53, 49, 54, 49, 55, 49, 56, 49, 57, 50, 48, 50, 49, 50, 50, 50, 51, 50, 52, 50, 53, 50, 54, 50, 55, 50, 56, 50, 57, 51, 48, 51, 49, 51, 50, 51, 51, 51, 52, 51, 53, 51, 54, 51, 55, 51, 56, 51, 57, 52, 48, 52, 49, 52, 50, 52, 51, 52, 52, 52, 53, 52, 54, 52, 55, 52, 56, 52, 57, 53, 48, 53, 49, 53, 50, 53, 51, 53, 52, 53, 53, 53, 54, 53, 55, 53, 56, 53, 57, 54, 48, 54, 49, 54, 50, 54, 51, 54, 52, 54, 53, 54, 54, 54, 55, 54, 56, 54, 57, 55, 48, 55, 49, 55, 50, 55, 51, 55, 52, 55, 53, 55, 54, 55, 55, 55, 56, 55, 57, 56, 48, 56, 49, 56, 50, 56, 51, 56, 52, 56, 53, 56, 54, 56, 55, 56, 56, 56, 57, 57, 48, 57, 49, 57, 50, 57, 51, 57, 52, 57, 53, 57, 54, 57, 55, 57, 56, 57, 57]
theorem digits_at : ∀ n : Fin 10, (digitsL.drop n.val).take (n.val + 1 - n.val) = decS n.val := by decide
theorem smalls_at : ∀ n : Fin 100, n.val < 10 ∨ (smallsL.drop (n.val * 2)).take (n.val * 2 + 2 - n.val * 2) = decS n.val := by decide +kernel

theorem itoa_runs {w0 : World} {S : St} {Q : AEnd → St → Prop} {n : Nat} (hn : n < 100) (hQ : Q (.ret (.str (mkS (decS n)))) S) : RSim Tryz.prog w0 n_strconv_Itoa [.int .i64 (n : Int)] S Q := by
  have b1 : decide ((0 : Int) ≤ (n : Int)) = true := decide_eq_true (by omega)
  have b2 : decide ((n : Int) < 100) = true := decide_eq_true (by omega)
  refine RSim.run mixed k_strconv_Itoa ?_ (by simp)
  simp only [b_strconv_Itoa, go_sem]
  refine wi_call ?_
  simp only [go_sem]
  refine RSim.run mixed k_internal_strconv_Itoa ?_ (by simp)
  simp only [b_internal_strconv_Itoa, go_sem]
  refine wi_call ?_
  simp only [go_sem]
  refine RSim.run mixed k_internal_strconv_FormatInt ?_ (by simp)
  simp only [b_internal_strconv_FormatInt, go_sem]
  refine wc_ite (b := true) (by simp only [go_sem] <;> rfl) (fun _ => ?_) (fun h => by cases h)
  simp only [go_sem, b1, b2]
  refine wc_ite (b := true) (by simp only [go_sem] <;> rfl) (fun _ => ?_) (fun h => by cases h)
  simp only [go_sem]
  refine wi_call ?_
  simp only [go_sem]
  refine RSim.run mixed k_internal_strconv_small ?_ (by simp)
  simp only [b_internal_strconv_small, go_sem]
  refine wc_ite (b := decide ((n : Int) < 10)) (by simp only [go_sem]) (fun hc => ?_) (fun hc => ?_)
  · have h10 : n < 10 := by have := of_decide_eq_true hc; omega
    have w1 : IntKind.i64.wrap ((n : Int) + 1) = ((n + 1 : Nat) : Int) := by rw [w64 (by omega) (by omega)]; omega
    have hb : (n ≤ n + 1 ∧ n ≤ 35) = True := eq_true ⟨by omega, by omega⟩
    have he := digits_at ⟨n, h10⟩
    simp only [digitsL] at he
    simp only [go_sem, w1, hb, mkS_extract, he]
    exact hQ
  · have h10 : ¬ n < 10 := by have := of_decide_eq_false hc; omega
    have w1 : IntKind.i64.wrap ((n : Int) * 2) = ((n * 2 : Nat) : Int) := by rw [w64 (by omega) (by omega)]; omega
    have w2 : IntKind.i64.wrap (((n * 2 : Nat) : Int) + 2) = ((n * 2 + 2 : Nat) : Int) := by rw [w64 (by omega) (by omega)]; omega
    have hb : (n * 2 ≤ n * 2 + 2 ∧ n * 2 ≤ 198) = True := eq_true ⟨by omega, by omega⟩
    have he := (smalls_at ⟨n, hn⟩).resolve_left h10
    simp only [smallsL] at he
    simp only [go_sem, w1, w2, hb, mkS_extract, he]
    exact hQ
end Go.VM

namespace Go.VM
open Go Go.RowKit Go.Proofs

abbrev shardN (n : Nat) : List UInt8 := [115, 104, 97, 114, 100, 45, UInt8.ofNat (48 + n)]
theorem replay_ok : ∀ (es : List Rec), (∀ e ∈ es, e.Ok) → (replayAll es).1.Ok ∧ (∀ o ∈ (replayAll es).2, o.Ok) ∧ (replayAll es).2.length ≤ es.length := by
  have key : ∀ (es : List Rec) (Y : Tm × List Op), Y.1.Ok → (∀ o ∈ Y.2, o.Ok) → (∀ e ∈ es, e.Ok) → (es.foldl Rec.on Y).1.Ok ∧ (∀ o ∈ (es.foldl Rec.on Y).2, o.Ok) ∧ (es.foldl Rec.on Y).2.length ≤ Y.2.length + es.length := by
    intro es
    induction es with
    | nil => intro Y h1 h2 _; exact ⟨h1, h2, by simp⟩
    | cons e es ih =>
      intro Y h1 h2 h3
      have he := h3 e (by simp)
      have hr := fun e' h => h3 e' (List.mem_cons_of_mem _ h)
      cases e with
      | f T =>
        obtain ⟨a, b, c⟩ := ih (T, Y.2) he h2 hr
        exact ⟨a, b, by simp only [List.foldl_cons, List.length_cons]; exact Nat.le_trans c (by simp only; omega)⟩
      | o p =>
        obtain ⟨a, b, c⟩ := ih (Y.1, Y.2 ++ [p]) h1 (fun o ho => (List.mem_append.1 ho).elim (h2 o) fun h => by rw [List.mem_singleton.1 h]; exact he.1) hr
        exact ⟨a, b, by simp only [List.foldl_cons, List.length_cons]; exact Nat.le_trans c (by simp; omega)⟩
  intro es h
  have := key es (⟨0, 0, 0⟩, []) ⟨by decide, by decide, by decide⟩ (fun o h => by cases h) h
  simpa [replayAll] using this
theorem tm0 : (⟨0, 0, 0⟩ : Tm).Ok := ⟨by decide, by decide, by decide⟩
theorem rec_len {e : Rec} (h : e.Ok) : e.b.length ≤ 600 := by
  cases e with
  | f T => have := recB_len h; simp only [Rec.b]; omega
  | o p => exact entB_len h.1 h.2
theorem replay_runs {w0 : World} {S : St} {Q : AEnd → St → Prop} {c i g : Nat} {D : Dk} {s : List UInt8} {t tk : Tok} {X : CS} {e : Rec} {v : V} (h : CopyAt S c i g D s t tk X) (hv : IsBytes v e.b) (he : e.Ok) (hl : X.L.length < 1000000)
    (hQ : ∀ S' tk', CAfter S c i g D t tk S' D t tk' s { X with T := (e.on (X.T, X.L)).1, L := (e.on (X.T, X.L)).2 } → Q (.ret (.bool true)) S') : RSim Tryz.prog w0 n_copy_Copy_replay [.ptr (some (c, 0)), v] S Q := by
  cases e with
  | f T => exact replayF_runs h hv he fun S' a => hQ S' tk a
  | o p => exact replayO_runs h hv he.1 he.2 hl fun S' tk' a => hQ S' tk' a

theorem copyOpen_runs {w0 : World} {S : St} {Q : AEnd → St → Prop} {i n : Nat} {D : Dk} {es : List Rec} {P : Dk → Prop} (hn : n < 8) (hes : ∀ e ∈ es, e.Ok) (hel : es.length < 1000000)
    (hwal : ∀ Q' : AEnd → St → Prop, (∀ S' D' g t, OAfter S i D S' g D' t (shardN n) (es.map Rec.b) → P D' → Q' (.ret (.tup [.ptr (some (g, 0)), .int .i64 0])) S') → RSim Tryz.prog w0 n_wal_Open [.ptr (some (i, 0)), .str (mkS (shardN n))] S Q')
    (hQ : ∀ S' c D' g t tk, CopyAt S' c i g D' (shardN n) t tk ⟨D'.abs, es.map Rec.b, (replayAll es).1, (replayAll es).2⟩ → P D' → Keeps (ownD i D) S S' → (∀ j, ownC c i g D' t tk j → ownD i D j ∨ S.n ≤ j) → Q (.ret (.tup [.ptr (some (c, 0)), .int .i64 0])) S') :
    RSim Tryz.prog w0 n_copy_Open [.ptr (some (i, 0)), .int .i64 n] S Q := by
  have e0 : decide ((n : Int) < 0) = false := decide_eq_false (by omega)
  have e8 : decide ((n : Int) ≥ 8) = false := decide_eq_false (by omega)
  have hdec : decS n = [UInt8.ofNat (48 + n)] := if_pos (by omega)
  have hadd : binStr .add (mkS [115, 104, 97, 114, 100, 45]) (mkS [UInt8.ofNat (48 + n)]) = some (.str (mkS (shardN n))) := str_add' (by simp)
  refine RSim.run mixed k_copy_Open ?_ (by simp)
  simp only [b_copy_Open, go_sem, e0, e8]
  refine wc_ite (b := false) (by simp only [go_sem] <;> rfl) (fun h => by cases h) (fun _ => ?_)
  simp only [go_sem]
  refine wi_call ?_
  simp only [go_sem]
  refine itoa_runs (by omega) ?_
  rw [hdec]
  simp only [go_sem, hadd]
  refine wi_call ?_
  simp only [go_sem]
  refine hwal _ fun S1 D1 g t O hP => ?_
  simp only [go_sem]
  refine wc_ite (b := false) (by simp only [go_sem] <;> rfl) (fun h => by cases h) (fun _ => ?_)
  simp only [go_sem]
  have k2 : Keeps (fun _ => False) S1 (S1.add (.cells [.ptr (some (g, 0)), .sl [] 0 4 .nil, .int .u64 0, .int .u64 0, .int .u64 0])) := (Keeps.refl _ _).add _
  have h2 : CopyAt (S1.add (.cells [.ptr (some (g, 0)), .sl [] 0 4 .nil, .int .u64 0, .int .u64 0, .int .u64 0])) S1.n i g D1 (shardN n) t .nil ⟨D1.abs, es.map Rec.b, ⟨0, 0, 0⟩, []⟩ := by
    refine ⟨O.w.stay k2, rfl, by rw [cells_addc, if_pos rfl]; rfl, fun _ => rfl, by rw [St.add_n]; omega, trivial, fun j hj ho => ?_, ⟨tm0, fun o h => (by cases h), by simp, by simp; omega⟩⟩
    rcases hj with rfl | hj
    · have := O.w.own_lt ho; omega
    · cases hj
  generalize S1.add (.cells [.ptr (some (g, 0)), .sl [] 0 4 .nil, .int .u64 0, .int .u64 0, .int .u64 0]) = S2 at *
  refine wi_call ?_
  simp only [go_sem]
  refine logLen_runs h2.w ?_
  simp only [go_sem]
  have hRl : (es.map Rec.b).length = es.length := List.length_map ..
  refine loop_rule RSim.le (k := es.length) (fun m fr Sa => ∃ (j : Nat) (tk : Tok), m = es.length - j ∧ j ≤ es.length ∧ fr 6 = .ptr (some (g, 0)) ∧ fr 8 = .ptr (some (S1.n, 0)) ∧ fr 33 = .int .i64 (es.length : Nat) ∧ fr 34 = .int .i64 (j : Nat) ∧ CAfter S2 S1.n i g D1 t .nil Sa D1 t tk (shardN n) ⟨D1.abs, es.map Rec.b, (replayAll (es.take j)).1, (replayAll (es.take j)).2⟩) ?_
    ⟨0, .nil, rfl, by omega, by simp only [go_sem], by simp only [go_sem], by simp only [go_sem, hRl], by simp only [go_sem]; rfl, CAfter.refl h2⟩
  rintro m fr Sa ⟨j, tk, hm, hj, f6, f8, f33, f34, hA⟩
  simp only [l_copy_Open_0, go_sem, f6, f8, f33, f34]
  refine wc_ite (b := decide ((j : Int) < (es.length : Int))) (by simp only [go_sem]) (fun hc => ?_) (fun hc => ?_)
  · have hlt : j < es.length := by have := of_decide_eq_true hc; omega
    have w1 : IntKind.i64.wrap ((j : Int) + 1) = ((j + 1 : Nat) : Int) := by rw [w64 (by omega) (by omega)]; omega
    obtain ⟨e, he⟩ : ∃ e, es[j]? = some e := ⟨_, List.getElem?_eq_getElem hlt⟩
    have heo := hes e (List.mem_of_getElem? he)
    have hr : (es.map Rec.b)[j]? = some e.b := by rw [List.getElem?_map, he]; rfl
    have hll := (replay_ok (es.take j) fun e h => hes e (List.mem_of_mem_take h)).2.2
    have htl : (es.take j).length = j := by rw [List.length_take]; omega
    simp only [go_sem, f6, f8, f34]
    refine wi_call ?_
    simp only [go_sem]
    refine logAt_runs hA.w.w hr (by have := rec_len heo; omega) fun Sb v hv kb => ?_
    have hB := hA.trans (CAfter.new hA.w kb)
    simp only [go_sem, f8]
    refine wi_call ?_
    simp only [go_sem]
    refine replay_runs hB.w hv heo (by simp only; omega) fun Sc tk' a => ?_
    have hC := hB.trans a
    simp only [go_sem]
    refine wc_ite (b := false) (by simp only [go_sem] <;> rfl) (fun h => by cases h) (fun _ => ?_)
    simp only [go_sem, f6, f8, f33, f34, w1]
    have ht : es.take (j + 1) = es.take j ++ [e] := take_snoc he
    refine ⟨es.length - (j + 1), by omega, j + 1, tk', rfl, by omega, rfl, ?_⟩
    rw [ht, replay_snoc]
    exact hC
  · have : j = es.length := by have := of_decide_eq_false hc; omega
    subst this
    rw [List.take_length] at hA
    simp only [go_sem, f8]
    have hn1 := O.k.n
    have hn2 := k2.n
    have key : ∀ j, ownC S1.n i g D1 t .nil j → ownD i D j ∨ S.n ≤ j := fun j ho => by
      rcases ho with h | h | h
      · exact O.o j h
      · exact .inr (by omega)
      · cases h
    refine hQ Sa S1.n D1 g t tk hA.w hP ((O.k.trans k2 fun _ _ h => h.elim).trans hA.k fun j hj ho => ?_) fun j hj => ?_
    · rcases key j ho with h | h
      · exact h
      · omega
    · rcases hA.o j hj with h | h
      · exact key j h
      · exact .inr (by omega)
end Go.VM
