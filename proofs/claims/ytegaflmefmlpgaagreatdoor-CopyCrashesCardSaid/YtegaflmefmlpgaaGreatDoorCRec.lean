/-
  A copy's records: what is written is what is read; replay. A copy: replay of the terms; Open. NEWPP
-/
import Derived.Test.YtegaflmefmlpgaaGreatDoorCMark
import Derived.Test.YtegaflmefmlpgaaGreatDoorWRefA
set_option maxRecDepth 20000
set_option linter.unusedVariables false
set_option linter.unusedSimpArgs false
namespace Go.VM
open Go Go.RowKit Go.Proofs

theorem ruv0 {x : Nat} (h : x < 18446744073709551616) (rest : List UInt8) : ruv 0 0 (uvar x ++ rest) = some (x, (uvar x).length) := by
  rw [ruv_uvar' x 0 0 rest (by simpa using h) (fun h => absurd h (by decide))]
  simp
theorem readT_text {s rest : List UInt8} {most : Nat} (h : s.length ≤ most) (hm : most ≤ 1000000) : readT most (textB s ++ rest) = .inr (s, (textB s).length) := by
  unfold readT textB
  rw [List.append_assoc, ruv0 (by omega)]
  simp only
  rw [if_neg (by simp), if_neg (by omega), List.drop_left' rfl, List.take_left' rfl, List.length_append]
theorem numD_at {bs pre : List UInt8} {x : Nat} {rest : List UInt8} {ok : Bool} (hb : bs = pre ++ (uvar x ++ rest)) (h : x < 18446744073709551616) : numD bs (pre.length, ok) = (x, pre.length + (uvar x).length, ok) := by
  subst hb
  unfold numD
  simp only [List.drop_left' rfl]
  rw [ruv0 h]
theorem textD_at {bs pre s : List UInt8} {most : Nat} {rest : List UInt8} {ok : Bool} (hb : bs = pre ++ (textB s ++ rest)) (h : s.length ≤ most) (hm : most ≤ 1000000) : textD most bs (pre.length, ok) = (s, pre.length + (textB s).length, ok) := by
  subst hb
  unfold textD
  simp only [List.drop_left' rfl]
  rw [readT_text h hm]
theorem dec_enc {o : Op} (ho : o.Ok) (hf : o.d.form = true) : decB (encB o) = some o := by
  have hf' := hf
  unfold Dc.form at hf'
  simp only [Bool.and_eq_true, decide_eq_true_eq] at hf'
  obtain ⟨_, ⟨_, hi⟩, hx⟩ := hf'
  have e1 : numD (encB o) (0, true) = (o.t, (uvar o.t).length, true) := by
    have := numD_at (bs := encB o) (pre := []) (x := o.t) (ok := true) (by simp [encB]; rfl) ho.t
    simpa using this
  have e2 : textD 32 (encB o) ((uvar o.t).length, true) = (o.d.id, (uvar o.t ++ textB o.d.id).length, true) := by
    rw [textD_at (pre := uvar o.t) (s := o.d.id) (by simp [encB]; rfl) hi (by decide), List.length_append]
  have e3 : numD (encB o) ((uvar o.t ++ textB o.d.id).length, true) = (zigN o.d.tm, (uvar o.t ++ textB o.d.id ++ uvar (zigN o.d.tm)).length, true) := by
    rw [numD_at (pre := uvar o.t ++ textB o.d.id) (x := zigN o.d.tm) (by simp [encB]; rfl) (zig_lt ho.d.lo ho.d.hi), ← List.length_append]
  have e4 : textD 512 (encB o) ((uvar o.t ++ textB o.d.id ++ uvar (zigN o.d.tm)).length, true) = (o.d.tx, (encB o).length, true) := by
    rw [textD_at (pre := uvar o.t ++ textB o.d.id ++ uvar (zigN o.d.tm)) (s := o.d.tx) (rest := []) (by simp [encB]) hx (by decide), ← List.length_append]
    rfl
  have hO : decO (encB o) = (o, (encB o).length, true) := by
    simp only [decO, e1, e2, e3, e4, zag_zig]
  unfold decB
  rw [hO]
  exact if_pos ⟨rfl, rfl, hf⟩

/-- A record. -/
inductive Rec
  | f (T : Tm)
  | o (p : Op)
def Rec.b : Rec → List UInt8
  | .f T => recB T
  | .o p => entB p
def Rec.Ok : Rec → Prop
  | .f T => T.Ok
  | .o p => p.Ok ∧ p.d.form = true
def Rec.on (Y : Tm × List Op) : Rec → Tm × List Op
  | .f T => (T, Y.2)
  | .o p => (Y.1, Y.2 ++ [p])
def replayAll (es : List Rec) : Tm × List Op := es.foldl Rec.on (⟨0, 0, 0⟩, [])
theorem replay_snoc (es : List Rec) (e : Rec) : replayAll (es ++ [e]) = e.on (replayAll es) := by simp [replayAll]

theorem replayO_runs {w0 : World} {S : St} {Q : AEnd → St → Prop} {c i g : Nat} {D : Dk} {s : List UInt8} {t tk : Tok} {X : CS} {o : Op} {v : V} (h : CopyAt S c i g D s t tk X) (hv : IsBytes v (entB o)) (ho : o.Ok) (hf : o.d.form = true) (hl : X.L.length < 1000000)
    (hQ : ∀ S' tk', CAfter S c i g D t tk S' D t tk' s { X with L := X.L ++ [o] } → Q (.ret (.bool true)) S') : RSim Tryz.prog w0 n_copy_Copy_replay [.ptr (some (c, 0)), v] S Q := by
  have el := entB_len ho hf
  have hel : (encB o).length + 1 = (entB o).length := rfl
  have hc := h.lt
  obtain ⟨tv, rfl, htv⟩ := id hv
  have htn : (tv = .nil) = False := eq_false fun e => by cases htv e
  have hne0 : (((entB o).length : Int) == 0) = false := by rw [beq_eq_false_iff_ne]; omega
  have h79 : (79 : UInt8).toNat = 79 := rfl
  have hd : ((entB o).map u8V).drop (0 * 1) = .int .u8 79 :: (encB o).map u8V := rfl
  have hlt : (0 < (entB o).length) = True := eq_true (by omega)
  have hle : (1 ≤ (entB o).length) = True := eq_true (by omega)
  have hvc : ∀ T, T ≠ .nil → IsBytes (.sl (List.take (((entB o).length - 1) * 1) (List.drop (1 * 1) ((entB o).map u8V))) ((entB o).length - 1) 1 T) (encB o) := fun T hT => by
    refine ⟨T, ?_, fun e => absurd e hT⟩
    have e1 : (entB o).length - 1 = (encB o).length := by omega
    rw [e1, Nat.mul_one, Nat.mul_one]
    have e2 : ((entB o).map u8V).drop 1 = (encB o).map u8V := rfl
    rw [e2, List.take_of_length_le (by simp)]
  have htv' : tv ≠ .nil := by simpa using htn
  have hvc := hvc tv htv'
  refine RSim.run mixed k_copy_Copy_replay ?_ (by simp)
  simp only [b_copy_Copy_replay, go_sem, hne0]
  refine wc_ite (b := false) (by simp only [go_sem] <;> rfl) (fun h => by cases h) (fun _ => ?_)
  simp only [go_sem, hd, hlt, htn]
  refine wc_ite (b := true) (by simp only [go_sem] <;> rfl) (fun _ => ?_) (fun h => by cases h)
  have h1 : Int.toNat 1 = 1 := rfl
  simp only [go_sem, h1, hle, htn]
  refine wi_call ?_
  simp only [go_sem]
  refine decode_runs hvc (by omega) (fun o' hd' ho' S1 k1 => ?_) fun hd' => absurd hd' (by rw [dec_enc ho hf]; simp)
  obtain rfl : o = o' := by rw [dec_enc ho hf] at hd'; injection hd'
  have ka : ∀ x y, Keeps (fun _ => False) S ((S1.add x).set S1.n y) := fun x y => (k1.add x).set (.inr k1.n) y
  have h2 := fun x y => CAfter.new h (ka x y)
  have hne1 : ¬ c = S1.n := by have := k1.n; omega
  have ex1 := (CAfter.new h k1).w.ex
  simp only [Op.v, Dc.v]
  simp only [go_sem, hne1, ex1]
  refine wi_append (n := X.L.length) (cs := X.L.flatMap Op.v) (t := tk) (m := 1) (xs := o.v) (by simp only [go_sem]; rfl) (by simp only [go_sem]; rfl) rfl (by simp [roomOk]; omega) (h2 _ _).w.tok (fun e => by rw [h.nil e]; exact ⟨rfl, rfl⟩) fun tk5 S5 k5 ht5 hn5 hz5 => ?_
  have ex4 := (h2 (.cells [.int .u64 0, .str (mkS []), .int .i64 0, .str (mkS [])]) (.cells [.int .u64 (o.t : Nat), .str (mkS o.d.id), .int .i64 o.d.tm, .str (mkS o.d.tx)])).w
  have ex5 := k5.cells ex4.ex ex4.lt (ex4.tok.not_own ex4.ex)
  simp only [go_sem, ex5]
  have e5 : V.sl (X.L.flatMap Op.v ++ o.v) (X.L.length + 1) 4 tk5 = opsV (X.L ++ [o]) tk5 := by simp [opsV]
  rw [e5]
  exact hQ _ tk5 ((h2 _ _).trans (ex4.setL (L := X.L ++ [o]) k5 ht5 hn5 (fun e => absurd (hz5 e).1 (by decide)) (fun o' ho' => (List.mem_append.1 ho').elim (h.ok.l o') fun h => by rw [List.mem_singleton.1 h]; exact ho) (by simp; omega) rfl))
end Go.VM

namespace Go.VM
open Go Go.RowKit Go.Proofs

/-- The terms with the first of others; where they end. -/
def mixT (A B : Tm) : Nat → Tm
  | 0 => A
  | 1 => ⟨B.h, A.s, A.a⟩
  | 2 => ⟨B.h, B.s, A.a⟩
  | _ => B
def preB (T : Tm) (j : Nat) : List UInt8 := 70 :: ([T.h, T.s, T.a].take j).flatMap uvar
theorem mixT_ok {A B : Tm} (ha : A.Ok) (hb : B.Ok) (j : Nat) : (mixT A B j).Ok := by
  match j with
  | 0 => exact ha
  | 1 => exact ⟨hb.h, ha.s, ha.a⟩
  | 2 => exact ⟨hb.h, hb.s, ha.a⟩
  | j + 3 => exact hb
theorem replayF_runs {w0 : World} {S : St} {Q : AEnd → St → Prop} {c i g : Nat} {D : Dk} {s : List UInt8} {t tk : Tok} {X : CS} {T : Tm} {v : V} (h : CopyAt S c i g D s t tk X) (hv : IsBytes v (recB T)) (hT : T.Ok)
    (hQ : ∀ S', CAfter S c i g D t tk S' D t tk s { X with T := T } → Q (.ret (.bool true)) S') : RSim Tryz.prog w0 n_copy_Copy_replay [.ptr (some (c, 0)), v] S Q := by
  have rl := recB_len hT
  have hc := h.lt
  obtain ⟨tv, rfl, htv⟩ := id hv
  have htn : (tv = .nil) = False := eq_false fun e => by cases htv e
  have hpos : 1 ≤ (recB T).length := by simp [recB]
  have hne0 : (((recB T).length : Int) == 0) = false := by rw [beq_eq_false_iff_ne]; omega
  have hd : ((recB T).map u8V).drop (0 * 1) = .int .u8 70 :: ((recB T).map u8V).drop 1 := rfl
  have hlt : (0 < (recB T).length) = True := eq_true (by omega)
  refine RSim.run mixed k_copy_Copy_replay ?_ (by simp)
  simp only [b_copy_Copy_replay, go_sem, hne0]
  refine wc_ite (b := false) (by simp only [go_sem] <;> rfl) (fun h => by cases h) (fun _ => ?_)
  simp only [go_sem, hd, hlt, htn]
  refine wc_ite (b := false) (by simp only [go_sem] <;> rfl) (fun h => by cases h) (fun _ => ?_)
  simp only [go_sem]
  refine loop_rule RSim.le (k := 3) (fun m fr S1 => ∃ (j : Nat), m = 3 - j ∧ j ≤ 3 ∧ fr 1 = .sl ((recB T).map u8V) (recB T).length 1 tv ∧ fr 50 = .sl [.ptr (some (c, 2)), .ptr (some (c, 3)), .ptr (some (c, 4))] 3 1 .cap ∧ fr 51 = .int .i64 (3 : Int) ∧ fr 52 = .int .i64 (j : Nat) ∧ fr 7 = .int .i64 ((preB T j).length : Nat) ∧ CAfter S c i g D t tk S1 D t tk s { X with T := mixT X.T T j }) ?_
    ⟨0, rfl, by omega, by simp only [go_sem], by simp only [go_sem], by simp only [go_sem]; rfl, by simp only [go_sem]; rfl, by simp only [go_sem]; rfl, CAfter.refl h⟩
  rintro m fr S1 ⟨j, hm, hj, f1, f50, f51, f52, f7, hA⟩
  simp only [l_copy_Copy_replay_0, go_sem, f1, f50, f51, f52, f7]
  have ex1 := hA.w.ex
  refine wc_ite (b := decide ((j : Int) < 3)) (by simp only [go_sem]) (fun hc => ?_) (fun hc => ?_)
  · have hlt : j < 3 := by have := of_decide_eq_true hc; omega
    have w1 : IntKind.i64.wrap ((j : Int) + 1) = ((j + 1 : Nat) : Int) := by rw [w64 (by omega) (by omega)]; omega
    obtain ⟨x, rest, post, hx, hd2, hb, hp, hxe⟩ : ∃ (x : Nat) (rest : List V) (post : List UInt8), x < 18446744073709551616 ∧ [V.ptr (some (c, 2)), .ptr (some (c, 3)), .ptr (some (c, 4))].drop (j * 1) = .ptr (some (c, 2 + j)) :: rest ∧ recB T = preB T j ++ (uvar x ++ post) ∧ (preB T (j + 1)).length = (preB T j).length + (uvar x).length ∧ [T.h, T.s, T.a][j]? = some x := by
      match j, hlt with
      | 0, _ => exact ⟨T.h, _, uvar T.s ++ uvar T.a, hT.h, rfl, by simp [recB, preB], by simp [preB]; omega, rfl⟩
      | 1, _ => exact ⟨T.s, _, uvar T.a, hT.s, rfl, by simp [recB, preB], by simp [preB]; omega, rfl⟩
      | 2, _ => exact ⟨T.a, _, [], hT.a, rfl, by simp [recB, preB], by simp [preB]; omega, rfl⟩
    have hlt' : (j < 3) = True := eq_true hlt
    have hpl : (preB T j).length ≤ (recB T).length := by rw [hb]; simp
    simp only [go_sem, f1, f50, f51, f52, f7, hd2, hlt', List.head?_cons]
    refine wi_call ?_
    simp only [go_sem]
    refine readUvarint_runs hpl (by omega) htv (fun y k hr hy hk => ?_) fun hr => ?_
    · have hr' : ruv 0 0 ((recB T).drop (preB T j).length) = some (x, (uvar x).length) := by rw [hb, List.drop_left' rfl, ruv0 hx]
      rw [hr'] at hr
      injection hr with hr
      injection hr with hr1 hr2
      subst hr1; subst hr2
      simp only [go_sem]
      refine wc_ite (b := false) (by simp only [go_sem] <;> rfl) (fun h => by cases h) (fun _ => ?_)
      have h2 := hA.trans (hA.w.setT (mixT_ok h.ok.t hT (j + 1)) rfl)
      rw [← hp] at *
      obtain rfl | rfl | rfl : j = 0 ∨ j = 1 ∨ j = 2 := by omega
      all_goals
        simp only [List.getElem?_cons_zero, List.getElem?_cons_succ, Option.some.injEq] at hxe
        subst hxe
        simp only [go_sem, ex1, f1, f50, f51, f52, w1]
      · exact ⟨2, by omega, 1, rfl, by omega, rfl, rfl, h2⟩
      · exact ⟨1, by omega, 2, rfl, by omega, rfl, rfl, h2⟩
      · exact ⟨0, by omega, 3, rfl, by omega, rfl, rfl, h2⟩
    · rw [hb, List.drop_left' rfl, ruv0 hx] at hr
      cases hr
  · have : j = 3 := by have := of_decide_eq_false hc; omega
    subst this
    have e3 : preB T 3 = recB T := by simp [preB, recB]
    rw [e3] at f7
    simp only [go_sem, s_copy_Copy_replay_0, f7, f1, hd, hlt, htn, List.head?_cons]
    exact hQ S1 hA
end Go.VM
