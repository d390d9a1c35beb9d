/-
  The value machine, in use: what its words come to, for the simplifier; stores that only grow.
-/
import Derived.Test.YtegaflmefmlpgaaGreatDoorVmCode
set_option linter.unusedVariables false
set_option linter.unusedSimpArgs false
namespace Go.VM
open Go Go.RowKit

theorem put_some (fr : Fr) (d : Nat) (v : V) (t : Nat) : Fr.put fr (some d) v t = if t = d then v else fr t := (rfl)
theorem put_none (fr : Fr) (v : V) : Fr.put fr none v = fr := (rfl)
/-- Short words for the printed codes. -/
abbrev fi (d : Nat) (i : FI) : Item := .run ⟨some d, none, .f i⟩
abbrev ei (d : Nat) (i : EI) : Item := .run ⟨some d, none, .e i⟩
abbrev st (i : EI) : Item := .run ⟨none, none, .e i⟩
def fr00 : Fr := fun _ => .tup []
theorem fr00_at (t : Nat) : fr00 t = .tup [] := (rfl)

theorem frame0_0 : frame0 [] = fr00 := by funext i; cases i <;> rfl
theorem frame0_1 (a : V) : frame0 [a] = fr00.put (some 0) a := by
  funext i; rcases i with _ | i <;> rfl
theorem frame0_2 (a b : V) : frame0 [a, b] = (fr00.put (some 0) a).put (some 1) b := by
  funext i; rcases i with _ | _ | i <;> rfl
theorem frame0_3 (a b c : V) : frame0 [a, b, c] = ((fr00.put (some 0) a).put (some 1) b).put (some 2) c := by
  funext i; rcases i with _ | _ | _ | i <;> rfl
theorem frame0_4 (a b c d : V) : frame0 [a, b, c, d] = (((fr00.put (some 0) a).put (some 1) b).put (some 2) c).put (some 3) d := by
  funext i; rcases i with _ | _ | _ | _ | i <;> rfl
theorem frame0_5 (a b c d e : V) : frame0 [a, b, c, d, e] = ((((fr00.put (some 0) a).put (some 1) b).put (some 2) c).put (some 3) d).put (some 4) e := by
  funext i; rcases i with _ | _ | _ | _ | _ | i <;> rfl

/-! ### Stores -/
theorem St.add_n (S : St) (x : AObj) : (S.add x).n = S.n + 1 := (rfl)
theorem St.set_n (S : St) (i : Nat) (x : AObj) : (S.set i x).n = S.n := (rfl)
theorem St.kill_n (S : St) (i : Nat) : (S.kill i).n = S.n := (rfl)
theorem St.add_hp (S : St) (x : AObj) (i : Nat) : (S.add x).hp i = if i = S.n then some x else S.hp i := (rfl)
theorem St.set_hp (S : St) (i : Nat) (x : AObj) (j : Nat) : (S.set i x).hp j = if j = i then some x else S.hp j := (rfl)
theorem St.kill_hp (S : St) (i : Nat) (j : Nat) : (S.kill i).hp j = if j = i then none else S.hp j := (rfl)

/-- Nothing that lives has turned; what is new is new. -/
structure St.Le (S S' : St) : Prop where
  n : S.n ≤ S'.n
  hp : ∀ i x, i < S.n → S.hp i = some x → S'.hp i = some x
theorem St.Le.refl (S : St) : S.Le S := ⟨Nat.le_refl _, fun _ _ _ h => h⟩
theorem St.Le.trans {A B C : St} (h : A.Le B) (k : B.Le C) : A.Le C := ⟨Nat.le_trans h.n k.n, fun i x hi hx => k.hp i x (Nat.lt_of_lt_of_le hi h.n) (h.hp i x hi hx)⟩
theorem St.le_add (S : St) (x : AObj) : S.Le (S.add x) := ⟨by simp [St.add], fun i y hi h => by
  rw [St.add_hp, if_neg (by omega)]; exact h⟩
theorem St.Le.add {A B : St} (h : A.Le B) (x : AObj) : A.Le (B.add x) := h.trans (St.le_add B x)
theorem St.Le.set {A B : St} (h : A.Le B) {i : Nat} (hi : A.n ≤ i) (x : AObj) : A.Le (B.set i x) := ⟨h.n, fun j y hj hy => by
  rw [St.set_hp, if_neg (by omega)]; exact h.hp j y hj hy⟩
theorem St.Le.kill {A B : St} (h : A.Le B) {i : Nat} (hi : A.n ≤ i) : A.Le (B.kill i) := ⟨h.n, fun j y hj hy => by
  rw [St.kill_hp, if_neg (by omega)]; exact h.hp j y hj hy⟩

theorem cells_of {S : St} {i : Nat} {cs : List V} (h : S.hp i = some (.cells cs)) : S.cells i = some cs := by simp [St.cells, h]

/-! ### A function's end; a call -/
def resQ (rs : List RV) (Q : AEnd → St → Prop) : CPost
  | .normal, fr, S | .ret, fr, S => match readRes fr S rs with
    | some v => Q (.ret v) S
    | none => False
  | .panic v, _, S => Q (.pan v) S
  | .exit _, _, _ => False
theorem resQ_normal (rs : List RV) (Q : AEnd → St → Prop) (fr : Fr) (S : St) : resQ rs Q .normal fr S = match readRes fr S rs with
    | some v => Q (.ret v) S
    | none => False := (rfl)
theorem resQ_ret (rs : List RV) (Q : AEnd → St → Prop) (fr : Fr) (S : St) : resQ rs Q .ret fr S = match readRes fr S rs with
    | some v => Q (.ret v) S
    | none => False := (rfl)
theorem resQ_panic (rs : List RV) (Q : AEnd → St → Prop) (fr : Fr) (S : St) (v : V) : resQ rs Q (.panic v) fr S = Q (.pan v) S := (rfl)

theorem RSim.run {P : Program} {w0 : World} {f : FuncId} {b : Cd} {rs : List RV} {n : Nat} (hm : P.follows .mixedOrders = true) (hc : chkFn P f ⟨b, rs, n⟩ = true) {args : List V} {S : St} {Q : AEnd → St → Prop}
    (h : wCode (RSim P w0) b (frame0 args) S (resQ rs Q)) (hn : args.length ≤ n) : RSim P w0 f args S Q := by
  refine RSim.code hm hc hn ?_
  have e : resQ rs Q = bodyQ ⟨b, rs, n⟩ Q := by
    funext e fr S
    cases e <;> rfl
  rw [← e]
  exact h

theorem thenQ_normal (K : Fr → St → Prop) (Q : CPost) (fr : Fr) (S : St) : thenQ K Q .normal fr S = K fr S := (rfl)
theorem thenQ_ret (K : Fr → St → Prop) (Q : CPost) (fr : Fr) (S : St) : thenQ K Q .ret fr S = Q .ret fr S := (rfl)
theorem thenQ_exit (K : Fr → St → Prop) (Q : CPost) (fr : Fr) (S : St) (i : Nat) : thenQ K Q (.exit i) fr S = Q (.exit i) fr S := (rfl)
theorem thenQ_panic (K : Fr → St → Prop) (Q : CPost) (fr : Fr) (S : St) (v : V) : thenQ K Q (.panic v) fr S = Q (.panic v) fr S := (rfl)
theorem blkQ_normal (id : Nat) (Q : CPost) (fr : Fr) (S : St) : blkQ id Q .normal fr S = Q .normal fr S := (rfl)
theorem blkQ_ret (id : Nat) (Q : CPost) (fr : Fr) (S : St) : blkQ id Q .ret fr S = Q .ret fr S := (rfl)
theorem blkQ_panic (id : Nat) (Q : CPost) (fr : Fr) (S : St) (v : V) : blkQ id Q (.panic v) fr S = Q (.panic v) fr S := (rfl)
theorem blkQ_exit (id i : Nat) (Q : CPost) (fr : Fr) (S : St) : blkQ id Q (.exit i) fr S = if i = id then Q .normal fr S else Q (.exit i) fr S := (rfl)

/-- A loop by rounds: what holds at its head, with something that falls. -/
theorem loop_rule {cl : Cl} (hcl : ClLe cl cl) {c : Cd} {Q : CPost} (I : Nat → Fr → St → Prop) (step : ∀ k fr S, I k fr S → wCode cl c fr S (thenQ (fun fr' S' => ∃ k', k' < k ∧ I k' fr' S') Q)) {k : Nat} {fr : Fr} {S : St} (h : I k fr S) :
    wCode cl (.loop c) fr S Q := by
  induction k using Nat.strongRecOn generalizing fr S with
  | _ k ih =>
    refine Loop.fold hcl (wCode_mono hcl c fr S _ _ (fun e fr' S' q => ?_) (step k fr S h))
    cases e with
    | normal => obtain ⟨k', h1, h2⟩ := q; exact ih k' h1 h2
    | ret => exact q
    | exit => exact q
    | panic => exact q

/-! ### Step by step -/
section
variable {cl : Cl} {fr : Fr} {S : St} {K : Fr → St → Prop} {Kp : V → St → Prop} {Q : CPost}
theorem wi_nil : wItems cl [] fr S K Kp = K fr S := (rfl)
theorem wi_f (dst : Option Nat) (i : FI) (r : List Item) : wItems cl (.run ⟨dst, none, .f i⟩ :: r) fr S K Kp = match aF i fr S with
    | some v => wItems cl r (fr.put dst v) S K Kp
    | none => False := (rfl)
theorem wi_fgt (dst : Option Nat) (t : Nat) (w : Bool) (i : FI) (r : List Item) (h : wanted fr (some (t, w)) = some true) : wItems cl (.run ⟨dst, some (t, w), .f i⟩ :: r) fr S K Kp = match aF i fr S with
    | some v => wItems cl r (fr.put dst v) S K Kp
    | none => False := by
  simp only [wItems, wItem, h]
  cases aF i fr S <;> rfl
theorem wi_fgf (dst : Option Nat) (t : Nat) (w : Bool) (i : FI) (r : List Item) (h : wanted fr (some (t, w)) = some false) : wItems cl (.run ⟨dst, some (t, w), .f i⟩ :: r) fr S K Kp = wItems cl r (fr.put dst (.tup [])) S K Kp := by
  simp only [wItems, wItem, h]
theorem wi_alloc (dst : Option Nat) (z : List V) (r : List Item) : wItems cl (.run ⟨dst, none, .e (.alloc z)⟩ :: r) fr S K Kp = wItems cl r (fr.put dst (.ptr (some (S.n, 0)))) (S.add (.cells z)) K Kp := (rfl)
theorem wi_box (dst : Option Nat) (x : Arg) (r : List Item) : wItems cl (.run ⟨dst, none, .e (.box x)⟩ :: r) fr S K Kp = ((x.ev fr).cells.all V.one = true ∧ wItems cl r (fr.put dst (.ptr (some (S.n, 0)))) (S.add (.cells (x.ev fr).cells)) K Kp) := (rfl)
theorem wi_store (dst : Option Nat) (sz : Nat) (a x : Arg) (r : List Item) : wItems cl (.run ⟨dst, none, .e (.store sz a x)⟩ :: r) fr S K Kp = match a.ev fr with
    | .ptr (some (i, off)) =>
      (match S.cells i with
      | some cs => (x.ev fr).cells.length = sz ∧ (x.ev fr).cells.all V.one = true ∧ off + sz ≤ cs.length ∧ wItems cl r (fr.put dst (.tup [])) (S.set i (.cells (splice cs off (x.ev fr).cells))) K Kp
      | none => False)
    | _ => False := (rfl)
theorem wi_bs0 (dst : Option Nat) (n sz : Nat) (z : List V) (ps : List (Nat × Nat × Arg)) (r : List Item) : wItems cl (.run ⟨dst, none, .e (.buildSlice n sz 0 z ps)⟩ :: r) fr S K Kp = match fillV fr z ps with
    | some cs => wItems cl r (fr.put dst (.sl cs n sz .cap)) S K Kp
    | none => False := by
  simp only [wItems, wItem, wanted, wE]
  cases fillV fr z ps <;> rfl
theorem wi_bs2 (dst : Option Nat) (n sz : Nat) (z : List V) (ps : List (Nat × Nat × Arg)) (r : List Item) : wItems cl (.run ⟨dst, none, .e (.buildSlice n sz 2 z ps)⟩ :: r) fr S K Kp = match fillV fr z ps with
    | some cs => wItems cl r (fr.put dst (.sl cs n sz (.at S.n))) (S.add .tok) K Kp
    | none => False := by
  simp only [wItems, wItem, wanted, wE]
  cases fillV fr z ps <;> rfl
theorem wi_bytesSame {dst : Option Nat} {x : Arg} {r : List Item} {cs : List V} {n sz k : Nat} (hx : x.ev fr = .sl cs n sz (.at k)) (hk : S.hp k = some .tok) (h : wItems cl r (fr.put dst (.sl cs n sz (.at k))) S K Kp) :
    wItems cl (.run ⟨dst, none, .e (.bytesSame x)⟩ :: r) fr S K Kp := by
  simp only [wItems, wItem, wanted, wE, hx]
  exact ⟨hk, h⟩
theorem wi_copy {dst : Option Nat} {sz : Nat} {d s : Arg} {r : List Item} {m o off n : Nat} {xs cs : List V} (hs : (s.ev fr).elems S sz = some (m, xs)) (hd : d.ev fr = .msl o off n sz) (hc : S.cells o = some cs) (hb : off + n * sz ≤ cs.length)
    (h : wItems cl r (fr.put dst (.int .i64 ((min m n : Nat)))) (S.set o (.cells (splice cs off (xs.take (min m n * sz))))) K Kp) : wItems cl (.run ⟨dst, none, .e (.copy sz d s)⟩ :: r) fr S K Kp := by
  simp only [wItems, wItem, wanted, wE, hs, hd, hc]
  exact ⟨trivial, hb, h⟩
theorem wi_makeMu {dst : Option Nat} {sz bytes : Nat} {z : List V} {l c : Arg} {r : List Item} {n : Nat} (hl : (l.ev fr).idx = some n) (hc : (c.ev fr).idx = some n) (hr : roomOk n bytes = true)
    (h : wItems cl r (fr.put dst (.msl S.n 0 n sz)) (S.add (.cells (List.replicate n z).flatten)) K Kp) : wItems cl (.run ⟨dst, none, .e (.makeSlice sz bytes true z l c)⟩ :: r) fr S K Kp := by
  simp only [wItems, wItem, wanted, wE, hl, hc, hr, Nat.le_refl, and_self, if_true]
  exact ⟨trivial, h⟩
theorem wi_frz {dst : Option Nat} {x : Arg} {r : List Item} {o off n sz : Nat} {cs : List V} (hx : x.ev fr = .msl o off n sz) (hc : S.cells o = some cs) (hb : off + n * sz ≤ cs.length)
    (h : wItems cl r (fr.put dst (.sl ((cs.drop off).take (n * sz)) n sz (.at S.n))) ((S.kill o).add .tok) K Kp) : wItems cl (.run ⟨dst, none, .e (.frz x)⟩ :: r) fr S K Kp := by
  simp only [wItems, wItem, wanted, wE, hx, hc]
  exact ⟨hb, h⟩
theorem wi_chk (d : Nat) (i : FI) (r : List Item) : wItems cl (.chk d none i :: r) fr S K Kp = (aF i fr S = some (fr d) ∧ wItems cl r fr S K Kp) := (rfl)
theorem wi_chkt (d t : Nat) (w : Bool) (i : FI) (r : List Item) (h : wanted fr (some (t, w)) = some true) : wItems cl (.chk d (some (t, w)) i :: r) fr S K Kp = (aF i fr S = some (fr d) ∧ wItems cl r fr S K Kp) := by
  simp only [wItems, wItem, h]
theorem wi_chkf (d t : Nat) (w : Bool) (i : FI) (r : List Item) (h : wanted fr (some (t, w)) = some false) : wItems cl (.chk d (some (t, w)) i :: r) fr S K Kp = wItems cl r fr S K Kp := by
  simp only [wItems, wItem, h]
/-- An operation that acts, its guard met (or not there). -/
theorem wi_e {dst : Option Nat} {i : EI} {r : List Item} (h : wE cl i fr S (fun v S' => wItems cl r (fr.put dst v) S' K Kp) Kp) : wItems cl (.run ⟨dst, none, .e i⟩ :: r) fr S K Kp := by
  simp only [wItems, wItem, wanted]
  exact h
theorem wi_egt (dst : Option Nat) (t : Nat) (w : Bool) (i : EI) (r : List Item) (h : wanted fr (some (t, w)) = some true) : wItems cl (.run ⟨dst, some (t, w), .e i⟩ :: r) fr S K Kp = wItems cl (.run ⟨dst, none, .e i⟩ :: r) fr S K Kp := by
  have e : wanted fr none = some true := rfl
  simp only [wItems, wItem, h, e]
theorem wi_egf (dst : Option Nat) (t : Nat) (w : Bool) (i : EI) (r : List Item) (h : wanted fr (some (t, w)) = some false) : wItems cl (.run ⟨dst, some (t, w), .e i⟩ :: r) fr S K Kp = wItems cl r (fr.put dst (.tup [])) S K Kp := by
  simp only [wItems, wItem, h]
def retQ (K Kp : V → St → Prop) : AEnd → St → Prop
  | .ret v, S => K v S
  | .pan v, S => Kp v S
theorem retQ_ret (K Kp : V → St → Prop) (v : V) (S : St) : retQ K Kp (.ret v) S = K v S := (rfl)
theorem retQ_pan (K Kp : V → St → Prop) (v : V) (S : St) : retQ K Kp (.pan v) S = Kp v S := (rfl)
theorem wi_call {dst : Option Nat} {f : FuncId} {args : List Arg} {r : List Item} (h : cl f (args.map (Arg.ev fr)) S (retQ (fun v S' => wItems cl r (fr.put dst v) S' K Kp) Kp)) : wItems cl (.run ⟨dst, none, .e (.call f args)⟩ :: r) fr S K Kp := by
  refine wi_e ?_
  have e : retQ (fun v S' => wItems cl r (fr.put dst v) S' K Kp) Kp = (fun | .ret v, S' => wItems cl r (fr.put dst v) S' K Kp | .pan v, S' => Kp v S') := by
    funext e S'
    cases e <;> rfl
  rw [e] at h
  exact h

theorem wc_skip : wCode cl .skip fr S Q = Q .normal fr S := (rfl)
theorem wc_reg (ord : List Nat) (items : List Item) : wCode cl (.reg ord items) fr S Q = wItems cl items fr S (Q .normal) (fun v S' => Q (.panic v) fr S') := (rfl)
/-- Behind a first part comes a code. -/
def seqQ (cl : Cl) (b : Cd) (Q : CPost) : CPost := thenQ (fun fr' S' => wCode cl b fr' S' Q) Q
theorem seqQ_normal (b : Cd) : seqQ cl b Q .normal fr S = wCode cl b fr S Q := (rfl)
theorem seqQ_ret (b : Cd) : seqQ cl b Q .ret fr S = Q .ret fr S := (rfl)
theorem seqQ_exit (b : Cd) (i : Nat) : seqQ cl b Q (.exit i) fr S = Q (.exit i) fr S := (rfl)
theorem seqQ_panic (b : Cd) (v : V) : seqQ cl b Q (.panic v) fr S = Q (.panic v) fr S := (rfl)
theorem wc_seq (a b : Cd) : wCode cl (.seq a b) fr S Q = wCode cl a fr S (seqQ cl b Q) := (rfl)
theorem wc_blk (id : Nat) (c : Cd) : wCode cl (.blk id c) fr S Q = wCode cl c fr S (blkQ id Q) := (rfl)
theorem wc_exit (id : Nat) : wCode cl (.exit id) fr S Q = Q (.exit id) fr S := (rfl)
theorem wc_ret : wCode cl .ret fr S Q = Q .ret fr S := (rfl)
theorem wc_ite {c : Arg} {x y : Cd} {b : Bool} (hc : c.ev fr = .bool b) (ht : b = true → wCode cl x fr S Q) (hf : b = false → wCode cl y fr S Q) : wCode cl (.ite c x y) fr S Q := by
  simp only [wCode, hc]
  cases b
  · exact hf rfl
  · exact ht rfl
end

/-! ### What a step keeps -/
/-- The store is as it was but for what is owned; what is new is new. -/
structure Keeps (o : Nat → Prop) (S S' : St) : Prop where
  n : S.n ≤ S'.n
  hp : ∀ i, i < S.n → ¬ o i → S'.hp i = S.hp i
theorem Keeps.refl (o : Nat → Prop) (S : St) : Keeps o S S := ⟨Nat.le_refl _, fun _ _ _ => rfl⟩
theorem Keeps.trans {o o' : Nat → Prop} {A B C : St} (h : Keeps o A B) (k : Keeps o' B C) (ho : ∀ i, i < A.n → o' i → o i) : Keeps o A C :=
  ⟨Nat.le_trans h.n k.n, fun i hi hn => (k.hp i (Nat.lt_of_lt_of_le hi h.n) fun h' => hn (ho i hi h')).trans (h.hp i hi hn)⟩
theorem Keeps.mono {o o' : Nat → Prop} {A B : St} (h : Keeps o A B) (ho : ∀ i, i < A.n → o i → o' i) : Keeps o' A B := ⟨h.n, fun i hi hn => h.hp i hi fun h' => hn (ho i hi h')⟩
theorem Keeps.add {o : Nat → Prop} {A B : St} (h : Keeps o A B) (x : AObj) : Keeps o A (B.add x) := ⟨Nat.le_trans h.n (by simp [St.add]), fun i hi hn => by
  rw [St.add_hp, if_neg (by have := h.n; omega)]; exact h.hp i hi hn⟩
theorem Keeps.set {o : Nat → Prop} {A B : St} (h : Keeps o A B) {i : Nat} (hi : o i ∨ A.n ≤ i) (x : AObj) : Keeps o A (B.set i x) := ⟨h.n, fun j hj hn => by
  rw [St.set_hp, if_neg]
  · exact h.hp j hj hn
  · rintro rfl
    rcases hi with hi | hi
    · exact hn hi
    · omega⟩
theorem Keeps.kill {o : Nat → Prop} {A B : St} (h : Keeps o A B) {i : Nat} (hi : o i ∨ A.n ≤ i) : Keeps o A (B.kill i) := ⟨h.n, fun j hj hn => by
  rw [St.kill_hp, if_neg]
  · exact h.hp j hj hn
  · rintro rfl
    rcases hi with hi | hi
    · exact hn hi
    · omega⟩

/-- It may be appended to. -/
def TokOk (S : St) : Tok → Prop
  | .nil | .cap => True
  | .at k => k < S.n ∧ S.hp k = some .tok
  | .no => False
def tokOwn (t : Tok) : Nat → Prop := fun j => t = .at j

theorem TokOk.keep {o : Nat → Prop} {S S' : St} {t : Tok} (h : TokOk S t) (k : Keeps o S S') (hn : ∀ j, t = .at j → ¬ o j) : TokOk S' t := by
  cases t with
  | «at» q => exact ⟨Nat.lt_of_lt_of_le h.1 k.n, (k.hp q h.1 (hn q rfl)).trans h.2⟩
  | nil => trivial
  | cap => trivial
  | no => exact h

theorem app_ok {S : St} {sz bytes m n : Nat} {xs cs : List V} {t : Tok} (hl : xs.length = m * sz) (hr : roomOk (n + m) bytes = true) (ht : TokOk S t) (hnil : t = .nil → cs = [] ∧ n = 0) :
    ∃ t' S', appendTo S sz bytes false m xs (.sl cs n sz t) = some (.sl (cs ++ xs) (n + m) sz t', S') ∧ Keeps (tokOwn t) S S' ∧ TokOk S' t' ∧ (∀ j, t' = .at j → S.n ≤ j) ∧ (t' = .nil → m = 0 ∧ t = .nil) := by
  have hx : m = 0 → xs = [] := fun h => List.eq_nil_of_length_eq_zero (by rw [hl, h]; simp)
  have hg : ∀ S1 : St, Keeps (tokOwn t) S S1 → S1.n = S.n → ∃ t' S', some (grown S1 false (cs ++ xs) (n + m) sz) = some (.sl (cs ++ xs) (n + m) sz t', S') ∧ Keeps (tokOwn t) S S' ∧ TokOk S' t' ∧ (∀ j, t' = .at j → S.n ≤ j) ∧ (t' = .nil → m = 0 ∧ t = .nil) := fun S1 k e =>
    ⟨.at S1.n, S1.add .tok, by simp [grown], k.add _, ⟨by simp [St.add], by simp [St.add]⟩, fun j hj => by injection hj with hj; omega, fun h => by cases h⟩
  cases t with
  | nil =>
    simp only [appendTo, hl, hr, ne_eq, not_true_eq_false, false_and, Bool.true_eq_false, or_self, ↓reduceIte]
    split
    · rename_i h0
      exact ⟨.nil, S, by simp [hx h0, h0], Keeps.refl _ _, trivial, fun j hj => (by cases hj), fun _ => ⟨h0, trivial⟩⟩
    · obtain ⟨t', S', a, b, c, d, e⟩ := hg S (Keeps.refl _ _) rfl
      exact ⟨t', S', a, b, c, d, fun h => ⟨(e h).1, trivial⟩⟩
  | cap =>
    simp only [appendTo, hl, hr, ne_eq, not_true_eq_false, and_false, Bool.true_eq_false, or_self, ↓reduceIte]
    split
    · rename_i h0
      exact ⟨.cap, S, by simp [hx h0, h0], Keeps.refl _ _, trivial, fun j hj => (by cases hj), fun h => by cases h⟩
    · exact hg S (Keeps.refl _ _) rfl
  | «at» q =>
    simp only [appendTo, hl, hr, ht.2, ne_eq, not_true_eq_false, and_false, Bool.true_eq_false, or_self, Bool.false_eq_true, ↓reduceIte]
    exact hg (S.kill q) ((Keeps.refl _ _).kill (.inl rfl)) rfl
  | no => exact absurd ht id

theorem wi_append {cl : Cl} {fr : Fr} {S : St} {K : Fr → St → Prop} {Kp : V → St → Prop} {dst : Option Nat} {sz bytes : Nat} {s x : Arg} {r : List Item} {cs xs : List V} {n m : Nat} {t : Tok}
    (hs : s.ev fr = .sl cs n sz t) (hx : (x.ev fr).elems S sz = some (m, xs)) (hl : xs.length = m * sz) (hr : roomOk (n + m) bytes = true) (ht : TokOk S t) (hnil : t = .nil → cs = [] ∧ n = 0)
    (hK : ∀ t' S', Keeps (tokOwn t) S S' → TokOk S' t' → (∀ j, t' = .at j → S.n ≤ j) → (t' = .nil → m = 0 ∧ t = .nil) → wItems cl r (fr.put dst (.sl (cs ++ xs) (n + m) sz t')) S' K Kp) :
    wItems cl (.run ⟨dst, none, .e (.append sz bytes false s x)⟩ :: r) fr S K Kp := by
  refine wi_e ?_
  obtain ⟨t', S', e, h1, h2, h3, h4⟩ := app_ok hl hr ht hnil
  simp only [wE, hx, hs, e]
  exact hK t' S' h1 h2 h3 h4

theorem V.one_bool (b : Bool) : V.one (.bool b) = true := (rfl)
theorem V.one_int (k : IntKind) (n : Int) : V.one (.int k n) = true := (rfl)
theorem V.one_str (b : ByteArray) : V.one (.str b) = true := (rfl)
theorem V.one_ptr (p : Option (Nat × Nat)) : V.one (.ptr p) = true := (rfl)
theorem V.one_sl (cs : List V) (n sz : Nat) (t : Tok) : V.one (.sl cs n sz t) = true := (rfl)
theorem V.one_msl (a b c d : Nat) : V.one (.msl a b c d) = true := (rfl)
theorem V.one_eptr (cs : List V) : V.one (.eptr cs) = true := (rfl)
theorem V.one_map (r : Option Nat) : V.one (.map r) = true := (rfl)
theorem V.one_iface (t : TypeId) (v : V) : V.one (.iface t v) = true := (rfl)
theorem cells_one {v : V} (h : v.one = true) : v.cells = [v] := by cases v <;> first | rfl | cases h

theorem V.cells_agg (cs : List V) : V.cells (.agg cs) = cs := (rfl)
theorem V.cells_bool (b : Bool) : V.cells (.bool b) = [.bool b] := (rfl)
theorem V.cells_int (k : IntKind) (n : Int) : V.cells (.int k n) = [.int k n] := (rfl)
theorem V.cells_str (b : ByteArray) : V.cells (.str b) = [.str b] := (rfl)
theorem V.cells_ptr (p : Option (Nat × Nat)) : V.cells (.ptr p) = [.ptr p] := (rfl)
theorem V.cells_sl (cs : List V) (n sz : Nat) (t : Tok) : V.cells (.sl cs n sz t) = [.sl cs n sz t] := (rfl)
theorem V.cells_msl (a b c d : Nat) : V.cells (.msl a b c d) = [.msl a b c d] := (rfl)
theorem V.cells_map (r : Option Nat) : V.cells (.map r) = [.map r] := (rfl)
theorem cells_addc (S : St) (cs : List V) (i : Nat) : (S.add (.cells cs)).cells i = if i = S.n then some cs else S.cells i := by
  simp only [St.cells, St.add_hp]; by_cases h : i = S.n <;> simp [h]
theorem cells_addt (S : St) (i : Nat) : (S.add .tok).cells i = if i = S.n then none else S.cells i := by
  simp only [St.cells, St.add_hp]; by_cases h : i = S.n <;> simp [h]
theorem cells_setc (S : St) (j : Nat) (cs : List V) (i : Nat) : (S.set j (.cells cs)).cells i = if i = j then some cs else S.cells i := by
  simp only [St.cells, St.set_hp]; by_cases h : i = j <;> simp [h]
theorem takeC_false (sz : Nat) (cs : List V) : takeC false sz cs = cs.head? := (rfl)
theorem takeC_true (sz : Nat) (cs : List V) : takeC true sz cs = if sz ≤ cs.length then some (.agg (cs.take sz)) else none := (rfl)
theorem Keeps.cells {o : Nat → Prop} {A B : St} (h : Keeps o A B) {i : Nat} {cs : List V} (hi : A.cells i = some cs) (hlt : i < A.n) (hn : ¬ o i) : B.cells i = some cs := by
  unfold St.cells at *
  rw [h.hp i hlt hn]; exact hi
theorem Keeps.lt {o : Nat → Prop} {A B : St} (h : Keeps o A B) {i : Nat} (hi : i < A.n) : i < B.n := Nat.lt_of_lt_of_le hi h.n
theorem tokOwn_nil : tokOwn .nil = fun _ => False := by funext j; simp [tokOwn]
theorem TokOk.not_own {S : St} {t : Tok} (h : TokOk S t) {i : Nat} {cs : List V} (hi : S.cells i = some cs) : ¬ tokOwn t i := by
  intro e
  unfold tokOwn at e
  subst e
  unfold St.cells at hi
  rw [h.2] at hi
  cases hi
theorem TokOk.lt {S : St} {j : Nat} (h : TokOk S (.at j)) : j < S.n := h.1
theorem readRes_0 (fr : Fr) (S : St) : readRes fr S [] = some (.tup []) := (rfl)
theorem readRes_1 (fr : Fr) (S : St) (a : RV) : readRes fr S [a] = readRV fr S a := (rfl)
theorem readRes_2 (fr : Fr) (S : St) (a b : RV) : readRes fr S [a, b] = (readRV fr S a).bind fun x => (readRV fr S b).bind fun y => some (.tup [x, y]) := by
  cases h1 : readRV fr S a <;> cases h2 : readRV fr S b <;> simp [readRes, h1, h2]
theorem readRes_3 (fr : Fr) (S : St) (a b c : RV) : readRes fr S [a, b, c] = (readRV fr S a).bind fun x => (readRV fr S b).bind fun y => (readRV fr S c).bind fun z => some (.tup [x, y, z]) := by
  cases h1 : readRV fr S a <;> cases h2 : readRV fr S b <;> cases h3 : readRV fr S c <;> simp [readRes, h1, h2, h3]
theorem splice_len {cs xs : List V} {off : Nat} (h : off + xs.length ≤ cs.length) : (splice cs off xs).length = cs.length := by
  simp [splice]; omega
theorem splice_fit {A C B : List V} (h : C.length = B.length) : splice (A ++ C) A.length B = A ++ B := by
  simp [splice, h]
theorem beq_tf : (true == false) = false := (rfl)
theorem beq_ft : (false == true) = false := (rfl)
theorem beq_tt : (true == true) = true := (rfl)
theorem beq_ff : (false == false) = true := (rfl)
theorem sliceV_sl (fr : Fr) (sz : Nat) (lo hi mx : Option Arg) (cs : List V) (n sz' : Nat) (t : Tok) : sliceV fr sz lo hi mx (.sl cs n sz' t) = (bounds fr n lo hi).bind fun q =>
    if t = .nil then (if mx.isSome then none else some (.sl cs n sz' t))
    else if sz' ≠ sz then none
    else
      let cut := (cs.drop (q.1 * sz)).take ((q.2 - q.1) * sz)
      match mx with
      | some a => if (a.ev fr).idx = some q.2 then some (.sl cut (q.2 - q.1) sz .cap) else none
      | none => some (.sl cut (q.2 - q.1) sz (if q.2 = n then t else .no)) := (rfl)
theorem sliceV_msl (fr : Fr) (sz : Nat) (lo hi mx : Option Arg) (o off n sz' : Nat) : sliceV fr sz lo hi mx (.msl o off n sz') = (bounds fr n lo hi).bind fun q =>
    if sz' ≠ sz ∨ mx.isSome then none
    else if q.2 = q.1 then some (.sl [] 0 sz .no)
    else some (.msl o (off + q.1 * sz) (q.2 - q.1) sz) := (rfl)
theorem bounds_no (fr : Fr) (n : Nat) : bounds fr n none none = some (0, n) := by simp [bounds]
theorem bounds_hi (fr : Fr) (n : Nat) (a : Arg) : bounds fr n none (some a) = (a.ev fr).idx.bind fun h => if h ≤ n then some (0, h) else none := by
  cases h : (a.ev fr).idx <;> simp [bounds, h]
theorem bounds_lo (fr : Fr) (n : Nat) (a : Arg) : bounds fr n (some a) none = (a.ev fr).idx.bind fun l => if l ≤ n then some (l, n) else none := by
  cases h : (a.ev fr).idx <;> simp [bounds, h]
theorem bounds_lh (fr : Fr) (n : Nat) (a b : Arg) : bounds fr n (some a) (some b) = (a.ev fr).idx.bind fun l => (b.ev fr).idx.bind fun h => if l ≤ h ∧ h ≤ n then some (l, h) else none := by
  cases h : (a.ev fr).idx <;> cases h' : (b.ev fr).idx <;> simp [bounds, h, h']
theorem wi_copy0 {cl : Cl} {fr : Fr} {S : St} {K : Fr → St → Prop} {Kp : V → St → Prop} {dst : Option Nat} {sz : Nat} {d s : Arg} {r : List Item} {m n sz' : Nat} {t : Tok} {xs cs : List V} (hs : (s.ev fr).elems S sz = some (m, xs)) (hd : d.ev fr = .sl cs n sz' t) (h0 : min m n = 0)
    (h : wItems cl r (fr.put dst (.int .i64 0)) S K Kp) : wItems cl (.run ⟨dst, none, .e (.copy sz d s)⟩ :: r) fr S K Kp := by
  refine wi_e ?_
  simp only [wE, hs, hd]
  exact ⟨h0, h⟩
theorem Keeps.set1 (S : St) (i : Nat) (x : AObj) : Keeps (fun j => j = i) S (S.set i x) := (Keeps.refl (fun j => j = i) S).set (.inl (show i = i from rfl)) x
theorem splice_nil {cs : List V} {off : Nat} (h : off ≤ cs.length) : splice cs off [] = cs := by simp [splice]
theorem wi_copy_all {cl : Cl} {fr : Fr} {S : St} {K : Fr → St → Prop} {Kp : V → St → Prop} {dst : Option Nat} {sz : Nat} {d s : Arg} {r : List Item} {o off n : Nat} {xs cs : List V} (hd : d.ev fr = if n = 0 then .sl [] 0 sz .no else .msl o off n sz)
    (hs : (s.ev fr).elems S sz = some (n, xs)) (hx : xs.length = n * sz) (hc : S.cells o = some cs) (hb : off + n * sz ≤ cs.length)
    (h : ∀ S', Keeps (fun j => j = o) S S' → S'.n = S.n → S'.cells o = some (splice cs off xs) → wItems cl r (fr.put dst (.int .i64 n)) S' K Kp) : wItems cl (.run ⟨dst, none, .e (.copy sz d s)⟩ :: r) fr S K Kp := by
  by_cases hn : n = 0
  · subst hn
    have hxs : xs = [] := List.eq_nil_of_length_eq_zero (by simpa using hx)
    subst hxs
    rw [if_pos rfl] at hd
    exact wi_copy0 hs hd rfl (h S (Keeps.refl _ _) rfl (by rw [splice_nil (by omega)]; exact hc))
  · rw [if_neg hn] at hd
    refine wi_copy hs hd hc hb ?_
    rw [Nat.min_self, List.take_of_length_le (by omega)]
    exact h _ (Keeps.set1 _ _ _) rfl (by rw [cells_setc, if_pos rfl])
theorem some_ite {α : Type} (c : Prop) [Decidable c] (a b : α) : (if c then some a else some b) = some (if c then a else b) := by split <;> rfl
theorem wi_append_mu0 {cl : Cl} {fr : Fr} {S : St} {K : Fr → St → Prop} {Kp : V → St → Prop} {dst : Option Nat} {sz bytes : Nat} {s x : Arg} {r : List Item} {xs : List V} {m : Nat}
    (hs : s.ev fr = .sl [] 0 sz .nil) (hx : (x.ev fr).elems S sz = some (m, xs)) (hl : xs.length = m * sz) (hr : roomOk m bytes = true)
    (h0 : m = 0 → wItems cl r (fr.put dst (.sl [] 0 sz .nil)) S K Kp) (h1 : m ≠ 0 → wItems cl r (fr.put dst (.msl S.n 0 m sz)) (S.add (.cells xs)) K Kp) :
    wItems cl (.run ⟨dst, none, .e (.append sz bytes true s x)⟩ :: r) fr S K Kp := by
  refine wi_e ?_
  by_cases hm : m = 0
  · subst hm
    simp only [wE, hx, hs, appendTo, hl, hr, ne_eq, not_true_eq_false, false_and, Nat.zero_add, Bool.true_eq_false, or_self, ↓reduceIte]
    exact h0 rfl
  · simp only [wE, hx, hs, appendTo, hl, hr, ne_eq, not_true_eq_false, false_and, Nat.zero_add, Bool.true_eq_false, or_self, ↓reduceIte, hm, grown, List.nil_append]
    exact h1 hm
end Go.VM
