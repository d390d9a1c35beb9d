/-
  Parts: RfWorld, RfLed, RfLook, RfLooks, RfHand, RfAct, RfBegin, RfAlike, RfActs, RfSafe.
-/
import Derived.Test.YtemimcgomickoaaL09
set_option maxRecDepth 20000
set_option linter.unusedVariables false
set_option linter.unusedSimpArgs false
namespace Go.VM
open Go Go.RowKit Go.Proofs
theorem Aft.two {S S1 : St} {r : Nat} {cs cs' : List V} {x y : Res} {l l' m : List Res} (h : Hold S (Res.cells r cs :: l)) (p : l.Perm (x :: m)) (a : Aft S x S1 y) (p' : l'.Perm (y :: m)) :
  Aft S (Res.all (Res.cells r cs :: l)) (S1.set r (.cells cs')) (Res.all (Res.cells r cs' :: l')) := by
 have b1 := Aft.part h (m := Res.cells r cs :: m) (l' := Res.cells r cs :: l') ((List.Perm.cons _ p).trans (List.Perm.swap _ _ _)) a ((List.Perm.cons _ p').trans (List.Perm.swap _ _ _))
 have h2 : Hold S1 (Res.cells r cs :: l') := b1.p
 exact b1.trans (Aft.part h2 (List.Perm.refl _) (Aft.set h2.head) (List.Perm.refl _))
def StrR (c : List V) (s : List UInt8) : Prop := c = [.str (mkS s)]
def U64R (c : List V) (n : Nat) : Prop := c = [.int .u64 (n : Nat)]
def I64R (c : List V) (n : Nat) : Prop := c = [.int .i64 (n : Nat)]
def PtrR (c : List V) (i : Nat) : Prop := c = [.ptr (some (i, 0))]
def optV (o : Option Nat) : V := .ptr (o.map fun r => (r, 0))
def u64V (n : Nat) : V := .int .u64 (n : Nat)
structure WB where
 n : Nat
 disks : List Nat
 nodes : List (Option Nat)
 net : List Pk
 prop : List (List UInt8)
 data : List (List UInt8)
 terms : List Nat
 leads : List Nat
 ins : List Nat
 least : List Nat
 made : List Nat
 bad : Bool
structure WP where
 w : Nat
 vd : V
 td : Tok
 vn : V
 on : Nat
 vt : V
 tt : Tok
 vp : V
 tp : Tok
 va : V
 ta : Tok
 vr : V
 tr : Tok
 vl : V
 tl : Tok
 vi : V
 ti : Tok
 ve : V
 oe : Nat
 vm : V
 tm : Tok
def WB.cells (W : WB) (B : WP) : List V := [.int .i64 (W.n : Nat), B.vd, B.vn, B.vt, B.vp, B.va, B.vr, B.vl, B.vi, B.ve, B.vm, .bool W.bad]
def WB.rest (W : WB) (B : WP) : List Res := [.list PtrR 1 B.vd W.disks B.td, .row B.vn (W.nodes.map optV) B.on, .list PkR 3 B.vt W.net B.tt, .list StrR 1 B.vp W.prop B.tp, .list StrR 1 B.va W.data B.ta, .list U64R 1 B.vr W.terms B.tr,
 .list I64R 1 B.vl W.leads B.tl, .list U64R 1 B.vi W.ins B.ti, .row B.ve (W.least.map u64V) B.oe, .list U64R 1 B.vm W.made B.tm]
structure BookAt (S : St) (B : WP) (W : WB) : Prop where
 h : Hold S (Res.cells B.w (W.cells B) :: W.rest B)
def Res.book (B : WP) (W : WB) : Res where
 P S := BookAt S B W
 own := (Res.all (Res.cells B.w (W.cells B) :: W.rest B)).own
 keep h k ho := ⟨(Res.all (Res.cells B.w (W.cells B) :: W.rest B)).keep h.h k ho⟩
 lt h hj := (Res.all (Res.cells B.w (W.cells B) :: W.rest B)).lt h.h hj
def BAft (S : St) (B : WP) (W : WB) (S' : St) (B' : WP) (W' : WB) : Prop := Aft S (.book B W) S' (.book B' W') ∧ B'.w = B.w
section
variable {S S' S1 : St} {B B' B1 : WP} {W W' W1 : WB}
theorem BAft.a (a : BAft S B W S' B' W') : BookAt S' B' W' := a.1.p
theorem BAft.refl (h : BookAt S B W) : BAft S B W S B W := ⟨Aft.refl h, rfl⟩
theorem BAft.trans (a : BAft S B W S1 B1 W1) (b : BAft S1 B1 W1 S' B' W') : BAft S B W S' B' W' := ⟨a.1.trans b.1, b.2.trans a.2⟩
theorem BAft.new (h : BookAt S B W) (k : Keeps (fun _ => False) S S') : BAft S B W S' B W := ⟨Aft.new h k, rfl⟩
theorem BAft.of (a : Aft S (Res.all (Res.cells B.w (W.cells B) :: W.rest B)) S' (Res.all (Res.cells B'.w (W'.cells B') :: W'.rest B'))) (hw : B'.w = B.w) : BAft S B W S' B' W' := ⟨⟨⟨a.p⟩, a.k, a.o⟩, hw⟩
theorem BookAt.ex (h : BookAt S B W) : S.cells B.w = some (W.cells B) := h.h.1.1
theorem BookAt.lt (h : BookAt S B W) : B.w < S.n := h.h.1.2
theorem BookAt.mem (h : BookAt S B W) {x : Res} (hx : x ∈ W.rest B) : x.P S := Hold.mem h.h x (List.mem_cons_of_mem _ hx)
theorem BookAt.stay (h : BookAt S B W) (k : Keeps (fun _ => False) S S') : BookAt S' B W := (Res.book B W).keep h k fun _ _ => id
theorem BookAt.prop (h : BookAt S B W) : IsSlice StrR 1 B.vp W.prop B.tp ∧ TokOk S B.tp := h.mem (x := .list StrR 1 B.vp W.prop B.tp) (by simp [WB.rest])
theorem BookAt.data (h : BookAt S B W) : IsSlice StrR 1 B.va W.data B.ta ∧ TokOk S B.ta := h.mem (x := .list StrR 1 B.va W.data B.ta) (by simp [WB.rest])
theorem BookAt.terms (h : BookAt S B W) : IsSlice U64R 1 B.vr W.terms B.tr ∧ TokOk S B.tr := h.mem (x := .list U64R 1 B.vr W.terms B.tr) (by simp [WB.rest])
theorem BookAt.leads (h : BookAt S B W) : IsSlice I64R 1 B.vl W.leads B.tl ∧ TokOk S B.tl := h.mem (x := .list I64R 1 B.vl W.leads B.tl) (by simp [WB.rest])
theorem BookAt.ins (h : BookAt S B W) : IsSlice U64R 1 B.vi W.ins B.ti ∧ TokOk S B.ti := h.mem (x := .list U64R 1 B.vi W.ins B.ti) (by simp [WB.rest])
theorem BookAt.made (h : BookAt S B W) : IsSlice U64R 1 B.vm W.made B.tm ∧ TokOk S B.tm := h.mem (x := .list U64R 1 B.vm W.made B.tm) (by simp [WB.rest])
theorem BookAt.net (h : BookAt S B W) : IsSlice PkR 3 B.vt W.net B.tt ∧ TokOk S B.tt := h.mem (x := .list PkR 3 B.vt W.net B.tt) (by simp [WB.rest])
theorem BookAt.disks (h : BookAt S B W) : IsSlice PtrR 1 B.vd W.disks B.td ∧ TokOk S B.td := h.mem (x := .list PtrR 1 B.vd W.disks B.td) (by simp [WB.rest])
end
theorem one_at {α : Type} {R : List V → α → Prop} {v : V} {l : List α} {t : Tok} {ce : List V} (h : IsSlice R 1 v l t) (hv : v = .sl ce l.length 1 t) {j : Nat} {x : α} (hx : l[j]? = some x) : ∃ c, R [c] x ∧ (ce.drop (j * 1)).head? = some c ∧ (t = .nil) = False ∧ (j < l.length) = True := by
 obtain ⟨cs, c, e1, hne, hjl, ht, hcl, hc2, hR⟩ := h.at_ hx
 rw [hv] at e1
 injection e1 with e1 _
 subst e1
 match c, hcl with
 | [c], _ =>
  refine ⟨c, hR, ?_, eq_false hne, eq_true hjl⟩
  cases hcd : ce.drop (j * 1) with
  | nil => rw [hcd] at hc2; simp at hc2
  | cons a b => rw [hcd] at hc2; simp at hc2; rw [hc2]; rfl
def WB.known (W : WB) (s : List UInt8) : Bool := decide (s = []) || decide (s ∈ W.prop)
theorem known_runs {w0 : World} {S : St} {Q : AEnd → St → Prop} {B : WP} {W : WB} {s : List UInt8} (h : BookAt S B W) (hp : W.prop.length ≤ 1000000) (hQ : Q (.ret (.bool (W.known s))) S) : RSim Try.prog w0 n_l15_world_known [.ptr (some (B.w, 0)), .str (mkS s)] S Q := by
 have ex := h.ex
 obtain ⟨hP, _⟩ := h.prop
 obtain ⟨cp, hv⟩ := hP.len
 have hat := fun {j : Nat} {x : List UInt8} (hx : W.prop[j]? = some x) => one_at hP hv hx
 unfold WB.cells at ex
 rw [hv] at ex
 have q1 := mkS_beq s []
 unfold WB.known at hQ
 cases b1 : decide (s = [])
 ·rw [b1] at q1 hQ
  refine RSim.run mixed k_l15_world_known ?_ (by simp)
  simp only [b_l15_world_known, go_sem, b1]
  refine wc_ite (b := false) (by simp only [go_sem] <;> rfl) (fun h => by cases h) (fun _ => ?_)
  simp only [go_sem]
  refine loop_rule RSim.le (k := W.prop.length) (fun q fr Sa => ∃ j : Nat, q = W.prop.length - j ∧ j ≤ W.prop.length ∧ fr 0 = .ptr (some (B.w, 0)) ∧ fr 1 = .str (mkS s) ∧ fr 5 = .int .i64 (j : Nat) ∧ s ∉ W.prop.take j ∧ Sa = S) ?_
   ⟨0, rfl, Nat.zero_le _, by simp only [go_sem], by simp only [go_sem], by simp only [go_sem]; rfl, by simp, rfl⟩
  rintro q fr Sa ⟨j, hq, hj, f0, f1, f5, hno, hSa⟩
  subst hSa
  simp only [l_l15_world_known_0, go_sem, f0, f5, ex]
  refine wc_ite (b := decide ((j : Int) < (W.prop.length : Int))) (by simp only [go_sem]) (fun hc => ?_) (fun hc => ?_)
  ·have hlt : j < W.prop.length := by have := of_decide_eq_true hc; omega
   have w1 : IntKind.i64.wrap ((j : Int) + 1) = ((j + 1 : Nat) : Int) := by rw [w64 (by omega) (by omega)]; omega
   obtain ⟨x, hx⟩ : ∃ x, W.prop[j]? = some x := ⟨_, List.getElem?_eq_getElem hlt⟩
   obtain ⟨c, hc1, hd, htn, hjt⟩ := hat hx
   injection hc1 with hc1 _
   subst hc1
   have q2 := mkS_beq x s
   simp only [go_sem, f0, f1, f5, ex, hjt, htn, hd, q2]
   refine wc_ite (b := decide (x = s)) (by simp only [go_sem]) (fun hc => ?_) (fun hc => ?_)
   ·have e := of_decide_eq_true hc
    subst e
    rw [decide_eq_true (List.mem_of_getElem? hx)] at hQ
    simp only [go_sem]
    exact hQ
   ·have e := of_decide_eq_false hc
    simp only [go_sem, f5, w1]
    refine ⟨W.prop.length - (j + 1), by omega, j + 1, rfl, by omega, f0, f1, rfl, ?_⟩
    rw [take_snoc hx]
    intro hm
    rcases List.mem_append.1 hm with hm | hm
    ·exact hno hm
    ·exact e (List.mem_singleton.1 hm).symm
  ·have hje : j = W.prop.length := by have := of_decide_eq_false hc; omega
   subst hje
   rw [List.take_length] at hno
   rw [decide_eq_false hno] at hQ
   simp only [go_sem]
   exact hQ
 ·rw [b1] at q1 hQ
  refine RSim.run mixed k_l15_world_known ?_ (by simp)
  simp only [b_l15_world_known, go_sem, b1]
  refine wc_ite (b := true) (by simp only [go_sem] <;> rfl) (fun _ => ?_) (fun h => by cases h)
  simp only [go_sem]
  exact hQ
end Go.VM
namespace Go.VM
open Go Go.RowKit Go.Proofs
def WB.ledBy (W : WB) (i t : Nat) : WB := if W.leads.getLast? = some i ∧ W.ins.getLast? = some t then W else { W with leads := W.leads ++ [i], ins := W.ins ++ [t] }
structure WB.Fine (W : WB) : Prop where
 l1 : W.leads.length = W.ins.length
 l2 : W.terms.length = W.data.length
 l3 : W.made.length = W.data.length
 l4 : W.leads.length + 10 ≤ 1000000
 l5 : W.data.length + 10 ≤ 1000000
 l6 : W.prop.length + 10 ≤ 1000000
 l7 : W.net.length + 10 ≤ 1000000
 n5 : W.n ≤ 5
theorem last_some {α : Type} {l : List α} (h : l ≠ []) : ∃ x, l[l.length - 1]? = some x ∧ l.getLast? = some x := by
 have := List.getLast?_eq_getElem? (l := l)
 cases hx : l.getLast? with
 | none => exact absurd (List.getLast?_eq_none_iff.1 hx) h
 | some x => exact ⟨x, by rw [← this, hx], rfl⟩
theorem led_back {w0 : World} {S : St} {Qc : CPost} {B : WP} {W : WB} {L : RL} {X : RN} {i : Nat} {fr : Fr} (hB : BookAt S B W) (hX : RaftAt S L X) (l2 : W.terms.length = W.data.length) (l3 : W.made.length = W.data.length) (l5 : W.data.length + 10 ≤ 1000000)
  (h2 : ∀ (k x t : Nat) (d : List UInt8), W.made[k]? = some x → x < X.term → W.terms[k]? = some t → W.data[k]? = some d → X.log[k]? = some (⟨t, d⟩ : LE))
  (f0 : fr 0 = .ptr (some (B.w, 0))) (f2 : fr 2 = .ptr (some (L.r, 0))) (f7 : fr 7 = .int .i64 0) (hQ : ∀ fr' S', Keeps (fun _ => False) S S' → Qc .normal fr' S') :
  wCode (RSim Try.prog w0) (.blk 2 (.loop l_l15_world_led_1)) fr S Qc := by
 have ex := hB.ex
 obtain ⟨hA, _⟩ := hB.data
 obtain ⟨ca, hva⟩ := hA.len
 obtain ⟨hT, _⟩ := hB.terms
 obtain ⟨ct, hvt⟩ := hT.len
 obtain ⟨hM, _⟩ := hB.made
 obtain ⟨cm, hvm⟩ := hM.len
 have exB := ex
 unfold WB.cells at ex
 rw [hva, hvt, hvm] at ex
 simp only [go_sem]
 refine loop_rule RSim.le (k := W.data.length) (fun q fr Sa => ∃ j : Nat, q = W.data.length - j ∧ j ≤ W.data.length ∧ fr 0 = .ptr (some (B.w, 0)) ∧ fr 2 = .ptr (some (L.r, 0)) ∧ fr 7 = .int .i64 (j : Nat) ∧ Keeps (fun _ => False) S Sa) ?_
  ⟨0, rfl, Nat.zero_le _, f0, f2, f7, Keeps.refl _ _⟩
 rintro q fr Sa ⟨j, hq, hj, f0, f2, f7, kA⟩
 have exA := kA.cells exB hB.lt _root_.id
 have hXA := hX.stay kA
 unfold WB.cells at exA
 rw [hva, hvt, hvm] at exA
 simp only [l_l15_world_led_1, go_sem, f0, f7, exA]
 refine wc_ite (b := decide ((j : Int) < (W.data.length : Int))) (by simp only [go_sem]) (fun hc => ?_) (fun hc => ?_)
 ·have hlt : j < W.data.length := by have := of_decide_eq_true hc; omega
  have w1 : IntKind.i64.wrap ((j : Int) + 1) = ((j + 1 : Nat) : Int) := by rw [w64 (by omega) (by omega)]; omega
  obtain ⟨d, hd⟩ : ∃ d, W.data[j]? = some d := ⟨_, List.getElem?_eq_getElem hlt⟩
  obtain ⟨t, ht⟩ : ∃ t, W.terms[j]? = some t := ⟨_, List.getElem?_eq_getElem (by omega)⟩
  obtain ⟨x, hx⟩ : ∃ x, W.made[j]? = some x := ⟨_, List.getElem?_eq_getElem (by omega)⟩
  obtain ⟨c1, e1, hd1, htn1, hjt1⟩ := one_at hA hva hd
  obtain ⟨c2, e2, hd2, htn2, hjt2⟩ := one_at hT hvt ht
  obtain ⟨c3, e3, hd3, htn3, hjt3⟩ := one_at hM hvm hx
  injection e1 with e1 _
  injection e2 with e2 _
  injection e3 with e3 _
  subst e1
  subst e2
  subst e3
  have q1 : decide ((x : Int) ≥ (X.term : Int)) = decide (X.term ≤ x) := decide_eq_decide.mpr (by omega)
  simp only [go_sem, r_l15_world_led_1, f0, f2, f7, exA, hd3, htn3, hjt3]
  refine wi_call ?_
  simp only [go_sem]
  refine term_runs hXA ?_
  simp only [go_sem, exA, hd3, htn3, hjt3, q1]
  refine wc_ite (b := decide (X.term ≤ x)) (by simp only [go_sem]) (fun hc => ?_) (fun hc => ?_)
  ·simp only [go_sem, f7, w1]
   exact ⟨W.data.length - (j + 1), by omega, j + 1, rfl, by omega, f0, f2, rfl, kA⟩
  ·have hxt := of_decide_eq_false hc
   have hlog := h2 j x t d hx (by omega) ht hd
   simp only [go_sem, r_l15_world_led_0, f2, f7, w1]
   refine wi_call ?_
   simp only [go_sem]
   refine entry_runs (i := j + 1) (x := ⟨t, d⟩) hXA (by omega) (by simpa using hlog) fun Sb vb hvb kb => ?_
   have kB := kA.trans kb (fun _ _ => _root_.id)
   have exB2 := kB.cells exB hB.lt _root_.id
   unfold WB.cells at exB2
   rw [hva, hvt, hvm] at exB2
   have cv : ∀ S, V.conv S .bytesStr vb = some (.str (mkS d)) := fun S => hvb.convS S
   have q2 : decide (d = d) = true := decide_eq_true rfl
   have q3 : ((t : Int) != (t : Int)) = false := by simp
   simp only [go_sem, f0, f7, exB2, cv, hd1, htn1, hjt1, hd2, htn2, hjt2, q2, q3]
   refine wc_ite (b := false) (by simp only [go_sem] <;> rfl) (fun h => by cases h) (fun _ => ?_)
   simp only [go_sem, f7, w1]
   exact ⟨W.data.length - (j + 1), by omega, j + 1, rfl, by omega, f0, f2, rfl, kB⟩
 ·simp only [go_sem]
  exact hQ _ _ kA
theorem BookAt.addNet {S S1 : St} {B : WP} {W : WB} {v' : V} {t' : Tok} {xs : List (Pk)} {cs : List V} (h : BookAt S B W) (hE : IsSlice PkR 3 v' (W.net ++ xs) t') (k : Keeps (tokOwn B.tt) S S1) (ht : TokOk S1 t') (hn : ∀ j, t' = .at j → S.n ≤ j)
  (hcs : cs = WB.cells { W with net := W.net ++ xs } { B with vt := v', tt := t' }) : BAft S B W (S1.set B.w (.cells cs)) { B with vt := v', tt := t' } { W with net := W.net ++ xs } := by
 subst hcs
 have a1 : Aft S (Res.list PkR 3 B.vt W.net B.tt) S1 (Res.list PkR 3 v' (W.net ++ xs) t') := ⟨⟨hE, ht⟩, k.mono fun j _ hj => hj, fun j hj => .inr (hn j hj)⟩
 exact BAft.of (Aft.two h.h (List.perm_middle (l₁ := [_, _])) a1 (List.perm_middle (l₁ := [_, _]))) rfl
theorem BookAt.addProp {S S1 : St} {B : WP} {W : WB} {v' : V} {t' : Tok} {xs : List (List UInt8)} {cs : List V} (h : BookAt S B W) (hE : IsSlice StrR 1 v' (W.prop ++ xs) t') (k : Keeps (tokOwn B.tp) S S1) (ht : TokOk S1 t') (hn : ∀ j, t' = .at j → S.n ≤ j)
  (hcs : cs = WB.cells { W with prop := W.prop ++ xs } { B with vp := v', tp := t' }) : BAft S B W (S1.set B.w (.cells cs)) { B with vp := v', tp := t' } { W with prop := W.prop ++ xs } := by
 subst hcs
 have a1 : Aft S (Res.list StrR 1 B.vp W.prop B.tp) S1 (Res.list StrR 1 v' (W.prop ++ xs) t') := ⟨⟨hE, ht⟩, k.mono fun j _ hj => hj, fun j hj => .inr (hn j hj)⟩
 exact BAft.of (Aft.two h.h (List.perm_middle (l₁ := [_, _, _])) a1 (List.perm_middle (l₁ := [_, _, _]))) rfl
theorem BookAt.addData {S S1 : St} {B : WP} {W : WB} {v' : V} {t' : Tok} {xs : List (List UInt8)} {cs : List V} (h : BookAt S B W) (hE : IsSlice StrR 1 v' (W.data ++ xs) t') (k : Keeps (tokOwn B.ta) S S1) (ht : TokOk S1 t') (hn : ∀ j, t' = .at j → S.n ≤ j)
  (hcs : cs = WB.cells { W with data := W.data ++ xs } { B with va := v', ta := t' }) : BAft S B W (S1.set B.w (.cells cs)) { B with va := v', ta := t' } { W with data := W.data ++ xs } := by
 subst hcs
 have a1 : Aft S (Res.list StrR 1 B.va W.data B.ta) S1 (Res.list StrR 1 v' (W.data ++ xs) t') := ⟨⟨hE, ht⟩, k.mono fun j _ hj => hj, fun j hj => .inr (hn j hj)⟩
 exact BAft.of (Aft.two h.h (List.perm_middle (l₁ := [_, _, _, _])) a1 (List.perm_middle (l₁ := [_, _, _, _]))) rfl
theorem BookAt.addTerms {S S1 : St} {B : WP} {W : WB} {v' : V} {t' : Tok} {xs : List (Nat)} {cs : List V} (h : BookAt S B W) (hE : IsSlice U64R 1 v' (W.terms ++ xs) t') (k : Keeps (tokOwn B.tr) S S1) (ht : TokOk S1 t') (hn : ∀ j, t' = .at j → S.n ≤ j)
  (hcs : cs = WB.cells { W with terms := W.terms ++ xs } { B with vr := v', tr := t' }) : BAft S B W (S1.set B.w (.cells cs)) { B with vr := v', tr := t' } { W with terms := W.terms ++ xs } := by
 subst hcs
 have a1 : Aft S (Res.list U64R 1 B.vr W.terms B.tr) S1 (Res.list U64R 1 v' (W.terms ++ xs) t') := ⟨⟨hE, ht⟩, k.mono fun j _ hj => hj, fun j hj => .inr (hn j hj)⟩
 exact BAft.of (Aft.two h.h (List.perm_middle (l₁ := [_, _, _, _, _])) a1 (List.perm_middle (l₁ := [_, _, _, _, _]))) rfl
theorem BookAt.addLeads {S S1 : St} {B : WP} {W : WB} {v' : V} {t' : Tok} {xs : List (Nat)} {cs : List V} (h : BookAt S B W) (hE : IsSlice I64R 1 v' (W.leads ++ xs) t') (k : Keeps (tokOwn B.tl) S S1) (ht : TokOk S1 t') (hn : ∀ j, t' = .at j → S.n ≤ j)
  (hcs : cs = WB.cells { W with leads := W.leads ++ xs } { B with vl := v', tl := t' }) : BAft S B W (S1.set B.w (.cells cs)) { B with vl := v', tl := t' } { W with leads := W.leads ++ xs } := by
 subst hcs
 have a1 : Aft S (Res.list I64R 1 B.vl W.leads B.tl) S1 (Res.list I64R 1 v' (W.leads ++ xs) t') := ⟨⟨hE, ht⟩, k.mono fun j _ hj => hj, fun j hj => .inr (hn j hj)⟩
 exact BAft.of (Aft.two h.h (List.perm_middle (l₁ := [_, _, _, _, _, _])) a1 (List.perm_middle (l₁ := [_, _, _, _, _, _]))) rfl
theorem BookAt.addIns {S S1 : St} {B : WP} {W : WB} {v' : V} {t' : Tok} {xs : List (Nat)} {cs : List V} (h : BookAt S B W) (hE : IsSlice U64R 1 v' (W.ins ++ xs) t') (k : Keeps (tokOwn B.ti) S S1) (ht : TokOk S1 t') (hn : ∀ j, t' = .at j → S.n ≤ j)
  (hcs : cs = WB.cells { W with ins := W.ins ++ xs } { B with vi := v', ti := t' }) : BAft S B W (S1.set B.w (.cells cs)) { B with vi := v', ti := t' } { W with ins := W.ins ++ xs } := by
 subst hcs
 have a1 : Aft S (Res.list U64R 1 B.vi W.ins B.ti) S1 (Res.list U64R 1 v' (W.ins ++ xs) t') := ⟨⟨hE, ht⟩, k.mono fun j _ hj => hj, fun j hj => .inr (hn j hj)⟩
 exact BAft.of (Aft.two h.h (List.perm_middle (l₁ := [_, _, _, _, _, _, _])) a1 (List.perm_middle (l₁ := [_, _, _, _, _, _, _]))) rfl
theorem BookAt.addMade {S S1 : St} {B : WP} {W : WB} {v' : V} {t' : Tok} {xs : List (Nat)} {cs : List V} (h : BookAt S B W) (hE : IsSlice U64R 1 v' (W.made ++ xs) t') (k : Keeps (tokOwn B.tm) S S1) (ht : TokOk S1 t') (hn : ∀ j, t' = .at j → S.n ≤ j)
  (hcs : cs = WB.cells { W with made := W.made ++ xs } { B with vm := v', tm := t' }) : BAft S B W (S1.set B.w (.cells cs)) { B with vm := v', tm := t' } { W with made := W.made ++ xs } := by
 subst hcs
 have a1 : Aft S (Res.list U64R 1 B.vm W.made B.tm) S1 (Res.list U64R 1 v' (W.made ++ xs) t') := ⟨⟨hE, ht⟩, k.mono fun j _ hj => hj, fun j hj => .inr (hn j hj)⟩
 exact BAft.of (Aft.two h.h (List.perm_middle (l₁ := [_, _, _, _, _, _, _, _, _])) a1 (List.perm_middle (l₁ := [_, _, _, _, _, _, _, _, _]))) rfl
theorem BookAt.cellsTok {S S1 : St} {B : WP} {W : WB} {x : Res} {o : Nat → Prop} (h : BookAt S B W) (hx : x ∈ W.rest B) (k : Keeps o S S1) (ho : ∀ j, o j → x.own j) : S1.cells B.w = some (W.cells B) :=
 k.cells h.ex h.lt fun hh => h.h.2.1 x hx B.w rfl (ho _ hh)
theorem led_book {w0 : World} {S : St} {Q : AEnd → St → Prop} {B : WP} {W : WB} {L : RL} {X : RN} {i : Nat} {fr : Fr} (hH : Hold S [Res.book B W, Res.raft L X]) (hF : W.Fine) (hi : i < 1000)
  (h2 : ∀ (k x t : Nat) (d : List UInt8), W.made[k]? = some x → x < X.term → W.terms[k]? = some t → W.data[k]? = some d → X.log[k]? = some (⟨t, d⟩ : LE))
  (f0 : fr 0 = .ptr (some (B.w, 0))) (f1 : fr 1 = .int .i64 (i : Nat)) (f2 : fr 2 = .ptr (some (L.r, 0))) (hQ : ∀ S' B', BAft S B W S' B' (W.ledBy i X.term) → Q (.ret (.tup [])) S') :
  wCode (RSim Try.prog w0) s_l15_world_led_0 fr S (resQ [] Q) := by
 have hB : BookAt S B W := hH.1
 have hX : RaftAt S L X := hH.2.2.1
 have hXt := hX.ok.term
 have ex := hB.ex
 obtain ⟨hL, htl⟩ := hB.leads
 obtain ⟨cl, hvl⟩ := hL.len
 obtain ⟨hI, hti⟩ := hB.ins
 obtain ⟨ci, hvi⟩ := hI.len
 have l1 := hF.l1
 have l4 := hF.l4
 have exB := ex
 unfold WB.cells at ex
 -- both lists grow
 have grow : ∀ (fr : Fr) (Qc : CPost), fr 0 = .ptr (some (B.w, 0)) → fr 1 = .int .i64 (i : Nat) → fr 2 = .ptr (some (L.r, 0)) →
   (∀ fr' S' B', BAft S B W S' B' { W with leads := W.leads ++ [i], ins := W.ins ++ [X.term] } → fr' 0 = .ptr (some (B.w, 0)) → fr' 2 = .ptr (some (L.r, 0)) → Qc .normal fr' S') →
   wCode (RSim Try.prog w0) i_l15_world_led_0 fr S Qc := by
  intro fr Qc f0 f1 f2 hQc
  simp only [i_l15_world_led_0, go_sem, f0, f1, ex]
  refine wi_appendR (v := B.vl) (l := W.leads) (y := i) (c := [.int .i64 (i : Nat)]) (by simp only [go_sem]) hL (by simp only [go_sem]; rfl) rfl rfl (by omega) htl fun tl' S2 vl' hE2 k2 ht2 hn2 hne2 => ?_
  have exk := hB.cellsTok (x := .list I64R 1 B.vl W.leads B.tl) (by simp [WB.rest]) k2 (fun j hj => hj)
  have a1 := hB.addLeads hE2 k2 ht2 hn2 rfl
  have hone := hE2.one
  have hcl := cells_one hone
  unfold WB.cells at exk a1
  simp only [go_sem, f0, exk, hone, hcl]
  generalize S2.set B.w (.cells _) = S3 at *
  have ex3 := a1.a.ex
  have hX3 : RaftAt S3 L X := (hH.step a1.1).2.2.1
  obtain ⟨hI3, hti3⟩ := a1.a.ins
  unfold WB.cells at ex3
  simp only [go_sem, f0, f2, ex3]
  refine wi_call ?_
  simp only [go_sem]
  refine term_runs hX3 ?_
  simp only [go_sem, ex3]
  refine wi_appendR (v := B.vi) (l := W.ins) (y := X.term) (c := [.int .u64 (X.term : Nat)]) (by simp only [go_sem]) hI3 (by simp only [go_sem]; rfl) rfl rfl (by omega) hti3 fun ti' S4 vi' hE4 k4 ht4 hn4 hne4 => ?_
  have exk4 := a1.a.cellsTok (x := .list U64R 1 B.vi W.ins B.ti) (by simp [WB.rest]) k4 (fun j hj => hj)
  have a2 := a1.a.addIns hE4 k4 ht4 hn4 rfl
  have hone4 := hE4.one
  have hcl4 := cells_one hone4
  have a12 := a1.trans a2
  unfold WB.cells at exk4 a12
  simp only [go_sem, f0, exk4, hone4, hcl4]
  exact hQc _ _ _ a12 (by simp only [go_sem, f0]) (by simp only [go_sem, f2])
 have back : ∀ (fr : Fr) (S1 : St) (B1 : WP), BAft S B W S1 B1 (W.ledBy i X.term) → fr 0 = .ptr (some (B.w, 0)) → fr 2 = .ptr (some (L.r, 0)) → fr 7 = .int .i64 0 → wCode (RSim Try.prog w0) (.blk 2 (.loop l_l15_world_led_1)) fr S1 (resQ [] Q) := by
  intro fr S1 B1 a g0 g2 g7
  have hX1 : RaftAt S1 L X := (hH.step a.1).2.2.1
  have hwb : B1.w = B.w := a.2
  have hFd : (W.ledBy i X.term).data = W.data ∧ (W.ledBy i X.term).terms = W.terms ∧ (W.ledBy i X.term).made = W.made ∧ (W.ledBy i X.term).prop = W.prop ∧ (W.ledBy i X.term).net = W.net ∧ (W.ledBy i X.term).n = W.n := by
   unfold WB.ledBy
   split <;> exact ⟨rfl, rfl, rfl, rfl, rfl, rfl⟩
  obtain ⟨d1, d2, d3, d4, d5, d6⟩ := hFd
  refine led_back (L := L) (X := X) (B := B1) (W := W.ledBy i X.term) (i := i) a.a hX1 (by rw [d2, d1]; exact hF.l2) (by rw [d3, d1]; exact hF.l3) (by rw [d1]; exact hF.l5) (by rw [d1, d2, d3]; exact h2) (by rw [g0, hwb]) g2 g7 fun fr' S' k => ?_
  exact hQ S' B1 (a.trans (BAft.new a.a k))
 have exL := ex
 rw [hvl, hvi] at exL
 have q0 : ((W.leads.length : Int) == 0) = decide (W.leads = []) := by
  rw [Bool.eq_iff_iff, beq_iff_eq, decide_eq_true_iff]
  exact ⟨fun h => List.eq_nil_of_length_eq_zero (by omega), fun h => by rw [h]; rfl⟩
 by_cases he : W.leads = []
 ·rw [decide_eq_true he] at q0
  have hled : W.ledBy i X.term = { W with leads := W.leads ++ [i], ins := W.ins ++ [X.term] } := by unfold WB.ledBy; rw [if_neg (by rw [he]; simp)]
  simp only [s_l15_world_led_0, go_sem, f0, f1, f2, exL, q0]
  refine wc_ite (b := true) (by simp only [go_sem] <;> rfl) (fun _ => ?_) (fun h => by cases h)
  refine grow _ _ (by simp only [go_sem, f0]) (by simp only [go_sem, f1]) (by simp only [go_sem, f2]) fun fr' S1 B1 a g0 g2 => ?_
  rw [← hled] at a
  simp only [go_sem]
  exact back _ S1 B1 a (by simp only [go_sem, g0]) (by simp only [go_sem, g2]) (by simp only [go_sem])
 rw [decide_eq_false he] at q0
 have hel : W.leads.length ≠ 0 := fun e => he (List.eq_nil_of_length_eq_zero e)
 obtain ⟨x, hx, hlx⟩ := last_some he
 obtain ⟨c1, e1, hd1, htn1, hjt1⟩ := one_at hL hvl hx
 injection e1 with e1 _
 subst e1
 have w1 : IntKind.i64.wrap ((W.leads.length : Int) - 1) = ((W.leads.length - 1 : Nat) : Int) := by rw [w64 (by omega) (by omega)]; omega
 have q1 : ((x : Int) != (i : Int)) = decide (x ≠ i) := by rw [Bool.eq_iff_iff, bne_iff_ne, decide_eq_true_iff]; omega
 by_cases hxi : x = i
 ·rw [decide_eq_false (by simpa using hxi)] at q1
  have hei : W.ins ≠ [] := fun e => hel (by rw [l1, e]; rfl)
  obtain ⟨y, hy, hly⟩ := last_some hei
  obtain ⟨c2, e2, hd2, htn2, hjt2⟩ := one_at hI hvi hy
  injection e2 with e2 _
  subst e2
  have w2 : IntKind.i64.wrap ((W.ins.length : Int) - 1) = ((W.ins.length - 1 : Nat) : Int) := by rw [w64 (by omega) (by omega)]; omega
  have q2 : ((y : Int) != (X.term : Int)) = decide (y ≠ X.term) := by rw [Bool.eq_iff_iff, bne_iff_ne, decide_eq_true_iff]; omega
  simp only [s_l15_world_led_0, go_sem, f0, f1, f2, exL, q0, w1, hjt1, htn1, hd1, q1, w2, hjt2, htn2, hd2]
  refine wi_call ?_
  simp only [go_sem]
  refine term_runs hX ?_
  by_cases hyt : y = X.term
  ·rw [decide_eq_false (by simpa using hyt)] at q2
   have hled : W.ledBy i X.term = W := by unfold WB.ledBy; rw [if_pos ⟨by rw [hlx, hxi], by rw [hly, hyt]⟩]
   simp only [go_sem, f0, f1, f2, exL, w1, hjt1, htn1, hd1, w2, hjt2, htn2, hd2, q2]
   refine wc_ite (b := false) (by simp only [go_sem] <;> rfl) (fun h => by cases h) (fun _ => ?_)
   simp only [go_sem]
   exact back _ S B (by rw [hled]; exact BAft.refl hB) (by simp only [go_sem, f0]) (by simp only [go_sem, f2]) (by simp only [go_sem])
  ·rw [decide_eq_true hyt] at q2
   have hled : W.ledBy i X.term = { W with leads := W.leads ++ [i], ins := W.ins ++ [X.term] } := by unfold WB.ledBy; rw [if_neg (fun hh => by rw [hly] at hh; exact hyt (Option.some.inj hh.2))]
   simp only [go_sem, f0, f1, f2, exL, w1, hjt1, htn1, hd1, w2, hjt2, htn2, hd2, q2]
   refine wc_ite (b := true) (by simp only [go_sem] <;> rfl) (fun _ => ?_) (fun h => by cases h)
   refine grow _ _ (by simp only [go_sem, f0]) (by simp only [go_sem, f1]) (by simp only [go_sem, f2]) fun fr' S1 B1 a g0 g2 => ?_
   rw [← hled] at a
   simp only [go_sem]
   exact back _ S1 B1 a (by simp only [go_sem, g0]) (by simp only [go_sem, g2]) (by simp only [go_sem])
 ·rw [decide_eq_true hxi] at q1
  have hled : W.ledBy i X.term = { W with leads := W.leads ++ [i], ins := W.ins ++ [X.term] } := by unfold WB.ledBy; rw [if_neg (fun hh => by rw [hlx] at hh; exact hxi (Option.some.inj hh.1))]
  simp only [s_l15_world_led_0, go_sem, f0, f1, f2, exL, q0, w1, hjt1, htn1, hd1, q1]
  refine wc_ite (b := true) (by simp only [go_sem] <;> rfl) (fun _ => ?_) (fun h => by cases h)
  refine grow _ _ (by simp only [go_sem, f0]) (by simp only [go_sem, f1]) (by simp only [go_sem, f2]) fun fr' S1 B1 a g0 g2 => ?_
  rw [← hled] at a
  simp only [go_sem]
  exact back _ S1 B1 a (by simp only [go_sem, g0]) (by simp only [go_sem, g2]) (by simp only [go_sem])
theorem led_runs {w0 : World} {S : St} {Q : AEnd → St → Prop} {B : WP} {W : WB} {L : RL} {X : RN} {i : Nat} (hH : Hold S [Res.book B W, Res.raft L X]) (hF : W.Fine) (hi : i < 1000)
  (h1 : ∀ k : Nat, W.ins[k]? = some X.term → W.leads[k]? = some i)
  (h2 : ∀ (k x t : Nat) (d : List UInt8), W.made[k]? = some x → x < X.term → W.terms[k]? = some t → W.data[k]? = some d → X.log[k]? = some (⟨t, d⟩ : LE))
  (hQ : ∀ S' B', BAft S B W S' B' (W.ledBy i X.term) → Q (.ret (.tup [])) S') : RSim Try.prog w0 n_l15_world_led [.ptr (some (B.w, 0)), .int .i64 (i : Nat), .ptr (some (L.r, 0))] S Q := by
 have hB : BookAt S B W := hH.1
 have hX : RaftAt S L X := hH.2.2.1
 have ex := hB.ex
 obtain ⟨hL, _⟩ := hB.leads
 obtain ⟨cl, hvl⟩ := hL.len
 obtain ⟨hI, _⟩ := hB.ins
 obtain ⟨ci, hvi⟩ := hI.len
 have l1 := hF.l1
 have l4 := hF.l4
 unfold WB.cells at ex
 rw [hvl, hvi] at ex
 refine RSim.run mixed k_l15_world_led ?_ (by simp)
 simp only [b_l15_world_led, go_sem]
 refine loop_rule RSim.le (k := W.leads.length) (fun q fr Sa => ∃ j : Nat, q = W.leads.length - j ∧ j ≤ W.leads.length ∧ fr 0 = .ptr (some (B.w, 0)) ∧ fr 1 = .int .i64 (i : Nat) ∧ fr 2 = .ptr (some (L.r, 0)) ∧ fr 6 = .int .i64 (j : Nat) ∧ Sa = S) ?_
  ⟨0, rfl, Nat.zero_le _, by simp only [go_sem], by simp only [go_sem], by simp only [go_sem], by simp only [go_sem]; rfl, rfl⟩
 rintro q fr Sa ⟨j, hq, hj, f0, f1, f2, f6, hSa⟩
 subst hSa
 simp only [l_l15_world_led_0, go_sem, f0, f6, ex]
 refine wc_ite (b := decide ((j : Int) < (W.leads.length : Int))) (by simp only [go_sem]) (fun hc => ?_) (fun hc => ?_)
 ·have hlt : j < W.leads.length := by have := of_decide_eq_true hc; omega
  have w1 : IntKind.i64.wrap ((j : Int) + 1) = ((j + 1 : Nat) : Int) := by rw [w64 (by omega) (by omega)]; omega
  obtain ⟨x, hx⟩ : ∃ x, W.leads[j]? = some x := ⟨_, List.getElem?_eq_getElem hlt⟩
  obtain ⟨y, hy⟩ : ∃ y, W.ins[j]? = some y := ⟨_, List.getElem?_eq_getElem (by omega)⟩
  obtain ⟨c1, e1, hd1, htn1, hjt1⟩ := one_at hL hvl hx
  obtain ⟨c2, e2, hd2, htn2, hjt2⟩ := one_at hI hvi hy
  injection e1 with e1 _
  injection e2 with e2 _
  subst e1
  subst e2
  have q1 : ((y : Int) == (X.term : Int)) = decide (y = X.term) := by rw [Bool.eq_iff_iff, beq_iff_eq, decide_eq_true_iff]; omega
  simp only [go_sem, k_l15_world_led_0, f0, f2, f6, ex, hjt2, htn2, hd2]
  refine wi_call ?_
  simp only [go_sem]
  refine term_runs hX ?_
  by_cases hyt : y = X.term
  ·rw [decide_eq_true hyt] at q1
   have hxi : x = i := by
    have := h1 j (by rw [hy, hyt])
    rw [hx] at this
    exact Option.some.inj this
   have q2 : ((x : Int) != (i : Int)) = false := by rw [hxi]; simp
   simp only [go_sem, f0, f1, f6, ex, hjt2, htn2, hd2, q1, hjt1, htn1, hd1, q2]
   refine wc_ite (b := false) (by simp only [go_sem] <;> rfl) (fun h => by cases h) (fun _ => ?_)
   simp only [go_sem, f6, w1]
   exact ⟨W.leads.length - (j + 1), by omega, j + 1, rfl, by omega, f0, f1, f2, rfl⟩
  ·rw [decide_eq_false hyt] at q1
   simp only [go_sem, f0, f6, ex, hjt2, htn2, hd2, q1]
   refine wc_ite (b := false) (by simp only [go_sem] <;> rfl) (fun h => by cases h) (fun _ => ?_)
   simp only [go_sem, f6, w1]
   exact ⟨W.leads.length - (j + 1), by omega, j + 1, rfl, by omega, f0, f1, f2, rfl⟩
 ·simp only [go_sem]
  exact led_book hH hF hi h2 (by simp only [go_sem, f0]) (by simp only [go_sem, f1]) (by simp only [go_sem, f2]) hQ
end Go.VM
namespace Go.VM
open Go Go.RowKit Go.Proofs
def topL (l : List Nat) : Nat := l.foldl max 0
theorem topL_snoc {l : List Nat} {j x : Nat} (h : l[j]? = some x) : topL (l.take (j + 1)) = max (topL (l.take j)) x := by
 rw [take_snoc h]; unfold topL; rw [List.foldl_append]; rfl
theorem BookAt.same {S : St} {B : WP} {W : WB} {cs : List V} (h : BookAt S B W) (hcs : cs = W.cells B) : BAft S B W (S.set B.w (.cells cs)) B W := by
 subst hcs
 exact BAft.of (Aft.part h.h (List.Perm.refl _) (Aft.set h.h.head) (List.Perm.refl _)) rfl
theorem BookAt.least {S : St} {B : WP} {W : WB} (h : BookAt S B W) : RowAt S B.ve (W.least.map u64V) W.least.length 1 B.oe := by
 have h2 : RowAt S B.ve (W.least.map u64V) (W.least.map u64V).length 1 B.oe := h.mem (x := .row B.ve (W.least.map u64V) B.oe) (by simp [WB.rest])
 rwa [List.length_map] at h2
theorem BookAt.nodes {S : St} {B : WP} {W : WB} (h : BookAt S B W) : RowAt S B.vn (W.nodes.map optV) W.nodes.length 1 B.on := by
 have h2 : RowAt S B.vn (W.nodes.map optV) (W.nodes.map optV).length 1 B.on := h.mem (x := .row B.vn (W.nodes.map optV) B.on) (by simp [WB.rest])
 rwa [List.length_map] at h2
theorem rowf_at {α : Type} {f : α → V} {S : St} {v : V} {l : List α} {o : Nat} (h : RowAt S v (l.map f) l.length 1 o) {j : Nat} {k : α} (hk : l[j]? = some k) : v = .msl o 0 l.length 1 ∧ S.cells o = some (l.map f) ∧ o < S.n ∧ (j < l.length) = True ∧ ((l.map f).drop (j * 1)).head? = some (f k) := by
 have hj := (List.getElem?_eq_some_iff.1 hk).1
 rcases h with ⟨h0, _⟩ | ⟨_, h1, h2, _, h4⟩
 ·omega
 ·exact ⟨h1, h2, h4, eq_true hj, by rw [Nat.mul_one, List.head?_drop, List.getElem?_map, hk]; rfl⟩
theorem look_top {w0 : World} {S : St} {Qc : CPost} {B : WP} {W : WB} {d : List UInt8} {v : V} {fr : Fr} (h : BookAt S B W) (hn5 : W.n ≤ 5) (hl6 : W.prop.length + 10 ≤ 1000000) (hln : W.least.length = W.n) (hn0 : 1 ≤ W.n) (hlt : ∀ x ∈ W.least, x < 9223372036854775808) (hb : W.bad = false) (hk : W.known d = true) (hv : IsBytes v d) (hm : W.made.length + 10 ≤ 1000000)
  (f0 : fr 0 = .ptr (some (B.w, 0))) (f6 : fr 6 = v) (f9 : fr 9 = .int .u64 (0 : Nat)) (f10 : fr 10 = .int .i64 (0 : Nat))
  (hQ : ∀ fr' S' B', BAft S B W S' B' { W with made := W.made ++ [topL W.least] } → (fr' 0 = fr 0 ∧ fr' 1 = fr 1 ∧ fr' 4 = fr 4 ∧ fr' 5 = fr 5 ∧ fr' 6 = fr 6 ∧ fr' 7 = fr 7) → Qc .normal fr' S') :
  wCode (RSim Try.prog w0) (.seq (.blk 2 (.loop l_l15_world_look_0)) s_l15_world_look_0) fr S Qc := by
 have ex := h.ex
 obtain ⟨hM, htm⟩ := h.made
 obtain ⟨x0, hx0⟩ : ∃ x, W.least[0]? = some x := ⟨_, List.getElem?_eq_getElem (by omega)⟩
 obtain ⟨hve, hce, _, _, _⟩ := rowf_at h.least hx0
 have exB := ex
 unfold WB.cells at ex
 have ex1 := ex
 rw [hve] at ex1
 simp only [go_sem]
 refine loop_rule RSim.le (k := W.n) (fun q fr1 Sa => ∃ j : Nat, q = W.n - j ∧ j ≤ W.n ∧ fr1 9 = .int .u64 (topL (W.least.take j) : Nat) ∧ fr1 10 = .int .i64 (j : Nat) ∧ (fr1 0 = fr 0 ∧ fr1 1 = fr 1 ∧ fr1 4 = fr 4 ∧ fr1 5 = fr 5 ∧ fr1 6 = fr 6 ∧ fr1 7 = fr 7) ∧ Sa = S) ?_
  ⟨0, rfl, Nat.zero_le _, f9, f10, ⟨rfl, rfl, rfl, rfl, rfl, rfl⟩, rfl⟩
 rintro q fr1 Sa ⟨j, hq, hj, g9, g10, ⟨e0, e1, e4, e5, e6, e7⟩, hSa⟩
 subst hSa
 rw [f0] at e0
 rw [f6] at e6
 simp only [l_l15_world_look_0, go_sem, e0, g10, ex1]
 refine wc_ite (b := decide ((j : Int) < (W.n : Int))) (by simp only [go_sem]) (fun hc => ?_) (fun hc => ?_)
 ·have hjl : j < W.n := by have := of_decide_eq_true hc; omega
  have w1 : IntKind.i64.wrap ((j : Int) + 1) = ((j + 1 : Nat) : Int) := by rw [w64 (by omega) (by omega)]; omega
  obtain ⟨x, hx⟩ : ∃ x, W.least[j]? = some x := ⟨_, List.getElem?_eq_getElem (by omega)⟩
  obtain ⟨_, _, _, hjt, hhd⟩ := rowf_at h.least hx
  have hhd' : ((W.least.map u64V).drop (j * 1)).head? = some (.int .u64 (x : Nat)) := hhd
  have q1 : decide ((x : Int) > (topL (W.least.take j) : Int)) = decide (topL (W.least.take j) < x) := decide_eq_decide.mpr (by omega)
  have hts := topL_snoc hx
  simp only [go_sem, r_l15_world_look_0, e0, g9, g10, ex1, hjt, hce, hhd', q1]
  refine wc_ite (b := decide (topL (W.least.take j) < x)) (by simp only [go_sem]) (fun hc => ?_) (fun hc => ?_)
  ·have hlx := of_decide_eq_true hc
   rw [Nat.max_eq_right (by omega)] at hts
   simp only [go_sem, e0, g10, ex1, hjt, hce, hhd', w1]
   exact ⟨W.n - (j + 1), by omega, j + 1, rfl, by omega, by rw [hts], rfl, ⟨by simp only [go_sem, e0, f0], e1, e4, e5, by simp only [go_sem, e6, f6], e7⟩⟩
  ·have hlx := of_decide_eq_false hc
   rw [Nat.max_eq_left (by omega)] at hts
   simp only [go_sem, g10, w1]
   exact ⟨W.n - (j + 1), by omega, j + 1, rfl, by omega, by rw [hts]; exact g9, rfl, ⟨by simp only [go_sem, e0, f0], e1, e4, e5, by simp only [go_sem, e6, f6], e7⟩⟩
 ·have hje : j = W.least.length := by have := of_decide_eq_false hc; omega
  subst hje
  rw [List.take_length] at g9
  simp only [go_sem, s_l15_world_look_0, e0, g9, ex]
  refine wi_appendR (v := B.vm) (l := W.made) (y := topL W.least) (c := [.int .u64 (topL W.least : Nat)]) (by simp only [go_sem]) hM (by simp only [go_sem]; rfl) rfl rfl (by omega) htm fun tm' S2 vm' hE2 k2 ht2 hn2 hne2 => ?_
  have exk := h.cellsTok (x := .list U64R 1 B.vm W.made B.tm) (by simp [WB.rest]) k2 (fun j hj => hj)
  have a1 := h.addMade hE2 k2 ht2 hn2 rfl
  have hone := hE2.one
  have hcl := cells_one hone
  unfold WB.cells at exk a1
  simp only [go_sem, e0, exk, hone, hcl]
  generalize S2.set B.w (.cells _) = S3 at *
  have ex3 := a1.a.ex
  unfold WB.cells at ex3
  have cv : ∀ S, V.conv S .bytesStr v = some (.str (mkS d)) := fun S => hv.convS S
  have hk' : ({ W with made := W.made ++ [topL W.least] } : WB).known d = true := hk
  simp only [go_sem, e0, e6, ex3, hb, cv]
  refine wi_call ?_
  simp only [go_sem]
  refine known_runs (B := { B with vm := vm', tm := tm' }) (W := { W with made := W.made ++ [topL W.least] }) a1.a (by show W.prop.length ≤ _; omega) ?_
  rw [hk']
  simp only [go_sem, e0, ex3, hb]
  exact hQ _ _ _ (a1.trans (a1.a.same (by unfold WB.cells; simp only [hb]))) ⟨by simp only [go_sem, e0, f0], by simp only [go_sem, e1], by simp only [go_sem, e4], by simp only [go_sem, e5], by simp only [go_sem, e6, f6], by simp only [go_sem, e7]⟩
theorem look_new {w0 : World} {S : St} {Qc : CPost} {B : WP} {W : WB} {t : Nat} {d : List UInt8} {v : V} {fr : Fr} (h : BookAt S B W) (hF : W.Fine) (hln : W.least.length = W.n) (hn0 : 1 ≤ W.n) (hlt : ∀ x ∈ W.least, x < 9223372036854775808) (hb : W.bad = false) (hk : W.known d = true) (hv : IsBytes v d)
  (f0 : fr 0 = .ptr (some (B.w, 0))) (f6 : fr 6 = v) (f7 : fr 7 = .int .u64 (t : Nat))
  (hQ : ∀ fr' S' B', BAft S B W S' B' { W with data := W.data ++ [d], terms := W.terms ++ [t], made := W.made ++ [topL W.least] } → (fr' 0 = fr 0 ∧ fr' 1 = fr 1 ∧ fr' 4 = fr 4 ∧ fr' 5 = fr 5 ∧ fr' 6 = fr 6 ∧ fr' 7 = fr 7) → Qc .normal fr' S') :
  wCode (RSim Try.prog w0) i_l15_world_look_0 fr S Qc := by
 have ex := h.ex
 have l2 := hF.l2
 have l3 := hF.l3
 have l5 := hF.l5
 obtain ⟨hD, htd⟩ := h.data
 have cv : ∀ S, V.conv S .bytesStr v = some (.str (mkS d)) := fun S => hv.convS S
 unfold WB.cells at ex
 simp only [i_l15_world_look_0, go_sem, f0, f6, ex, cv]
 refine wi_appendR (v := B.va) (l := W.data) (y := d) (c := [.str (mkS d)]) (by simp only [go_sem]) hD (by simp only [go_sem]; rfl) rfl rfl (by omega) htd fun ta' S2 va' hE2 k2 ht2 hn2 hne2 => ?_
 have exk := h.cellsTok (x := .list StrR 1 B.va W.data B.ta) (by simp [WB.rest]) k2 (fun j hj => hj)
 have a1 := h.addData hE2 k2 ht2 hn2 rfl
 have hone := hE2.one
 have hcl := cells_one hone
 unfold WB.cells at exk a1
 simp only [go_sem, f0, exk, hone, hcl]
 generalize S2.set B.w (.cells _) = S3 at *
 have ex3 := a1.a.ex
 obtain ⟨hT, htt⟩ := a1.a.terms
 unfold WB.cells at ex3
 simp only [go_sem, f0, f7, ex3]
 refine wi_appendR (v := B.vr) (l := W.terms) (y := t) (c := [.int .u64 (t : Nat)]) (by simp only [go_sem]) hT (by simp only [go_sem]; rfl) rfl rfl (by omega) htt fun tr' S4 vr' hE4 k4 ht4 hn4 hne4 => ?_
 have exk4 := a1.a.cellsTok (x := .list U64R 1 B.vr W.terms B.tr) (by simp [WB.rest]) k4 (fun j hj => hj)
 have a2 := a1.a.addTerms hE4 k4 ht4 hn4 rfl
 have hone4 := hE4.one
 have hcl4 := cells_one hone4
 have a12 := a1.trans a2
 unfold WB.cells at exk4 a12
 simp only [go_sem, f0, exk4, hone4, hcl4]
 generalize S4.set B.w (.cells _) = S5 at *
 refine look_top (B := { B with va := va', ta := ta', vr := vr', tr := tr' }) (W := { W with data := W.data ++ [d], terms := W.terms ++ [t] }) (d := d) (v := v) a12.a hF.n5 hF.l6 hln hn0 hlt hb hk hv (by show W.made.length + 10 ≤ _; omega) (by simp only [go_sem, f0]) (by simp only [go_sem, f6]) (by simp only [go_sem]; rfl) (by simp only [go_sem]; rfl) fun fr' S' B' a he => ?_
 obtain ⟨e0, e1, e4, e5, e6, e7⟩ := he
 simp only [go_sem] at e0 e1 e4 e5 e6 e7
 exact hQ fr' S' B' (a12.trans a) ⟨e0, e1, e4, e5, e6, e7⟩
def WB.sureTo (W : WB) (l : List LE) (j : Nat) : WB :=
 { W with data := W.data ++ ((l.take j).drop W.data.length).map LE.d, terms := W.terms ++ ((l.take j).drop W.data.length).map LE.t, made := W.made ++ List.replicate ((l.take j).drop W.data.length).length (topL W.least) }
theorem sureTo_zero (W : WB) (l : List LE) : W.sureTo l 0 = W := by unfold WB.sureTo; simp
theorem sureTo_old {W : WB} {l : List LE} {j : Nat} (h : j + 1 ≤ W.data.length) : W.sureTo l (j + 1) = W.sureTo l j := by
 have e : ∀ k, k ≤ W.data.length → (l.take k).drop W.data.length = [] := fun k hk => List.drop_of_length_le (by rw [List.length_take]; omega)
 unfold WB.sureTo
 rw [e (j + 1) h, e j (by omega)]
theorem sureTo_new {W : WB} {l : List LE} {j : Nat} {x : LE} (h : W.data.length ≤ j) (hx : l[j]? = some x) : W.sureTo l (j + 1) = { W.sureTo l j with data := (W.sureTo l j).data ++ [x.d], terms := (W.sureTo l j).terms ++ [x.t], made := (W.sureTo l j).made ++ [topL W.least] } := by
 have hj := (List.getElem?_eq_some_iff.1 hx).1
 have e : (l.take (j + 1)).drop W.data.length = (l.take j).drop W.data.length ++ [x] := by
  rw [take_snoc hx, List.drop_append_of_le_length (by rw [List.length_take]; omega)]
 unfold WB.sureTo
 rw [e]
 simp only [List.map_append, List.map_cons, List.map_nil, List.length_append, List.length_cons, List.length_nil, List.append_assoc, Nat.zero_add, List.replicate_succ']
theorem sureTo_len {W : WB} {l : List LE} {j : Nat} (h2 : W.terms.length = W.data.length) (h3 : W.made.length = W.data.length) (hj : j ≤ l.length) : (W.sureTo l j).data.length = max W.data.length j ∧ (W.sureTo l j).terms.length = max W.data.length j ∧ (W.sureTo l j).made.length = max W.data.length j := by
 unfold WB.sureTo
 simp only [List.length_append, List.length_map, List.length_drop, List.length_take, List.length_replicate]
 omega
theorem sureTo_at {W : WB} {l : List LE} {j : Nat} {x : LE} (h2 : W.terms.length = W.data.length) (hx : l[j]? = some x) (hold : ∀ d t, W.data[j]? = some d → W.terms[j]? = some t → x = ⟨t, d⟩) : (W.sureTo l (j + 1)).data[j]? = some x.d ∧ (W.sureTo l (j + 1)).terms[j]? = some x.t := by
 have hj := (List.getElem?_eq_some_iff.1 hx).1
 unfold WB.sureTo
 simp only
 by_cases hlt : j < W.data.length
 ·have e1 : W.data[j]? = some (W.data[j]) := List.getElem?_eq_getElem hlt
  have e2 : W.terms[j]? = some (W.terms[j]) := List.getElem?_eq_getElem (by omega)
  have := hold _ _ e1 e2
  rw [List.getElem?_append_left hlt, List.getElem?_append_left (by omega), e1, e2, this]
  exact ⟨rfl, rfl⟩
 ·have e : ((l.take (j + 1)).drop W.data.length)[j - W.data.length]? = some x := by
   rw [List.getElem?_drop, show W.data.length + (j - W.data.length) = j by omega, List.getElem?_take, if_pos (by omega)]; exact hx
  rw [List.getElem?_append_right (by omega), List.getElem?_append_right (by omega), h2, List.getElem?_map, List.getElem?_map, e]
  exact ⟨rfl, rfl⟩
theorem look_sure {w0 : World} {S : St} {Qc : CPost} {B : WP} {W : WB} {L : RL} {X : RN} {i : Nat} {fr : Fr} (hH : Hold S [Res.book B W, Res.raft L X]) (hF : W.Fine) (hln : W.least.length = W.n) (hn0 : 1 ≤ W.n) (hlt : ∀ x ∈ W.least, x < 9223372036854775808) (hb : W.bad = false)
  (hcl : X.commit ≤ X.log.length) (hc10 : X.commit + 10 ≤ 1000000) (hold : ∀ (j : Nat) (x : LE) (d : List UInt8) (t : Nat), j < X.commit → X.log[j]? = some x → W.data[j]? = some d → W.terms[j]? = some t → x = ⟨t, d⟩) (hnew : ∀ (j : Nat) (x : LE), j < X.commit → W.data.length ≤ j → X.log[j]? = some x → W.known x.d = true)
  (f0 : fr 0 = .ptr (some (B.w, 0))) (f1 : fr 1 = .int .i64 (i : Nat)) (f4 : fr 4 = .ptr (some (L.r, 0))) (f5 : fr 5 = .int .i64 1)
  (hQ : ∀ fr' S' B', BAft S B W S' B' (W.sureTo X.log X.commit) → fr' 0 = .ptr (some (B.w, 0)) → fr' 1 = .int .i64 (i : Nat) → fr' 4 = .ptr (some (L.r, 0)) → Qc .normal fr' S') :
  wCode (RSim Try.prog w0) (.blk 0 (.loop l_l15_world_look_1)) fr S Qc := by
 have l2 := hF.l2
 have l3 := hF.l3
 have l5 := hF.l5
 simp only [go_sem]
 refine loop_rule RSim.le (k := X.commit) (fun q fr Sa => ∃ (j : Nat) (Ba : WP), q = X.commit - j ∧ j ≤ X.commit ∧ fr 0 = .ptr (some (B.w, 0)) ∧ fr 1 = .int .i64 (i : Nat) ∧ fr 4 = .ptr (some (L.r, 0)) ∧ fr 5 = .int .i64 ((j + 1 : Nat) : Int) ∧ BAft S B W Sa Ba (W.sureTo X.log j)) ?_
  ⟨0, B, rfl, Nat.zero_le _, f0, f1, f4, f5, by rw [sureTo_zero]; exact BAft.refl hH.1⟩
 rintro q fr Sa ⟨j, Ba, hq, hj, f0, f1, f4, f5, aA⟩
 have hXA : RaftAt Sa L X := (hH.step aA.1).2.2.1
 have hwA : Ba.w = B.w := aA.2
 obtain ⟨g1, g2, g3⟩ := sureTo_len (l := X.log) l2 l3 (show j ≤ X.log.length by omega)
 have q1 : decide (((j + 1 : Nat) : Int) ≤ (X.commit : Int)) = decide (j + 1 ≤ X.commit) := decide_eq_decide.mpr (by omega)
 simp only [l_l15_world_look_1, go_sem, f4, f5]
 refine wi_call ?_
 simp only [go_sem]
 refine rsure_runs hXA ?_
 simp only [go_sem, q1]
 refine wc_ite (b := decide (j + 1 ≤ X.commit)) (by simp only [go_sem]) (fun hc => ?_) (fun hc => ?_)
 ·have hjc : j < X.commit := by have := of_decide_eq_true hc; omega
  obtain ⟨x, hx⟩ : ∃ x, X.log[j]? = some x := ⟨_, List.getElem?_eq_getElem (by omega)⟩
  have w1 : IntKind.i64.wrap (((j + 1 : Nat) : Int) + 1) = ((j + 1 + 1 : Nat) : Int) := by rw [w64 (by omega) (by omega)]; omega
  have w2 : IntKind.i64.wrap (((j + 1 : Nat) : Int) - 1) = ((j : Nat) : Int) := by rw [w64 (by omega) (by omega)]; omega
  obtain ⟨at1, at2⟩ := sureTo_at l2 hx fun d t hd ht => hold j x d t hjc hx hd ht
  -- each is as it was
  have same : ∀ (fr2 : Fr) (S2 : St) (B2 : WP) (Qc2 : CPost) (v : V), IsBytes v x.d → BAft S B W S2 B2 (W.sureTo X.log (j + 1)) → fr2 0 = .ptr (some (B.w, 0)) → fr2 5 = .int .i64 ((j + 1 : Nat) : Int) → fr2 6 = v → fr2 7 = .int .u64 (x.t : Nat) →
    (∀ fr', (fr' 0 = fr2 0 ∧ fr' 1 = fr2 1 ∧ fr' 4 = fr2 4 ∧ fr' 5 = fr2 5) → Qc2 .normal fr' S2) → wCode (RSim Try.prog w0) r_l15_world_look_1 fr2 S2 Qc2 := by
   intro fr2 S2 B2 Qc2 v hv a2 e0 e5 e6 e7 hQ2
   have hw2 : B2.w = B.w := a2.2
   have ex := a2.a.ex
   obtain ⟨hD, _⟩ := a2.a.data
   obtain ⟨cd, hvd⟩ := hD.len
   obtain ⟨hT, _⟩ := a2.a.terms
   obtain ⟨ct, hvt⟩ := hT.len
   obtain ⟨c1, d1, hd1, htn1, hjt1⟩ := one_at hD hvd at1
   obtain ⟨c2, d2, hd2, htn2, hjt2⟩ := one_at hT hvt at2
   injection d1 with d1 _
   injection d2 with d2 _
   subst d1
   subst d2
   have cv : ∀ S, V.conv S .bytesStr v = some (.str (mkS x.d)) := fun S => hv.convS S
   have q2 : decide (x.d = x.d) = true := decide_eq_true rfl
   have q3 : ((x.t : Int) != (x.t : Int)) = false := by simp
   rw [hw2] at ex
   unfold WB.cells at ex
   rw [hvd, hvt] at ex
   simp only [r_l15_world_look_1, go_sem, e0, e5, e6, e7, ex, w2, hjt1, htn1, hd1, cv, q2, hjt2, htn2, hd2, q3, mkS_beq]
   refine wc_ite (b := false) (by simp only [go_sem] <;> rfl) (fun h => by cases h) (fun _ => ?_)
   simp only [go_sem]
   exact hQ2 _ ⟨by simp only [go_sem, e0], by simp only [go_sem], by simp only [go_sem], by simp only [go_sem, e5]⟩
  simp only [go_sem, r_l15_world_look_3, f4, f5]
  refine wi_call ?_
  simp only [go_sem]
  refine entry_runs (i := j + 1) (x := x) hXA (by omega) (by simpa using hx) fun Sb vb hvb kb => ?_
  have aB := aA.trans (BAft.new aA.a kb)
  have exB := aB.a.ex
  obtain ⟨hDB, _⟩ := aB.a.data
  obtain ⟨cdB, hvdB⟩ := hDB.len
  have q4 : decide (((j + 1 : Nat) : Int) > ((W.sureTo X.log j).data.length : Int)) = decide (W.data.length ≤ j) := decide_eq_decide.mpr (by rw [g1]; omega)
  rw [hwA] at exB
  unfold WB.cells at exB
  rw [hvdB] at exB
  simp only [go_sem]
  refine wc_ite (b := false) (by simp only [go_sem] <;> rfl) (fun h => by cases h) (fun _ => ?_)
  simp only [go_sem, r_l15_world_look_2, f0, f5, exB, q4]
  refine wc_ite (b := decide (W.data.length ≤ j)) (by simp only [go_sem]) (fun hc => ?_) (fun hc => ?_)
  ·have hle := of_decide_eq_true hc
   have hsn := sureTo_new hle hx
   refine look_new (B := Ba) (W := W.sureTo X.log j) (t := x.t) (d := x.d) (v := vb) aB.a ⟨hF.l1, by rw [g2, g1], by rw [g3, g1], hF.l4, by rw [g1]; omega, hF.l6, hF.l7, hF.n5⟩ hln hn0 hlt hb (hnew j x hjc hle hx) hvb (by simp only [go_sem, f0, hwA]) (by simp only [go_sem]) (by simp only [go_sem]) fun fr' S' B' a he => ?_
   obtain ⟨e0, e1, e4, e5, e6, e7⟩ := he
   simp only [go_sem, f0, f1, f4, f5] at e0 e1 e4 e5 e6 e7
   have a' : BAft S B W S' B' (W.sureTo X.log (j + 1)) := by rw [hsn]; exact aB.trans a
   simp only [go_sem]
   refine same _ _ _ _ vb hvb a' (by simp only [go_sem, e0]) (by simp only [go_sem, e5]) (by simp only [go_sem, e6]) (by simp only [go_sem, e7]) fun fr3 hfr => ?_
   obtain ⟨k0, k1, k4, k5⟩ := hfr
   simp only [go_sem, e0, e1, e4, e5] at k0 k1 k4 k5
   simp only [go_sem, k5, w1]
   exact ⟨X.commit - (j + 1), by omega, j + 1, B', rfl, by omega, k0, k1, k4, rfl, a'⟩
  ·have hle := of_decide_eq_false hc
   have hso := sureTo_old (W := W) (l := X.log) (j := j) (by omega)
   have a' := aB
   rw [← hso] at a'
   refine same _ _ _ _ vb hvb a' (by simp only [go_sem, f0]) (by simp only [go_sem, f5]) (by simp only [go_sem]) (by simp only [go_sem]) fun fr3 hfr => ?_
   obtain ⟨k0, k1, k4, k5⟩ := hfr
   simp only [go_sem, f0, f1, f4, f5] at k0 k1 k4 k5
   simp only [go_sem, k5, w1]
   exact ⟨X.commit - (j + 1), by omega, j + 1, Ba, rfl, by omega, k0, k1, k4, rfl, a'⟩
 ·have hje : j = X.commit := by have := of_decide_eq_false hc; omega
  subst hje
  simp only [go_sem]
  exact hQ _ Sa Ba aA (by simp only [go_sem, f0]) (by simp only [go_sem, f1]) (by simp only [go_sem, f4])
theorem wi_appendRs {α : Type} {R : List V → α → Prop} {cl : Cl} {fr : Fr} {S : St} {K : Fr → St → Prop} {Kp : V → St → Prop} {dst : Option Nat} {sz bytes : Nat} {s x : Arg} {r : List Item} {v w : V} {L M : List α} {t tm : Tok}
  (hs : s.ev fr = v) (hv : IsSlice R sz v L t) (hx : x.ev fr = w) (hw : IsSlice R sz w M tm) (hr : (L.length + M.length) * bytes ≤ 140737488355328) (ht : TokOk S t)
  (hK : ∀ t' S' v', IsSlice R sz v' (L ++ M) t' → Keeps (tokOwn t) S S' → TokOk S' t' → (∀ j, t' = .at j → S.n ≤ j) → wItems cl r (fr.put dst v') S' K Kp) :
  wItems cl (.run ⟨dst, none, .e (.append sz bytes false s x)⟩ :: r) fr S K Kp := by
 obtain ⟨cs, rfl⟩ := hv.len
 obtain ⟨ms, rfl⟩ := hw.len
 obtain ⟨C, e, hn, hsz, hl, hR⟩ := hv.ex
 obtain ⟨C', e', hn', hsz', hl', hR'⟩ := hw.ex
 injection e with e1 _
 injection e' with e1' _
 have one : ∀ C : List (List V), (∀ c ∈ C, c.length = sz) → C.flatten.length = C.length * sz := by
  intro C
  induction C with
  | nil => intro _; simp
  | cons c C ih => intro h; rw [List.flatten_cons, List.length_append, h c (by simp), ih fun c hc => h c (by simp [hc]), List.length_cons, Nat.succ_mul]; omega
 have lm : ms.length = M.length * sz := by rw [e1', one C' hsz', hl']
 have nilOf : ∀ {C : List (List V)} {l : List α} {cs : List V}, l = [] → C.length = l.length → cs = C.flatten → cs = [] ∧ l.length = 0 := fun h1 h2 h3 => by
  subst h1
  have := List.eq_nil_of_length_eq_zero h2
  subst this
  exact ⟨h3, rfl⟩
 have hel : (x.ev fr).elems S sz = some (M.length, ms) := by
  rw [hx]
  by_cases h0 : tm = .nil
  ·obtain ⟨h1, h2⟩ := nilOf (hn' h0) hl' e1'
   subst h0
   rw [h1, h2]; rfl
  ·simp only [V.elems, h0, if_false]
   simp
 refine wi_append (n := L.length) (cs := cs) (t := t) (m := M.length) (xs := ms) hs hel lm (by simp only [roomOk, decide_eq_true_eq]; exact hr) ht (fun e => nilOf (hn e) hl e1) fun t' S' k' ht' hn'' hz => ?_
 refine hK t' S' _ ⟨C ++ C', by rw [e1, e1', List.flatten_append, List.length_append], fun e => ?_, fun c hc => ?_, by rw [List.length_append, List.length_append, hl, hl'], fun j c x hc hx => ?_⟩ k' ht' hn''
 ·obtain ⟨h1, h2⟩ := hz e
  rw [hn h2, List.eq_nil_of_length_eq_zero h1]; rfl
 ·rcases List.mem_append.1 hc with hc | hc
  ·exact hsz c hc
  ·exact hsz' c hc
 ·rcases Nat.lt_or_ge j C.length with h | h
  ·rw [List.getElem?_append_left h] at hc
   rw [List.getElem?_append_left (by omega)] at hx
   exact hR j c x hc hx
  ·rw [List.getElem?_append_right h] at hc
   rw [List.getElem?_append_right (by omega), ← hl] at hx
   exact hR' _ c x hc hx
theorem BookAt.setLeast {S : St} {B : WP} {W : WB} {l' : List Nat} (h : BookAt S B W) (h0 : W.least.length ≠ 0) (hl : l'.length = W.least.length) : BAft S B W (S.set B.oe (.cells (l'.map u64V))) B { W with least := l' } :=
 BAft.of (Aft.part h.h (List.perm_middle (l₁ := [_, _, _, _, _, _, _, _, _])) (rowc_aft h.least (by simp) (by simp [hl]) h0).2.2 (List.perm_middle (l₁ := [_, _, _, _, _, _, _, _, _]))) rfl
theorem BookAt.setNodes {S : St} {B : WP} {W : WB} {l' : List (Option Nat)} (h : BookAt S B W) (h0 : W.nodes.length ≠ 0) (hl : l'.length = W.nodes.length) : BAft S B W (S.set B.on (.cells (l'.map optV))) B { W with nodes := l' } :=
 BAft.of (Aft.part h.h (List.perm_middle (l₁ := [_, _])) (rowc_aft h.nodes (by simp) (by simp [hl]) h0).2.2 (List.perm_middle (l₁ := [_, _]))) rfl
theorem splice_map {α : Type} {f : α → V} {l : List α} {j : Nat} {x : α} (hj : j < l.length) : splice (l.map f) (j * 1) [f x] = (l.set j x).map f := by
 rw [splice, Nat.mul_one, List.map_set, List.set_eq_take_append_cons_drop, if_pos (by rw [List.length_map]; exact hj)]
 simp
def WB.seen (W : WB) (i : Nat) (X : RN) : WB := ({ W with net := W.net ++ X.out, least := W.least.set i X.term } : WB).sureTo X.log X.commit
def WB.lookOn (W : WB) (i : Nat) (X : RN) : WB := if X.leads then (W.seen i X).ledBy i X.term else W.seen i X
end Go.VM
namespace Go.VM
open Go Go.RowKit Go.Proofs
theorem lookOn_runs {w0 : World} {S : St} {Q : AEnd → St → Prop} {B : WP} {W : WB} {L : RL} {X : RN} {i : Nat} (hH : Hold S [Res.book B W, Res.raft L X]) (hF : W.Fine) (hi : i < W.n) (hnn : W.nodes.length = W.n) (hno : W.nodes[i]? = some (some L.r)) (hdi : W.disks[i]? = some L.i)
  (hln : W.least.length = W.n) (hlt : ∀ x ∈ W.least, x < 9223372036854775808) (hb : W.bad = false) (hoff : L.D.off = false) (hle : ∀ y, W.least[i]? = some y → y ≤ X.term) (hcl : X.commit ≤ X.log.length) (hc10 : X.commit + 10 ≤ 1000000) (hout : W.net.length + X.out.length + 10 ≤ 1000000)
  (hold : ∀ (j : Nat) (x : LE) (d : List UInt8) (t : Nat), j < X.commit → X.log[j]? = some x → W.data[j]? = some d → W.terms[j]? = some t → x = ⟨t, d⟩) (hnew : ∀ (j : Nat) (x : LE), j < X.commit → W.data.length ≤ j → X.log[j]? = some x → W.known x.d = true)
  (h1 : X.leads = true → ∀ k : Nat, W.ins[k]? = some X.term → W.leads[k]? = some i)
  (h2 : X.leads = true → ∀ (k x t : Nat) (d : List UInt8), (W.seen i X).made[k]? = some x → x < X.term → (W.seen i X).terms[k]? = some t → (W.seen i X).data[k]? = some d → X.log[k]? = some (⟨t, d⟩ : LE))
  (hQ : ∀ S' B' L', Aft S (Res.all [Res.book B W, Res.raft L X]) S' (Res.all [Res.book B' (W.lookOn i X), Res.raft L' { X with out := [] }]) → B'.w = B.w → L'.r = L.r → L'.i = L.i → Q (.ret (.tup [])) S') :
  RSim Try.prog w0 n_l15_world_look [.ptr (some (B.w, 0)), .int .i64 (i : Nat)] S Q := by
 have hB : BookAt S B W := hH.1
 have hX : RaftAt S L X := hH.2.2.1
 have hXt := hX.ok.term
 have ex := hB.ex
 have exB := ex
 have hn5 := hF.n5
 obtain ⟨hvn, hcn, _, hjn, hhn⟩ := rowf_at hB.nodes hno
 have hhn' : ((W.nodes.map optV).drop (i * 1)).head? = some (.ptr (some (L.r, 0))) := hhn
 obtain ⟨hD, _⟩ := hB.disks
 obtain ⟨cd, hvd⟩ := hD.len
 obtain ⟨c1, e1, hd1, htn1, hjt1⟩ := one_at hD hvd hdi
 injection e1 with e1 _
 subst e1
 have p0 : (!false) = true := rfl
 have ex1 := ex
 unfold WB.cells at ex1
 rw [hvn, hvd] at ex1
 refine RSim.run mixed k_l15_world_look ?_ (by simp)
 simp only [b_l15_world_look, go_sem, ex1, hjn, hcn, hhn']
 refine wc_ite (b := false) (by simp only [go_sem] <;> rfl) (fun h => by cases h) (fun _ => ?_)
 simp only [go_sem, r_l15_world_look_6, ex1, hjt1, htn1, hd1]
 refine wi_call ?_
 simp only [go_sem]
 refine on_runs hX.w.d ?_
 rw [hoff]
 simp only [go_sem]
 refine wc_ite (b := false) (by simp only [go_sem] <;> rfl) (fun h => by cases h) (fun _ => ?_)
 simp only [go_sem, r_l15_world_look_5]
 unfold WB.cells at ex
 simp only [go_sem, ex]
 refine wi_call ?_
 simp only [go_sem]
 refine out_runs hX fun S1 L1 v1 t1 a1 hO => ?_
 have A1 := Aft.part hH (List.Perm.swap _ _ _) a1.1 (List.Perm.swap _ _ _)
 have hB1 : BookAt S1 B W := A1.p.1
 have ex2 := hB1.ex
 obtain ⟨hN, htn⟩ := hB1.net
 unfold WB.cells at ex2
 simp only [go_sem, ex2]
 refine wi_appendRs (v := B.vt) (w := v1) (L := W.net) (M := X.out) (by simp only [go_sem]) hN (by simp only [go_sem]) hO (by omega) htn fun tt' S2 vt' hE2 k2 ht2 hn2 => ?_
 have exk := hB1.cellsTok (x := .list PkR 3 B.vt W.net B.tt) (by simp [WB.rest]) k2 (fun j hj => hj)
 have a2 := hB1.addNet hE2 k2 ht2 hn2 rfl
 have hone := hE2.one
 have hclv := cells_one hone
 have A2 := A1.trans (Aft.part A1.p (List.Perm.refl _) a2.1 (List.Perm.refl _))
 have hB3 : BookAt (S2.set B.w (.cells (WB.cells { W with net := W.net ++ X.out } { B with vt := vt', tt := tt' }))) { B with vt := vt', tt := tt' } { W with net := W.net ++ X.out } := A2.p.1
 have hr1 : L1.r = L.r := a1.2.1
 obtain ⟨y, hy⟩ : ∃ y, W.least[i]? = some y := ⟨_, List.getElem?_eq_getElem (by omega)⟩
 have hyt := hle y hy
 obtain ⟨hve, hce, _, hje, hhe⟩ := rowf_at hB3.least hy
 have hhe' : ((W.least.map u64V).drop (i * 1)).head? = some (.int .u64 (y : Nat)) := hhe
 have hve' : B.ve = .msl B.oe 0 W.least.length 1 := hve
 have hne : ¬ B.oe = B.w := fun e => hB3.h.2.1 (.row B.ve (W.least.map u64V) B.oe) (by simp [WB.rest]) B.w rfl ⟨by rw [List.length_map]; omega, e.symm⟩
 have hce' : S2.cells B.oe = some (W.least.map u64V) := by
  have := hce
  rw [cells_setc, if_neg hne] at this
  exact this
 have hje' : (i < W.least.length) = True := hje
 unfold WB.cells at exk
 rw [hve'] at exk
 simp only [go_sem, exk, hone, hclv, hne, hce', hje', hhe']
 have hst : (S2.set B.w (.cells [.int .i64 (W.n : Nat), B.vd, B.vn, vt', B.vp, B.va, B.vr, B.vl, B.vi, .msl B.oe 0 W.least.length 1, B.vm, .bool W.bad])) = S2.set B.w (.cells (WB.cells { W with net := W.net ++ X.out } { B with vt := vt', tt := tt' })) := by
  unfold WB.cells; simp only [hve']
 rw [hst]
 have ex3 := hB3.ex
 generalize S2.set B.w (.cells (WB.cells { W with net := W.net ++ X.out } { B with vt := vt', tt := tt' })) = S3 at *
 have hX3 : RaftAt S3 L1 { X with out := [] } := A2.p.2.2.1
 have hce' : S3.cells B.oe = some (W.least.map u64V) := hce
 unfold WB.cells at ex3
 simp only [hve'] at ex3
 have q1 : decide ((X.term : Int) < (y : Int)) = false := decide_eq_false (by omega)
 have q2 : decide ((X.commit : Int) > (X.log.length : Int)) = false := decide_eq_false (by omega)
 refine wi_call ?_
 simp only [go_sem]
 rw [← hr1]
 refine term_runs hX3 ?_
 simp only [go_sem, ex3, hje', hce', hhe', q1]
 refine wi_call ?_
 simp only [go_sem]
 refine rsure_runs hX3 ?_
 simp only [go_sem]
 refine wi_call ?_
 simp only [go_sem]
 refine len_runs hX3 ?_
 simp only [go_sem, q2]
 refine wc_ite (b := false) (by simp only [go_sem] <;> rfl) (fun h => by cases h) (fun _ => ?_)
 simp only [go_sem, r_l15_world_look_4, ex3]
 refine wi_call ?_
 simp only [go_sem]
 refine term_runs hX3 ?_
 have hfit : (i * 1 + 1 ≤ (W.least.map u64V).length) = True := eq_true (by rw [List.length_map]; omega)
 have hsp := splice_map (f := u64V) (l := W.least) (j := i) (x := X.term) (by omega)
 unfold splice at hsp
 simp only [List.length_cons, List.length_nil, Nat.zero_add] at hsp
 unfold u64V at hsp hfit hce'
 have a3 := hB3.setLeast (l' := W.least.set i X.term) (by show W.least.length ≠ 0; omega) (by show _ = W.least.length; rw [List.length_set])
 unfold u64V at a3
 simp only [go_sem, ex3, hje', hce', hfit, hsp]
 generalize S3.set B.oe (.cells _) = S4 at *
 have A3 := A2.trans (Aft.part A2.p (List.Perm.refl _) a3.1 (List.Perm.refl _))
 have hlt' : ∀ x ∈ W.least.set i X.term, x < 9223372036854775808 := fun x hx => by
  rcases mem_set' hx with rfl | hx
  ·exact hXt
  ·exact hlt x hx
 refine look_sure (i := i) (L := L1) (X := { X with out := [] }) (W := { W with net := W.net ++ X.out, least := W.least.set i X.term }) A3.p ⟨hF.l1, hF.l2, hF.l3, hF.l4, hF.l5, hF.l6, by show (W.net ++ X.out).length + 10 ≤ _; rw [List.length_append]; omega, hF.n5⟩ (by show (W.least.set i X.term).length = W.n; rw [List.length_set]; exact hln) (show 1 ≤ W.n by omega) hlt' hb hcl hc10 hold hnew
  (by simp only [go_sem]) (by simp only [go_sem]) (by simp only [go_sem, hr1]) (by simp only [go_sem]) fun fr' S5 B5 a5 g0 g1 g4 => ?_
 have A5 := A3.trans (Aft.part A3.p (List.Perm.refl _) a5.1 (List.Perm.refl _))
 have hX5 : RaftAt S5 L1 { X with out := [] } := A5.p.2.2.1
 have hB5w : B5.w = B.w := a5.2
 have hseen : ({ W with net := W.net ++ X.out, least := W.least.set i X.term } : WB).sureTo ({ X with out := [] } : RN).log ({ X with out := [] } : RN).commit = W.seen i X := rfl
 rw [hseen] at A5 a5
 have hXl : ({ X with out := [] } : RN).leads = X.leads := rfl
 simp only [go_sem, g4]
 refine wi_call ?_
 simp only [go_sem]
 refine leads_runs hX5 ?_
 rw [hXl]
 obtain ⟨s1, s2, s3⟩ := sureTo_len (W := { W with net := W.net ++ X.out, least := W.least.set i X.term }) (l := X.log) (j := X.commit) hF.l2 hF.l3 hcl
 simp only [go_sem]
 refine wc_ite (b := X.leads) (by simp only [go_sem]) (fun hc => ?_) (fun hc => ?_)
 ·simp only [go_sem, g0, g1, g4]
  refine wi_call ?_
  simp only [go_sem]
  rw [← hB5w]
  refine led_runs (L := L1) (X := { X with out := [] }) (W := W.seen i X) A5.p ⟨hF.l1, s2.trans s1.symm, s3.trans s1.symm, hF.l4, (by have := hF.l5; have e : (W.seen i X).data.length = max W.data.length X.commit := s1; omega), hF.l6, (by show (W.net ++ X.out).length + 10 ≤ _; rw [List.length_append]; omega), hF.n5⟩ (by omega) (h1 hc) (h2 hc) fun S6 B6 a6 => ?_
  simp only [go_sem]
  have A6 := A5.trans (Aft.part A5.p (List.Perm.refl _) a6.1 (List.Perm.refl _))
  have hlook : W.lookOn i X = (W.seen i X).ledBy i X.term := if_pos hc
  refine hQ S6 B6 L1 ?_ (a6.2.trans hB5w) hr1 a1.2.2
  rw [hlook]
  exact A6
 ·simp only [go_sem]
  have hlook : W.lookOn i X = W.seen i X := if_neg (by rw [hc]; simp)
  refine hQ S5 B5 L1 ?_ hB5w hr1 a1.2.2
  rw [hlook]
  exact A5
theorem lookOff_runs {w0 : World} {S : St} {Q : AEnd → St → Prop} {B : WP} {W : WB} {L : RL} {X : RN} {i : Nat} (hH : Hold S [Res.book B W, Res.raft L X]) (hi : i < W.n) (hnn : W.nodes.length = W.n) (hno : W.nodes[i]? = some (some L.r)) (hdi : W.disks[i]? = some L.i) (hoff : L.D.off = true)
  (hQ : ∀ S', BAft S B W S' B { W with nodes := W.nodes.set i none } → Q (.ret (.tup [])) S') :
  RSim Try.prog w0 n_l15_world_look [.ptr (some (B.w, 0)), .int .i64 (i : Nat)] S Q := by
 have hB : BookAt S B W := hH.1
 have hX : RaftAt S L X := hH.2.2.1
 have ex := hB.ex
 obtain ⟨hvn, hcn, _, hjn, hhn⟩ := rowf_at hB.nodes hno
 have hhn' : ((W.nodes.map optV).drop (i * 1)).head? = some (.ptr (some (L.r, 0))) := hhn
 obtain ⟨hD, _⟩ := hB.disks
 obtain ⟨cd, hvd⟩ := hD.len
 obtain ⟨c1, e1, hd1, htn1, hjt1⟩ := one_at hD hvd hdi
 injection e1 with e1 _
 subst e1
 unfold WB.cells at ex
 rw [hvn, hvd] at ex
 have hfit : (i * 1 + 1 ≤ (W.nodes.map optV).length) = True := eq_true (by rw [List.length_map]; omega)
 have hsp := splice_map (f := optV) (l := W.nodes) (j := i) (x := none) (by omega)
 unfold splice at hsp
 simp only [List.length_cons, List.length_nil, Nat.zero_add] at hsp
 have hsp' : (W.nodes.map optV).take (i * 1) ++ [V.ptr none] ++ (W.nodes.map optV).drop (i * 1 + 1) = (W.nodes.set i none).map optV := hsp
 have a := hB.setNodes (l' := W.nodes.set i none) (by omega) (by simp)
 refine RSim.run mixed k_l15_world_look ?_ (by simp)
 simp only [b_l15_world_look, go_sem, ex, hjn, hcn, hhn']
 refine wc_ite (b := false) (by simp only [go_sem] <;> rfl) (fun h => by cases h) (fun _ => ?_)
 simp only [go_sem, r_l15_world_look_6, ex, hjt1, htn1, hd1]
 refine wi_call ?_
 simp only [go_sem]
 refine on_runs hX.w.d ?_
 rw [hoff]
 simp only [go_sem]
 refine wc_ite (b := true) (by simp only [go_sem] <;> rfl) (fun _ => ?_) (fun h => by cases h)
 simp only [go_sem, ex, hjn, hcn, hfit, hsp']
 exact hQ _ a
theorem lookNil_runs {w0 : World} {S : St} {Q : AEnd → St → Prop} {B : WP} {W : WB} {i : Nat} (hB : BookAt S B W) (hno : W.nodes[i]? = some none) (hQ : Q (.ret (.tup [])) S) :
  RSim Try.prog w0 n_l15_world_look [.ptr (some (B.w, 0)), .int .i64 (i : Nat)] S Q := by
 have ex := hB.ex
 obtain ⟨hvn, hcn, _, hjn, hhn⟩ := rowf_at hB.nodes hno
 have hhn' : ((W.nodes.map optV).drop (i * 1)).head? = some (.ptr none) := hhn
 unfold WB.cells at ex
 rw [hvn] at ex
 refine RSim.run mixed k_l15_world_look ?_ (by simp)
 simp only [b_l15_world_look, go_sem, ex, hjn, hcn, hhn']
 refine wc_ite (b := true) (by simp only [go_sem] <;> rfl) (fun _ => ?_) (fun h => by cases h)
 simp only [go_sem]
 exact hQ
end Go.VM
namespace Go.VM
open Go Go.RowKit Go.Proofs
theorem BookAt.setNet {S S1 : St} {B : WP} {W : WB} {v' : V} {t' : Tok} {l' : List Pk} {cs : List V} (h : BookAt S B W) (hE : IsSlice PkR 3 v' l' t') (k : Keeps (fun _ => False) S S1) (ht : TokOk S1 t') (hn : ∀ j, t' = .at j → S.n ≤ j)
  (hcs : cs = WB.cells { W with net := l' } { B with vt := v', tt := t' }) : BAft S B W (S1.set B.w (.cells cs)) { B with vt := v', tt := t' } { W with net := l' } := by
 subst hcs
 have a1 : Aft S (Res.list PkR 3 B.vt W.net B.tt) S1 (Res.list PkR 3 v' l' t') := ⟨⟨hE, ht⟩, k.mono fun j _ hj => hj.elim, fun j hj => .inr (hn j hj)⟩
 exact BAft.of (Aft.two h.h (List.perm_middle (l₁ := [_, _])) a1 (List.perm_middle (l₁ := [_, _]))) rfl
theorem pk_at {v : V} {l : List Pk} {t : Tok} {ce : List V} (h : IsSlice PkR 3 v l t) (hv : v = .sl ce l.length 3 t) {j : Nat} {p : Pk} (hp : l[j]? = some p) : ∃ dv, IsBytes dv p.d ∧ takeC true 3 (ce.drop (j * 3)) = some (.agg [.int .i64 (p.f : Nat), .int .i64 (p.to : Nat), dv]) ∧ (t = .nil) = False ∧ (j < l.length) = True := by
 obtain ⟨cs, c, e1, hne, hjl, ht, hcl, hc2, dv, rfl, hdv⟩ := h.at_ hp
 rw [hv] at e1
 injection e1 with e1 _
 subst e1
 exact ⟨dv, hdv, ht, eq_false hne, eq_true hjl⟩
def rmv (l : List Pk) (k : Nat) : List Pk := l.take k ++ l.drop (k + 1)
theorem hand_runs {w0 : World} {S : St} {Q : AEnd → St → Prop} {B : WP} {W : WB} {k : Nat} {p : Pk} (hB : BookAt S B W) (hF : W.Fine) (hnn : W.nodes.length = W.n) (hp : W.net[k]? = some p) (hf : p.f < W.n) (ht : p.to < W.n) (hne : p.to ≠ p.f) {o : Option Nat} (hno : W.nodes[p.to]? = some o)
  (hnil : o = none → ∀ S' B', BAft S B W S' B' { W with net := rmv W.net k } → Q (.ret (.tup [])) S')
  (hup : ∀ r, o = some r → ∀ (S1 : St) (B1 : WP) (dv : V) (Q1 : AEnd → St → Prop), BAft S B W S1 B1 { W with net := rmv W.net k } → IsBytes dv p.d →
   (∀ S2 (e : Int), (e = 0 ∨ e = 10) → (∀ M cs, S.n ≤ M → M < S1.n → S1.cells M = some cs → S2.cells M = some cs) → (∀ Q2 : AEnd → St → Prop, (∀ S3, Q (.ret (.tup [])) S3 → Q2 (.ret (.tup [])) S3) → RSim Try.prog w0 n_l15_world_look [.ptr (some (B.w, 0)), .int .i64 (p.to : Nat)] S2 Q2) → Q1 (.ret (.int .i64 e)) S2) →
   RSim Try.prog w0 n_raft_Node_Step [.ptr (some (r, 0)), .int .i64 (p.f : Nat), dv] S1 Q1) :
  RSim Try.prog w0 n_l15_world_hand [.ptr (some (B.w, 0)), .int .i64 (k : Nat)] S Q := by
 have ex := hB.ex
 have l7 := hF.l7
 have hn5 := hF.n5
 obtain ⟨hN, htn⟩ := hB.net
 obtain ⟨cn, hvt⟩ := hN.len
 obtain ⟨dv, hdv, htk, htnil, hkt⟩ := pk_at hN hvt hp
 have hk : k < W.net.length := (List.getElem?_eq_some_iff.1 hp).1
 have hdo := hdv.one
 have hdc := cells_one hdo
 have hN' := hN
 rw [hvt] at hN'
 have h1 := hN'.part (Nat.zero_le k) (by omega : k ≤ W.net.length) (t' := .no) (by simp)
 have h2 := hN'.part (a := k + 1) (b := W.net.length) (by omega) (Nat.le_refl _) (t' := B.tt) (by simpa using htnil)
 have hke : (k = W.net.length) = False := eq_false (by omega)
 have hkl : (k ≤ W.net.length) = True := eq_true (by omega)
 have hk1 : (k + 1 ≤ W.net.length) = True := eq_true (by omega)
 have w1 : IntKind.i64.wrap ((k : Int) + 1) = ((k + 1 : Nat) : Int) := by rw [w64 (by omega) (by omega)]; omega
 have kB : Keeps (fun _ => False) S ((S.add (.cells [.int .i64 0, .int .i64 0, .sl [] 0 1 .nil])).set S.n (.cells [.int .i64 (p.f : Nat), .int .i64 (p.to : Nat), dv])) := ((Keeps.refl _ S).add _).set (.inr (Nat.le_refl _)) _
 have cB : ((S.add (.cells [.int .i64 0, .int .i64 0, .sl [] 0 1 .nil])).set S.n (.cells [.int .i64 (p.f : Nat), .int .i64 (p.to : Nat), dv])).cells S.n = some [.int .i64 (p.f : Nat), .int .i64 (p.to : Nat), dv] := by rw [cells_setc, if_pos rfl]
 have lB : S.n < ((S.add (.cells [.int .i64 0, .int .i64 0, .sl [] 0 1 .nil])).set S.n (.cells [.int .i64 (p.f : Nat), .int .i64 (p.to : Nat), dv])).n := by rw [St.set_n, St.add_n]; omega
 have exB := kB.cells ex hB.lt _root_.id
 have hwn : ¬ B.w = S.n := by have := hB.lt; omega
 unfold WB.cells at ex exB
 rw [hvt] at ex exB
 have hk0 : (0 ≤ k) = True := eq_true (Nat.zero_le k)
 refine RSim.run mixed k_l15_world_hand ?_ (by simp)
 simp only [b_l15_world_hand, go_sem, ex, hwn, hkt, htnil, htk, hdo, hdc, hkl, hke, hk0]
 generalize hSB : (S.add (.cells [.int .i64 0, .int .i64 0, .sl [] 0 1 .nil])).set S.n (.cells [.int .i64 (p.f : Nat), .int .i64 (p.to : Nat), dv]) = SB at *
 refine wi_appendRs (R := PkR) (v := .sl [] 0 3 .nil) (L := []) (tm := .no) (by simp only [go_sem]) (isSlice_nil PkR 3) (by simp only [go_sem]) h1 (by simp only [List.length_nil, List.length_take, List.length_drop]; omega) trivial fun t2 S2 v2 hE2 k2 ht2 hn2 => ?_
 have k2F : Keeps (fun _ => False) SB S2 := k2.mono fun j _ hj => (by cases hj)
 have ex2 := k2F.cells exB (kB.lt hB.lt) _root_.id
 have cB2 := k2F.cells cB lB _root_.id
 simp only [go_sem, ex2, w1, hk1, htnil]
 obtain ⟨c2, hv2⟩ := hE2.len
 subst hv2
 refine wi_appendRs (R := PkR) (L := [] ++ (W.net.drop 0).take (k - 0)) (by simp only [go_sem]) hE2 (by simp only [go_sem]) h2 (by simp only [List.length_nil, List.length_append, List.length_take, List.length_drop]; omega) ht2 fun t3 S3 v3 hE3 k3 ht3 hn3 => ?_
 have hl : ([] ++ (W.net.drop 0).take (k - 0)) ++ (W.net.drop (k + 1)).take (W.net.length - (k + 1)) = rmv W.net k := by
  rw [List.nil_append, List.drop_zero, Nat.sub_zero, List.take_of_length_le (l := W.net.drop (k + 1)) (by rw [List.length_drop]; omega)]; rfl
 rw [hl] at hE3
 have k3F : Keeps (fun _ => False) SB S3 := k2F.trans k3 fun j hj ho => by have := hn2 j ho; omega
 have hBB := hB.stay kB
 have a1 := (BAft.new hB kB).trans (hBB.setNet hE3 k3F ht3 (fun j hj => by have := hn3 j hj; have := k2F.n; omega) rfl)
 have ex3 := k3F.cells exB (kB.lt hB.lt) _root_.id
 have cB3 := k3F.cells cB lB _root_.id
 have lB3 := k3F.lt lB
 have hone := hE3.one
 have hclv := cells_one hone
 have hnw : ¬ S.n = B.w := fun e => hwn e.symm
 unfold WB.cells at a1
 have p1 : decide ((p.to : Int) < 0) = false := decide_eq_false (by omega)
 have p2 : decide ((p.to : Int) ≥ (W.n : Int)) = false := decide_eq_false (by omega)
 have p3 : decide ((p.f : Int) < 0) = false := decide_eq_false (by omega)
 have p4 : decide ((p.f : Int) ≥ (W.n : Int)) = false := decide_eq_false (by omega)
 have p5 : ((p.to : Int) == (p.f : Int)) = false := by rw [Bool.eq_false_iff, ne_eq, beq_iff_eq]; omega
 simp only [go_sem, ex3, hone, hclv, cB3, hnw, p1, p2, p3, p4, p5]
 refine wc_ite (b := false) (by simp only [go_sem] <;> rfl) (fun h => by cases h) (fun _ => ?_)
 generalize hS4 : S3.set B.w (.cells _) = S4 at *
 have hB4 : BookAt S4 _ _ := a1.a
 have cB4 : S4.cells S.n = some [.int .i64 (p.f : Nat), .int .i64 (p.to : Nat), dv] := by rw [← hS4, cells_setc, if_neg hnw]; exact cB3
 obtain ⟨hvn, hcn, _, hjn, hhn⟩ := rowf_at hB4.nodes hno
 have hvn' : B.vn = .msl B.on 0 W.nodes.length 1 := hvn
 have hcn' : S4.cells B.on = some (W.nodes.map optV) := hcn
 have hjn' : (p.to < W.nodes.length) = True := hjn
 have hhn' : ((W.nodes.map optV).drop (p.to * 1)).head? = some (.ptr (o.map fun r => (r, 0))) := hhn
 have ex4 := hB4.ex
 unfold WB.cells at ex4
 simp only [hvn'] at ex4
 cases o with
 | none =>
  have hhn2 : ((W.nodes.map optV).drop (p.to * 1)).head? = some (.ptr none) := hhn'
  simp only [go_sem, r_l15_world_hand_1, ex4, cB4, hjn', hcn', hhn2]
  refine wc_ite (b := true) (by simp only [go_sem] <;> rfl) (fun _ => ?_) (fun h => by cases h)
  simp only [go_sem]
  exact hnil rfl _ _ a1
 | some r =>
  have hhn2 : ((W.nodes.map optV).drop (p.to * 1)).head? = some (.ptr (some (r, 0))) := hhn'
  simp only [go_sem, r_l15_world_hand_1, ex4, cB4, hjn', hcn', hhn2]
  refine wc_ite (b := false) (by simp only [go_sem] <;> rfl) (fun h => by cases h) (fun _ => ?_)
  simp only [go_sem, r_l15_world_hand_0, cB4]
  refine wi_call ?_
  simp only [go_sem]
  refine hup r rfl _ _ _ _ a1 hdv fun S5 e he hkeep hlook => ?_
  have lB4 : S.n < S4.n := by rw [← hS4, St.set_n]; exact lB3
  have cB5 := hkeep S.n _ (Nat.le_refl _) lB4 cB4
  rcases he with rfl | rfl
  ·simp only [go_sem]
   refine wc_ite (b := false) (by simp only [go_sem] <;> rfl) (fun h => by cases h) (fun _ => ?_)
   simp only [go_sem, cB5]
   refine wi_call ?_
   simp only [go_sem]
   refine hlook _ fun S6 q => ?_
   simp only [go_sem]
   exact q
  ·simp only [go_sem]
   refine wc_ite (b := false) (by simp only [go_sem] <;> rfl) (fun h => by cases h) (fun _ => ?_)
   simp only [go_sem, cB5]
   refine wi_call ?_
   simp only [go_sem]
   refine hlook _ fun S6 q => ?_
   simp only [go_sem]
   exact q
end Go.VM
namespace Go.VM
open Go Go.RowKit Go.Proofs
structure AC where
 kind : Nat
 node : Nat
 num : Nat
 draw : Nat
 data : List UInt8
def AC.v (a : AC) (vd vk : V) : List V := [.int .u8 (a.kind : Nat), .int .u8 (a.node : Nat), .int .u16 (a.num : Nat), .int .u64 (a.draw : Nat), vd, vk]
theorem act_lose {w0 : World} {S : St} {Qc : CPost} {B : WP} {W : WB} {A : Nat} {a : AC} {vd vk : V} {fr : Fr} (hB : BookAt S B W) (hF : W.Fine) (hn : W.net ≠ []) (ha : a.num < 65536) (cA : S.cells A = some (a.v vd vk)) (f0 : fr 0 = .ptr (some (B.w, 0))) (f3 : fr 3 = .ptr (some (A, 0)))
  (hQ : ∀ fr' S' B', BAft S B W S' B' { W with net := rmv W.net (a.num % W.net.length) } → Qc .normal fr' S') : wCode (RSim Try.prog w0) i_l15_world_act_1 fr S Qc := by
 have ex := hB.ex
 have l7 := hF.l7
 obtain ⟨hN, htn⟩ := hB.net
 obtain ⟨cn, hvt⟩ := hN.len
 have hl0 : W.net.length ≠ 0 := fun e => hn (List.eq_nil_of_length_eq_zero e)
 have hkl0 : a.num % W.net.length < W.net.length := Nat.mod_lt _ (by omega)
 have hvt' := hvt
 have tm : (a.num : Int).tmod (W.net.length : Int) = ((a.num % W.net.length : Nat) : Int) := rfl
 generalize a.num % W.net.length = k at *
 obtain ⟨p, hp⟩ : ∃ p, W.net[k]? = some p := ⟨_, List.getElem?_eq_getElem hkl0⟩
 obtain ⟨dv, hdv, htk, htnil, hkt⟩ := pk_at hN hvt hp
 have hN' := hN
 rw [hvt] at hN'
 have h1 := hN'.part (Nat.zero_le k) (by omega : k ≤ W.net.length) (t' := .no) (by simp)
 have h2 := hN'.part (a := k + 1) (b := W.net.length) (by omega) (Nat.le_refl _) (t' := B.tt) (by simpa using htnil)
 have hke : (k = W.net.length) = False := eq_false (by omega)
 have hkl : (k ≤ W.net.length) = True := eq_true (by omega)
 have hk1 : (k + 1 ≤ W.net.length) = True := eq_true (by omega)
 have w1 : IntKind.i64.wrap ((k : Int) + 1) = ((k + 1 : Nat) : Int) := by rw [w64 (by omega) (by omega)]; omega
 have w0' : IntKind.i64.wrap ((k : Nat) : Int) = ((k : Nat) : Int) := by rw [w64 (by omega) (by omega)]
 have cv : ∀ S, V.conv S (.int .i64) (.int .u16 (a.num : Int)) = some (.int .i64 (a.num : Int)) := fun S => by simp only [V.conv]; rw [w64 (by omega) (by omega)]
 have hz : ((W.net.length : Int) = 0) = False := eq_false (by omega)
 have hk0 : (0 ≤ k) = True := eq_true (Nat.zero_le k)
 have exB := ex
 unfold WB.cells at ex
 rw [hvt] at ex
 unfold AC.v at cA
 simp only [i_l15_world_act_1, go_sem, f0, f3, cA, ex, cv, tm, hz, w0', hkl, hke, hk0, htnil]
 refine wi_appendRs (R := PkR) (v := .sl [] 0 3 .nil) (L := []) (tm := .no) (by simp only [go_sem]) (isSlice_nil PkR 3) (by simp only [go_sem]) h1 (by simp only [List.length_nil, List.length_take, List.length_drop]; omega) trivial fun t2 S2 v2 hE2 k2 ht2 hn2 => ?_
 have k2F : Keeps (fun _ => False) S S2 := k2.mono fun j _ hj => (by cases hj)
 have ex2 := k2F.cells ex hB.lt _root_.id
 simp only [go_sem, f0, ex2, w1, hk1, htnil]
 obtain ⟨c2, hv2⟩ := hE2.len
 subst hv2
 refine wi_appendRs (R := PkR) (L := [] ++ (W.net.drop 0).take (k - 0)) (by simp only [go_sem]) hE2 (by simp only [go_sem]) h2 (by simp only [List.length_nil, List.length_append, List.length_take, List.length_drop]; omega) ht2 fun t3 S3 v3 hE3 k3 ht3 hn3 => ?_
 have hl : ([] ++ (W.net.drop 0).take (k - 0)) ++ (W.net.drop (k + 1)).take (W.net.length - (k + 1)) = rmv W.net k := by
  rw [List.nil_append, List.drop_zero, Nat.sub_zero, List.take_of_length_le (l := W.net.drop (k + 1)) (by rw [List.length_drop]; omega)]; rfl
 rw [hl] at hE3
 have k3F : Keeps (fun _ => False) S S3 := k2F.trans k3 fun j hj ho => by have := hn2 j ho; omega
 have a1 := hB.setNet hE3 k3F ht3 (fun j hj => by have := hn3 j hj; have := k2F.n; omega) rfl
 have ex3 := k3F.cells ex hB.lt _root_.id
 have hone := hE3.one
 have hclv := cells_one hone
 unfold WB.cells at a1
 simp only [go_sem, f0, ex3, hone, hclv]
 exact hQ _ _ _ a1
theorem act_double {w0 : World} {S : St} {Qc : CPost} {B : WP} {W : WB} {A : Nat} {a : AC} {vd vk : V} {fr : Fr} {p : Pk} (hB : BookAt S B W) (hF : W.Fine) (hp : W.net[a.num % W.net.length]? = some p) (ha : a.num < 65536) (cA : S.cells A = some (a.v vd vk)) (f0 : fr 0 = .ptr (some (B.w, 0))) (f3 : fr 3 = .ptr (some (A, 0)))
  (hQ : ∀ fr' S' B', BAft S B W S' B' { W with net := W.net ++ [p] } → Qc .normal fr' S') : wCode (RSim Try.prog w0) i_l15_world_act_2 fr S Qc := by
 have ex := hB.ex
 have l7 := hF.l7
 obtain ⟨hN, htn⟩ := hB.net
 obtain ⟨cn, hvt⟩ := hN.len
 have hkl0 : a.num % W.net.length < W.net.length := (List.getElem?_eq_some_iff.1 hp).1
 have tm : (a.num : Int).tmod (W.net.length : Int) = ((a.num % W.net.length : Nat) : Int) := rfl
 generalize a.num % W.net.length = k at *
 obtain ⟨dv, hdv, htk, htnil, hkt⟩ := pk_at hN hvt hp
 have w0' : IntKind.i64.wrap ((k : Nat) : Int) = ((k : Nat) : Int) := by rw [w64 (by omega) (by omega)]
 have cv : ∀ S, V.conv S (.int .i64) (.int .u16 (a.num : Int)) = some (.int .i64 (a.num : Int)) := fun S => by simp only [V.conv]; rw [w64 (by omega) (by omega)]
 have hz : ((W.net.length : Int) = 0) = False := eq_false (by omega)
 have hdo := hdv.one
 have hdc := cells_one hdo
 unfold WB.cells at ex
 have ex1 := ex
 rw [hvt] at ex1
 unfold AC.v at cA
 simp only [i_l15_world_act_2, go_sem, f0, f3, cA, ex1, cv, tm, hz, w0', hkt, htnil, htk, hdo, hdc]
 refine wi_appendR (v := B.vt) (l := W.net) (y := p) (c := [.int .i64 (p.f : Nat), .int .i64 (p.to : Nat), dv]) (by simp only [go_sem]; exact hvt.symm) hN (by simp only [go_sem]; rfl) rfl ⟨dv, rfl, hdv⟩ (by omega) htn fun tt' S2 vt' hE2 k2 ht2 hn2 hne2 => ?_
 have exk := hB.cellsTok (x := .list PkR 3 B.vt W.net B.tt) (by simp [WB.rest]) k2 (fun j hj => hj)
 have a1 := hB.addNet hE2 k2 ht2 hn2 rfl
 have hone := hE2.one
 have hcl := cells_one hone
 unfold WB.cells at exk a1
 simp only [go_sem, f0, exk, hone, hcl]
 exact hQ _ _ _ a1
theorem act_propose {w0 : World} {S : St} {Qc : CPost} {B : WP} {W : WB} {L : RL} {X : RN} {A : Nat} {a : AC} {vd vk : V} {fr : Fr} (hH : Hold S [Res.book B W, Res.raft L X]) (hF : W.Fine) (hR : X.Room) (hd : a.data.length ≤ 200) (hv : IsBytes vd a.data) (cA : S.cells A = some (a.v vd vk)) (lA : A < S.n) (nA : ¬ (Res.book B W).own A) (mA : ¬ (Res.raft L X).own A)
  (he : X.leads = decide ((X.propose a.data).1 = 0) ∨ (X.propose a.data).1 = 10) (f0 : fr 0 = .ptr (some (B.w, 0))) (f3 : fr 3 = .ptr (some (A, 0))) (f5 : fr 5 = .ptr (some (L.r, 0)))
  (hQ : ∀ fr' S' B' L', Aft S (Res.all [Res.book B W, Res.raft L X]) S' (Res.all [Res.book B' { W with prop := W.prop ++ [a.data] }, Res.raft L' (X.propose a.data).2]) → B'.w = B.w → L'.r = L.r → L'.i = L.i → (fr' 0 = fr 0 ∧ fr' 4 = fr 4) → Qc .normal fr' S') : wCode (RSim Try.prog w0) i_l15_world_act_3 fr S Qc := by
 have hB : BookAt S B W := hH.1
 have ex := hB.ex
 have l6 := hF.l6
 obtain ⟨hP, htp⟩ := hB.prop
 have cv : ∀ S, V.conv S .bytesStr vd = some (.str (mkS a.data)) := fun S => hv.convS S
 have cA1 := cA
 unfold WB.cells at ex
 unfold AC.v at cA1
 simp only [i_l15_world_act_3, go_sem, f0, f3, cA1, ex, cv]
 refine wi_appendR (v := B.vp) (l := W.prop) (y := a.data) (c := [.str (mkS a.data)]) (by simp only [go_sem]) hP (by simp only [go_sem]; rfl) rfl rfl (by omega) htp fun tp' S2 vp' hE2 k2 ht2 hn2 hne2 => ?_
 have exk := hB.cellsTok (x := .list StrR 1 B.vp W.prop B.tp) (by simp [WB.rest]) k2 (fun j hj => hj)
 have a1 := hB.addProp hE2 k2 ht2 hn2 rfl
 have hone := hE2.one
 have hcl := cells_one hone
 unfold WB.cells at exk a1
 simp only [go_sem, f0, f5, exk, hone, hcl]
 generalize S2.set B.w (.cells _) = S3 at *
 have A1 := Aft.part hH (List.Perm.refl _) a1.1 (List.Perm.refl _)
 have hX3 : RaftAt S3 L X := A1.p.2.2.1
 have cA3 := a1.1.k.cells cA lA nA
 have cA3' := cA3
 unfold AC.v at cA3'
 refine wi_call ?_
 simp only [go_sem]
 refine leads_runs hX3 ?_
 simp only [go_sem, f3, f5, cA3']
 refine wi_call ?_
 simp only [go_sem]
 refine propose_runs hX3 hv hR fun S4 L4 a4 => ?_
 have A2 := A1.trans (Aft.part A1.p (List.Perm.swap _ _ _) a4.1 (List.Perm.swap _ _ _))
 have q1 : ((X.propose a.data).1 == 0) = decide ((X.propose a.data).1 = 0) := by rw [Bool.eq_iff_iff, beq_iff_eq, decide_eq_true_iff]
 have q2 : ((X.propose a.data).1 != 10) = decide ((X.propose a.data).1 ≠ 10) := by rw [Bool.eq_iff_iff, bne_iff_ne, decide_eq_true_iff]
 have hb1 : B.w = B.w := rfl
 generalize hpe : (X.propose a.data).1 = e at *
 by_cases h10 : e = 10
 ·subst h10
  cases hl : X.leads
  ·simp only [go_sem]
   refine wc_ite (b := false) (by simp only [go_sem] <;> rfl) (fun h => by cases h) (fun _ => ?_)
   simp only [go_sem]
   exact hQ _ S4 _ L4 A2 rfl a4.2.1 a4.2.2 ⟨by simp only [go_sem], by simp only [go_sem]⟩
  ·simp only [go_sem]
   refine wc_ite (b := false) (by simp only [go_sem] <;> rfl) (fun h => by cases h) (fun _ => ?_)
   simp only [go_sem]
   exact hQ _ S4 _ L4 A2 rfl a4.2.1 a4.2.2 ⟨by simp only [go_sem], by simp only [go_sem]⟩
 ·have hle := he.resolve_right h10
  by_cases h0 : e = 0
  ·subst h0
   rw [decide_eq_true rfl] at hle
   rw [hle]
   simp only [go_sem]
   refine wc_ite (b := false) (by simp only [go_sem] <;> rfl) (fun h => by cases h) (fun _ => ?_)
   simp only [go_sem]
   exact hQ _ S4 _ L4 A2 rfl a4.2.1 a4.2.2 ⟨by simp only [go_sem], by simp only [go_sem]⟩
  ·rw [decide_eq_false h0] at hle q1
   rw [hle]
   simp only [go_sem, q1]
   refine wc_ite (b := false) (by simp only [go_sem] <;> rfl) (fun h => by cases h) (fun _ => ?_)
   simp only [go_sem]
   exact hQ _ S4 _ L4 A2 rfl a4.2.1 a4.2.2 ⟨by simp only [go_sem], by simp only [go_sem]⟩
theorem RaftAt.armed {S S' : St} {L : RL} {X : RN} {n : Int} (h : RaftAt S L X) (d : DiskAt S' L.i { L.D with arm := n }) (k : Keeps (fun j => j = L.i) S S') : RAft S L X S' { L with D := { L.D with arm := n } } (X.dr ({ L.D with arm := n } : Dk).abs X.R) := by
 have W5 : WalAt S' L.i L.g { L.D with arm := n } raftN X.R L.tw := h.w.after ⟨d, k.mono fun j _ h => .inl h, fun j hj => .inl hj⟩
 exact h.wal ⟨W5, k.mono fun j _ hj => .inl (.inl hj), fun j hj => .inl hj⟩ h.ok.rl
theorem act_arm {w0 : World} {S : St} {Qc : CPost} {B : WP} {W : WB} {A i di : Nat} {D : Dk} {a : AC} {vd vk : V} {fr : Fr} (hB : BookAt S B W) (hdi : W.disks[i]? = some di) (hdk : DiskAt S di D) (ha : a.num < 65536) (cA : S.cells A = some (a.v vd vk)) (f0 : fr 0 = .ptr (some (B.w, 0))) (f3 : fr 3 = .ptr (some (A, 0))) (f4 : fr 4 = .int .i64 (i : Nat))
  (hQ : ∀ fr' S', DiskAt S' di { D with arm := ((a.num % 6 : Nat) : Int) } → Keeps (fun j => j = di) S S' → Qc .ret fr' S') : wCode (RSim Try.prog w0) i_l15_world_act_5 fr S Qc := by
 have ex := hB.ex
 obtain ⟨hD, _⟩ := hB.disks
 obtain ⟨cd, hvd⟩ := hD.len
 obtain ⟨c1, e1, hd1, htn1, hjt1⟩ := one_at hD hvd hdi
 injection e1 with e1 _
 subst e1
 have tm : (a.num : Int).tmod 6 = ((a.num % 6 : Nat) : Int) := rfl
 have w0' : IntKind.i64.wrap ((a.num % 6 : Nat) : Int) = ((a.num % 6 : Nat) : Int) := by rw [w64 (by omega) (by omega)]
 have cv : ∀ S, V.conv S (.int .i64) (.int .u16 (a.num : Int)) = some (.int .i64 (a.num : Int)) := fun S => by simp only [V.conv]; rw [w64 (by omega) (by omega)]
 unfold WB.cells at ex
 rw [hvd] at ex
 unfold AC.v at cA
 simp only [i_l15_world_act_5, go_sem, f0, f3, f4, cA, ex, cv, tm, w0', hjt1, htn1, hd1]
 refine wi_call ?_
 simp only [go_sem]
 refine arm_runs hdk (fun S' _ d k => ?_) (fun h => by omega)
 simp only [go_sem]
 exact hQ _ S' d k
def Res.disk (i : Nat) (D : Dk) : Res where
 P S := DiskAt S i D
 own := ownD i D
 keep h k ho := DiskAt.keep h k ho
 lt h hj := DiskAt.own_lt h hj
theorem act_reopen {w0 : World} {S : St} {Qc : CPost} {B : WP} {W : WB} {A i di : Nat} {D : Dk} {a : AC} {vd : V} {keep : List Int} {kt : Tok} {fr : Fr} {P : RL → RN → Prop} (hH : Hold S [Res.book B W, Res.disk di D]) (hi : i < W.n) (hnn : W.nodes.length = W.n) (hn5 : W.n ≤ 5) (hdi : W.disks[i]? = some di) (he : D.ents.length ≤ 1000000000) (hkn : kt = .nil → keep = [])
  (cA : S.cells A = some (a.v vd (intsV keep kt))) (f0 : fr 0 = .ptr (some (B.w, 0))) (f3 : fr 3 = .ptr (some (A, 0))) (f4 : fr 4 = .int .i64 (i : Nat))
  (hop : ∀ (S2 : St) (D1 : Dk) (Q2 : AEnd → St → Prop), D1.abs = D.abs.restart keep → DiskAt S2 di D1 → (∀ S3 L X, RaftAt S3 L X → L.i = di → Keeps (ownD di D1) S2 S3 → (∀ j, (Res.raft L X).own j → ownD di D1 j ∨ S2.n ≤ j) → P L X → Q2 (.ret (.tup [.ptr (some (L.r, 0)), .int .i64 0])) S3) →
   RSim Try.prog w0 n_raft_Open [.ptr (some (di, 0)), .int .i64 (i : Nat), .int .i64 (W.n : Nat)] S2 Q2) (hP : ∀ L X, P L X → X.commit = 0 ∧ X.leads = false)
  (hQ : ∀ fr' S' L X, Aft S (Res.all [Res.book B W, Res.disk di D]) S' (Res.all [Res.book B { W with nodes := W.nodes.set i (some L.r) }, Res.raft L X]) → L.i = di → P L X → (fr' 0 = fr 0 ∧ fr' 4 = fr 4) → Qc .normal fr' S') : wCode (RSim Try.prog w0) i_l15_world_act_4 fr S Qc := by
 have hB : BookAt S B W := hH.1
 have hdk : DiskAt S di D := hH.2.2.1
 have ex := hB.ex
 obtain ⟨hD, _⟩ := hB.disks
 obtain ⟨cd, hvd⟩ := hD.len
 obtain ⟨c1, e1, hd1, htn1, hjt1⟩ := one_at hD hvd hdi
 injection e1 with e1 _
 subst e1
 obtain ⟨o, hno⟩ : ∃ o, W.nodes[i]? = some o := ⟨_, List.getElem?_eq_getElem (by omega)⟩
 unfold WB.cells at ex
 rw [hvd] at ex
 unfold AC.v at cA
 simp only [i_l15_world_act_4, go_sem, f0, f3, f4, cA, ex, hjt1, htn1, hd1]
 refine wi_call ?_
 simp only [go_sem]
 refine restart_runs hdk he hkn fun S1 D1 d1 habs k1 o1 => ?_
 have A1 := Aft.part hH (m := [Res.book B W]) (l' := [Res.book B W, Res.disk di D1]) (y := Res.disk di D1) (List.Perm.swap _ _ _) ⟨d1, k1, o1⟩ (List.Perm.swap _ _ _)
 have hB1 : BookAt S1 B W := A1.p.1
 have ex1 := hB1.ex
 unfold WB.cells at ex1
 rw [hvd] at ex1
 simp only [go_sem, f0, f4, ex1, hjt1, htn1, hd1]
 refine wi_call ?_
 simp only [go_sem]
 refine hop S1 D1 _ habs d1 fun S3 L X hX hLi k3 o3 hPX => ?_
 obtain ⟨hc0, hl0⟩ := hP L X hPX
 have A2 := A1.trans (Aft.part A1.p (m := [Res.book B W]) (l' := [Res.book B W, Res.raft L X]) (y := Res.raft L X) (List.Perm.swap _ _ _) ⟨hX, k3, o3⟩ (List.Perm.swap _ _ _))
 have hB3 : BookAt S3 B W := A2.p.1
 have ex3 := hB3.ex
 obtain ⟨hvn, hcn, _, hjn, hhn⟩ := rowf_at hB3.nodes hno
 have hfit : (i * 1 + 1 ≤ (W.nodes.map optV).length) = True := eq_true (by rw [List.length_map]; omega)
 have hsp := splice_map (f := optV) (l := W.nodes) (j := i) (x := some L.r) (by omega)
 unfold splice at hsp
 simp only [List.length_cons, List.length_nil, Nat.zero_add] at hsp
 have hsp' : (W.nodes.map optV).take (i * 1) ++ [V.ptr (some (L.r, 0))] ++ (W.nodes.map optV).drop (i * 1 + 1) = (W.nodes.set i (some L.r)).map optV := hsp
 have a := hB3.setNodes (l' := W.nodes.set i (some L.r)) (by omega) (by simp)
 unfold WB.cells at ex3
 rw [hvn] at ex3
 simp only [go_sem]
 refine wi_call ?_
 simp only [go_sem]
 refine rsure_runs hX ?_
 rw [hc0]
 have z0 : (((0 : Nat) : Int) != 0) = false := rfl
 simp only [go_sem, z0]
 refine wi_call ?_
 simp only [go_sem]
 refine leads_runs hX ?_
 rw [hl0]
 simp only [go_sem]
 refine wc_ite (b := false) (by simp only [go_sem] <;> rfl) (fun h => by cases h) (fun _ => ?_)
 simp only [go_sem, r_l15_world_act_0, f0, f4, ex3, hjn, hcn, hfit, hsp']
 have A3 := A2.trans (Aft.part A2.p (List.Perm.refl _) a.1 (List.Perm.refl _))
 exact hQ _ _ L X A3 hLi hPX ⟨by simp only [go_sem, f0], by simp only [go_sem, f4]⟩
end Go.VM
namespace Go.VM
open Go Go.RowKit Go.Proofs
theorem BookAt.addDisks {S S1 : St} {B : WP} {W : WB} {v' : V} {t' : Tok} {l' : List Nat} {cs : List V} (h : BookAt S B W) (hE : IsSlice PtrR 1 v' l' t') (k : Keeps (tokOwn B.td) S S1) (ht : TokOk S1 t') (hn : ∀ j, t' = .at j → S.n ≤ j)
  (hcs : cs = WB.cells { W with disks := l' } { B with vd := v', td := t' }) : BAft S B W (S1.set B.w (.cells cs)) { B with vd := v', td := t' } { W with disks := l' } := by
 subst hcs
 have a1 : Aft S (Res.list PtrR 1 B.vd W.disks B.td) S1 (Res.list PtrR 1 v' l' t') := ⟨⟨hE, ht⟩, k.mono fun j _ hj => hj, fun j hj => .inr (hn j hj)⟩
 exact BAft.of (Aft.two h.h (List.Perm.refl _) a1 (List.Perm.refl _)) rfl
theorem BookAt.rowNodes {S S1 : St} {B : WP} {W : WB} {v' : V} {o' : Nat} {l' : List (Option Nat)} {cs : List V} (h : BookAt S B W) (hr : RowAt S1 v' (l'.map optV) l'.length 1 o') (hn : l'.length ≠ 0 → S.n ≤ o') (k : Keeps (fun j => W.nodes.length ≠ 0 ∧ j = B.on) S S1)
  (hcs : cs = WB.cells { W with nodes := l' } { B with vn := v', on := o' }) : BAft S B W (S1.set B.w (.cells cs)) { B with vn := v', on := o' } { W with nodes := l' } := by
 subst hcs
 have a1 : Aft S (Res.row B.vn (W.nodes.map optV) B.on) S1 (Res.row v' (l'.map optV) o') :=
  ⟨by show RowAt S1 v' (l'.map optV) (l'.map optV).length 1 o'; rw [List.length_map]; exact hr, k.mono fun j _ hj => ⟨by rw [List.length_map]; exact hj.1, hj.2⟩, fun j hj => .inr (by have h1 := hj.1; rw [List.length_map] at h1; have := hn h1; have h2 : j = o' := hj.2; omega)⟩
 exact BAft.of (Aft.two h.h (List.perm_middle (l₁ := [_])) a1 (List.perm_middle (l₁ := [_]))) rfl
theorem BookAt.rowLeast {S S1 : St} {B : WP} {W : WB} {v' : V} {o' : Nat} {l' : List Nat} {cs : List V} (h : BookAt S B W) (hr : RowAt S1 v' (l'.map u64V) l'.length 1 o') (hn : l'.length ≠ 0 → S.n ≤ o') (k : Keeps (fun j => W.least.length ≠ 0 ∧ j = B.oe) S S1)
  (hcs : cs = WB.cells { W with least := l' } { B with ve := v', oe := o' }) : BAft S B W (S1.set B.w (.cells cs)) { B with ve := v', oe := o' } { W with least := l' } := by
 subst hcs
 have a1 : Aft S (Res.row B.ve (W.least.map u64V) B.oe) S1 (Res.row v' (l'.map u64V) o') :=
  ⟨by show RowAt S1 v' (l'.map u64V) (l'.map u64V).length 1 o'; rw [List.length_map]; exact hr, k.mono fun j _ hj => ⟨by rw [List.length_map]; exact hj.1, hj.2⟩, fun j hj => .inr (by have h1 := hj.1; rw [List.length_map] at h1; have := hn h1; have h2 : j = o' := hj.2; omega)⟩
 exact BAft.of (Aft.two h.h (List.perm_middle (l₁ := [_, _, _, _, _, _, _, _])) a1 (List.perm_middle (l₁ := [_, _, _, _, _, _, _, _]))) rfl
theorem begin_one {w0 : World} {S : St} {Qc : CPost} {B : WP} {W : WB} {l : List Res} {j n : Nat} {fr : Fr} {P : RL → RN → Prop} (hH : Hold S (Res.book B W :: l)) (hb : W.bad = false) (h1 : W.disks.length ≤ 10) (h2 : W.nodes.length ≤ 10) (h3 : W.least.length ≤ 10)
  (f0 : fr 0 = .int .i64 (n : Nat)) (f3 : fr 3 = .ptr (some (B.w, 0))) (f4 : fr 4 = .int .i64 (j : Nat))
  (hop : ∀ (S2 : St) (di m : Nat) (Q2 : AEnd → St → Prop), DiskAt S2 di ⟨m, 0, [], 1048576, 0, 0, 0, false⟩ → (∀ S3 L X, RaftAt S3 L X → L.i = di → Keeps (ownD di ⟨m, 0, [], 1048576, 0, 0, 0, false⟩) S2 S3 → (∀ j, (Res.raft L X).own j → ownD di ⟨m, 0, [], 1048576, 0, 0, 0, false⟩ j ∨ S2.n ≤ j) → P L X → Q2 (.ret (.tup [.ptr (some (L.r, 0)), .int .i64 0])) S3) →
   RSim Try.prog w0 n_raft_Open [.ptr (some (di, 0)), .int .i64 (j : Nat), .int .i64 (n : Nat)] S2 Q2)
  (hQ : ∀ fr' S' B' L X, Hold S' (Res.book B' { W with disks := W.disks ++ [L.i], nodes := W.nodes ++ [some L.r], least := W.least ++ [0] } :: Res.raft L X :: l) → B'.w = B.w → P L X → (fr' 0 = fr 0 ∧ fr' 3 = fr 3 ∧ fr' 4 = fr 4) → Qc .normal fr' S') : wCode (RSim Try.prog w0) k_l15_begin_0 fr S Qc := by
 simp only [k_l15_begin_0, go_sem]
 refine wi_call ?_
 simp only [go_sem]
 refine new_runs (fun S1 di _ _ hdn hdk k1 => ?_) (fun h => by omega)
 simp only [go_sem, f0, f4]
 refine wi_call ?_
 simp only [go_sem]
 refine hop S1 di S.n _ hdk fun S3 L X hX hLi k3 o3 hPX => ?_
 have hnew : ∀ j, ownD di ⟨S.n, 0, [], 1048576, 0, 0, 0, false⟩ j → S.n ≤ j := fun j hj => by
  rcases hj with rfl | rfl | ⟨e, he, _⟩
  ·exact hdn
  ·exact Nat.le_refl _
  ·cases he
 have k13 : Keeps (fun _ => False) S S3 := k1.trans k3 fun j hj ho => by have := hnew j ho; omega
 have hA := Hold.add hH k13 (x := Res.raft L X) hX fun j hj => (o3 j hj).elim (hnew j) fun h => Nat.le_trans k1.n h
 have hA := hA.swap
 have hB3 : BookAt S3 B W := hA.1
 have ex3 := hB3.ex
 have e0 : ((0 : Int) != 0) = false := rfl
 unfold WB.cells at ex3
 rw [hb] at ex3
 simp only [go_sem, f3, ex3, e0]
 generalize hS4 : S3.set B.w (.cells _) = S4 at *
 have a0 : BAft S3 B W S4 B W := by rw [← hS4]; exact hB3.same (by unfold WB.cells; simp only [hb])
 have hA4 := hA.step a0.1
 have ex4 := a0.a.ex
 obtain ⟨hD, htd⟩ := a0.a.disks
 unfold WB.cells at ex4
 refine wi_appendR (v := B.vd) (l := W.disks) (y := L.i) (c := [.ptr (some (di, 0))]) (by simp only [go_sem]) hD (by simp only [go_sem]; rfl) rfl (by rw [hLi]; rfl) (by omega) htd fun td' S5 vd' hE5 k5 ht5 hn5 hne5 => ?_
 have exk5 := a0.a.cellsTok (x := .list PtrR 1 B.vd W.disks B.td) (by simp [WB.rest]) k5 (fun j hj => hj)
 have a1 := a0.a.addDisks hE5 k5 ht5 hn5 rfl
 have hone := hE5.one
 have hcl := cells_one hone
 unfold WB.cells at exk5 a1
 simp only [go_sem, f3, exk5, hone, hcl]
 generalize S5.set B.w (.cells _) = S6 at *
 have hA6 := hA4.step a1.1
 refine wi_append_row (v := B.vn) (cs := W.nodes.map optV) (xs := [.ptr (some (L.r, 0))]) (n := W.nodes.length) (m := 1) (o := B.on) (by simp only [go_sem]) a1.a.nodes (by simp only [go_sem]; rfl) rfl (by simp [roomOk]; omega) fun vn' S7 on' hr7 hn7 k7 => ?_
 have exk7 := a1.a.cellsTok (x := .row B.vn (W.nodes.map optV) B.on) (by simp [WB.rest]) k7 (fun j hj => ⟨by rw [List.length_map]; exact hj.1, hj.2⟩)
 have hml : (W.nodes ++ [some L.r]).map optV = W.nodes.map optV ++ [V.ptr (some (L.r, 0))] := by rw [List.map_append]; rfl
 have hll : (W.nodes ++ [some L.r]).length = W.nodes.length + 1 := by simp
 have a2 := a1.a.rowNodes (l' := W.nodes ++ [some L.r]) (by rw [hml, hll]; exact hr7) (by rw [hll]; exact hn7) k7 rfl
 have hone7 := hr7.one
 have hcl7 := cells_one hone7
 unfold WB.cells at exk7 a2
 simp only [go_sem, f3, exk7, hone7, hcl7]
 generalize S7.set B.w (.cells _) = S8 at *
 have hA8 := hA6.step a2.1
 refine wi_append_row (v := B.ve) (cs := W.least.map u64V) (xs := [.int .u64 0]) (n := W.least.length) (m := 1) (o := B.oe) (by simp only [go_sem]) a2.a.least (by simp only [go_sem]; rfl) rfl (by simp [roomOk]; omega) fun ve' S9 oe' hr9 hn9 k9 => ?_
 have exk9 := a2.a.cellsTok (x := .row B.ve (W.least.map u64V) B.oe) (by simp [WB.rest]) k9 (fun j hj => ⟨by rw [List.length_map]; exact hj.1, hj.2⟩)
 have hml9 : (W.least ++ [0]).map u64V = W.least.map u64V ++ [V.int .u64 0] := by rw [List.map_append]; rfl
 have hll9 : (W.least ++ [0]).length = W.least.length + 1 := by simp
 have a3 := a2.a.rowLeast (l' := W.least ++ [0]) (by rw [hml9, hll9]; exact hr9) (by rw [hll9]; exact hn9) k9 rfl
 have hone9 := hr9.one
 have hcl9 := cells_one hone9
 have hA10 := hA8.step a3.1
 unfold WB.cells at exk9 hA10
 simp only [go_sem, f3, exk9, hone9, hcl9]
 exact hQ _ _ _ L X hA10 rfl hPX ⟨by simp only [go_sem], by simp only [go_sem], by simp only [go_sem]⟩
def WB.start (n : Nat) (l : List (RL × RN)) : WB := ⟨n, l.map fun q => q.1.i, l.map fun q => some q.1.r, [], [], [], [], [], [], l.map fun _ => 0, [], false⟩
def newDk (m : Nat) : Dk := ⟨m, 0, [], 1048576, 0, 0, 0, false⟩
theorem raftBegin_runs {w0 : World} {S : St} {Q : AEnd → St → Prop} {n : Nat} {P : Nat → RL → RN → Prop} (hn : n ≤ 5)
  (hop : ∀ (j : Nat), j < n → ∀ (S2 : St) (di m : Nat) (Q2 : AEnd → St → Prop), DiskAt S2 di (newDk m) → (∀ S3 L X, RaftAt S3 L X → L.i = di → Keeps (ownD di (newDk m)) S2 S3 → (∀ j, (Res.raft L X).own j → ownD di (newDk m) j ∨ S2.n ≤ j) → P j L X → Q2 (.ret (.tup [.ptr (some (L.r, 0)), .int .i64 0])) S3) →
   RSim Try.prog w0 n_raft_Open [.ptr (some (di, 0)), .int .i64 (j : Nat), .int .i64 (n : Nat)] S2 Q2)
  (hQ : ∀ S' B l, l.length = n → (∀ (j : Nat) (q : RL × RN), l[j]? = some q → P j q.1 q.2) → Hold S' (Res.book B (WB.start n l) :: l.reverse.map fun q => Res.raft q.1 q.2) → Q (.ret (.ptr (some (B.w, 0)))) S') :
  RSim Try.prog w0 n_l15_begin [.int .i64 (n : Nat)] S Q := by
 have hst : Hold (S.add (.cells (WB.cells (WB.start n []) ⟨S.n, .sl [] 0 1 .nil, .nil, .sl [] 0 1 .nil, 0, .sl [] 0 3 .nil, .nil, .sl [] 0 1 .nil, .nil, .sl [] 0 1 .nil, .nil, .sl [] 0 1 .nil, .nil, .sl [] 0 1 .nil, .nil, .sl [] 0 1 .nil, .nil, .sl [] 0 1 .nil, 0, .sl [] 0 1 .nil, .nil⟩)))
   [Res.book ⟨S.n, .sl [] 0 1 .nil, .nil, .sl [] 0 1 .nil, 0, .sl [] 0 3 .nil, .nil, .sl [] 0 1 .nil, .nil, .sl [] 0 1 .nil, .nil, .sl [] 0 1 .nil, .nil, .sl [] 0 1 .nil, .nil, .sl [] 0 1 .nil, .nil, .sl [] 0 1 .nil, 0, .sl [] 0 1 .nil, .nil⟩ (WB.start n [])] := by
  refine ⟨⟨⟨Res.cells_new S _, ?_, ⟨isSlice_nil PtrR 1, trivial⟩, (fun y hy j hj => by cases hj), RowAt.nil _ 1 0, (fun y hy j hj => (hj.1 rfl).elim), ⟨isSlice_nil PkR 3, trivial⟩, (fun y hy j hj => by cases hj), ⟨isSlice_nil StrR 1, trivial⟩, (fun y hy j hj => by cases hj), ⟨isSlice_nil StrR 1, trivial⟩, (fun y hy j hj => by cases hj), ⟨isSlice_nil U64R 1, trivial⟩, (fun y hy j hj => by cases hj),
   ⟨isSlice_nil I64R 1, trivial⟩, (fun y hy j hj => by cases hj), ⟨isSlice_nil U64R 1, trivial⟩, (fun y hy j hj => by cases hj), RowAt.nil _ 1 0, (fun y hy j hj => (hj.1 rfl).elim), ⟨isSlice_nil U64R 1, trivial⟩, (fun y hy => by cases hy), trivial⟩⟩, (fun y hy => by cases hy), trivial⟩
  intro y hy j hj hyj
  simp only [WB.rest, List.mem_cons, List.not_mem_nil, or_false] at hy
  rcases hy with rfl | rfl | rfl | rfl | rfl | rfl | rfl | rfl | rfl | rfl
  ·cases hyj
  ·exact hyj.1 rfl
  ·cases hyj
  ·cases hyj
  ·cases hyj
  ·cases hyj
  ·cases hyj
  ·cases hyj
  ·exact hyj.1 rfl
  ·cases hyj
 unfold WB.cells at hst
 refine RSim.run mixed k_l15_begin ?_ (by simp)
 simp only [b_l15_begin, go_sem]
 refine loop_rule RSim.le (k := n) (fun q fr Sa => ∃ (l : List (RL × RN)) (Ba : WP), q = n - l.length ∧ l.length ≤ n ∧ fr 0 = .int .i64 (n : Nat) ∧ fr 3 = .ptr (some (Ba.w, 0)) ∧ fr 4 = .int .i64 (l.length : Nat) ∧ (∀ (j : Nat) (q : RL × RN), l[j]? = some q → P j q.1 q.2) ∧ Hold Sa (Res.book Ba (WB.start n l) :: l.reverse.map fun q => Res.raft q.1 q.2)) ?_
  ⟨[], _, rfl, Nat.zero_le _, by simp only [go_sem], by simp only [go_sem], by simp only [go_sem]; rfl, fun j q h => by simp at h, hst⟩
 rintro q fr Sa ⟨l, Ba, hq, hl, f0, f3, f4, hP, hA⟩
 simp only [l_l15_begin_0, go_sem, f0, f4]
 refine wc_ite (b := decide ((l.length : Int) < (n : Int))) (by simp only [go_sem]) (fun hc => ?_) (fun hc => ?_)
 ·have hlt : l.length < n := by have := of_decide_eq_true hc; omega
  have w1 : IntKind.i64.wrap ((l.length : Int) + 1) = ((l.length + 1 : Nat) : Int) := by rw [w64 (by omega) (by omega)]; omega
  simp only [go_sem]
  refine begin_one (P := P l.length) hA rfl (by show (l.map _).length ≤ 10; rw [List.length_map]; omega) (by show (l.map _).length ≤ 10; rw [List.length_map]; omega) (by show (l.map _).length ≤ 10; rw [List.length_map]; omega) (n := n) (j := l.length) (by simp only [go_sem, f0]) (by simp only [go_sem, f3]) (by simp only [go_sem, f4]) (hop l.length hlt) fun fr' S' B' L X hH hw hPX hfr => ?_
  obtain ⟨e0, e3, e4⟩ := hfr
  simp only [go_sem, f0, f3, f4] at e0 e3 e4
  simp only [go_sem, e4, w1]
  refine ⟨n - (l.length + 1), by omega, l ++ [(L, X)], B', by simp, by simp; omega, e0, by rw [hw]; exact e3, by simp, ?_, ?_⟩
  ·intro j q hj
   rcases Nat.lt_or_ge j l.length with h | h
   ·rw [List.getElem?_append_left h] at hj; exact hP j q hj
   ·rw [List.getElem?_append_right h] at hj
    have h0 : j - l.length = 0 := by
     have := (List.getElem?_eq_some_iff.1 hj).1
     simp at this; omega
    rw [h0] at hj
    simp at hj
    subst hj
    have : j = l.length := by omega
    rw [this]; exact hPX
  ·have e : WB.start n (l ++ [(L, X)]) = { WB.start n l with disks := (WB.start n l).disks ++ [L.i], nodes := (WB.start n l).nodes ++ [some L.r], least := (WB.start n l).least ++ [0] } := by unfold WB.start; simp
   rw [e, List.reverse_append]
   exact hH
 ·have hle : l.length = n := by have := of_decide_eq_false hc; omega
  simp only [go_sem, f3]
  exact hQ Sa Ba l hle hP hA
end Go.VM
namespace Go.VM
open Go Go.RowKit Go.Proofs
def AlikeL (la lb : List LE) : Prop := ∀ (k : Nat) (x y : LE), la[k]? = some x → lb[k]? = some y → x.t = y.t → ∀ j, j ≤ k → la[j]? = lb[j]?
theorem alike_runs {w0 : World} {S : St} {Q : AEnd → St → Prop} {L M : RL} {X Y : RN} (hX : RaftAt S L X) (hY : RaftAt S M Y) (hal : AlikeL X.log Y.log) (hQ : ∀ S', Keeps (fun _ => False) S S' → Q (.ret (.bool true)) S') :
  RSim Try.prog w0 n_l15_alike [.ptr (some (L.r, 0)), .ptr (some (M.r, 0))] S Q := by
 have hlx := hX.ok.ll
 have hly := hY.ok.ll
 have q0 : decide ((Y.log.length : Int) < (X.log.length : Int)) = decide (Y.log.length < X.log.length) := decide_eq_decide.mpr (by omega)
 have loop : ∀ (fr : Fr) (m : Nat), m ≤ X.log.length → m ≤ Y.log.length → fr 0 = .ptr (some (L.r, 0)) → fr 1 = .ptr (some (M.r, 0)) → fr 5 = .int .i64 (m : Nat) → fr 6 = .bool false →
   wCode (RSim Try.prog w0) (.seq (.blk 0 (.loop l_l15_alike_0)) (.seq (.reg [] [.run ⟨(some 4), none, .f (.mv (.c (.bool true)))⟩]) .ret)) fr S (resQ [.tmp 4] Q) := by
  intro fr m hmx hmy f0 f1 f5 f6
  simp only [go_sem]
  refine loop_rule RSim.le (k := m) (fun q fr Sa => ∃ b : Bool, q ≤ m ∧ fr 0 = .ptr (some (L.r, 0)) ∧ fr 1 = .ptr (some (M.r, 0)) ∧ fr 5 = .int .i64 (q : Nat) ∧ fr 6 = .bool b ∧ (b = true → ∀ j, j < q → X.log[j]? = Y.log[j]?) ∧ Keeps (fun _ => False) S Sa) ?_
   ⟨false, Nat.le_refl _, f0, f1, f5, f6, (fun h => (by cases h)), Keeps.refl _ _⟩
  rintro q fr Sa ⟨b, hq, f0, f1, f5, f6, hb, kA⟩
  simp only [l_l15_alike_0, go_sem, f5]
  refine wc_ite (b := decide ((q : Int) > 0)) (by simp only [go_sem]) (fun hc => ?_) (fun hc => ?_)
  ·have hq0 : 0 < q := by have := of_decide_eq_true hc; omega
   obtain ⟨j, rfl⟩ : ∃ j, q = j + 1 := ⟨q - 1, by omega⟩
   have w1 : IntKind.i64.wrap (((j + 1 : Nat) : Int) - 1) = ((j : Nat) : Int) := by rw [w64 (by omega) (by omega)]; omega
   obtain ⟨x, hx⟩ : ∃ x, X.log[j]? = some x := ⟨_, List.getElem?_eq_getElem (by omega)⟩
   obtain ⟨y, hy⟩ : ∃ y, Y.log[j]? = some y := ⟨_, List.getElem?_eq_getElem (by omega)⟩
   have hXA := hX.stay kA
   simp only [go_sem, k_l15_alike_0, f0, f5]
   refine wi_call ?_
   simp only [go_sem]
   refine entry_runs (i := j + 1) (x := x) hXA (by omega) (by simpa using hx) fun Sb vb hvb kb => ?_
   have kB := kA.trans kb (fun _ _ => _root_.id)
   simp only [go_sem, f1, f5]
   refine wi_call ?_
   simp only [go_sem]
   refine entry_runs (i := j + 1) (x := y) (hY.stay kB) (by omega) (by simpa using hy) fun Sc vc hvc kc => ?_
   have kC := kB.trans kc (fun _ _ => _root_.id)
   have cvb : ∀ S, V.conv S .bytesStr vb = some (.str (mkS x.d)) := fun S => hvb.convS S
   have cvc : ∀ S, V.conv S .bytesStr vc = some (.str (mkS y.d)) := fun S => hvc.convS S
   have q1 : ((x.t : Int) == (y.t : Int)) = decide (x.t = y.t) := by rw [Bool.eq_iff_iff, beq_iff_eq, decide_eq_true_iff]; omega
   by_cases hxy : x.t = y.t
   ·rw [decide_eq_true hxy] at q1
    have hall := hal j x y hx hy hxy
    have e : x = y := by
     have := hall j (Nat.le_refl _)
     rw [hx, hy] at this
     exact Option.some.inj this
    subst e
    have q2 : ((x.t : Int) != (x.t : Int)) = false := by simp
    have q3 : decide (x.d = x.d) = true := decide_eq_true rfl
    simp only [go_sem, q1]
    refine wc_ite (b := true) (by simp only [go_sem] <;> rfl) (fun _ => ?_) (fun h => by cases h)
    simp only [go_sem, q2, cvb, cvc, q3]
    refine wc_ite (b := false) (by simp only [go_sem] <;> rfl) (fun h => by cases h) (fun _ => ?_)
    simp only [go_sem, f5, w1]
    exact ⟨j, by omega, true, by omega, f0, f1, rfl, rfl, fun _ i hi => hall i (by omega), kC⟩
   ·rw [decide_eq_false hxy] at q1
    have hbf : b = false := by
     cases b
     ·rfl
     ·have := hb rfl j (by omega)
      rw [hx, hy] at this
      exact absurd (congrArg LE.t (Option.some.inj this)) hxy
    subst hbf
    simp only [go_sem, q1]
    refine wc_ite (b := false) (by simp only [go_sem] <;> rfl) (fun h => by cases h) (fun _ => ?_)
    simp only [go_sem, f6]
    refine wc_ite (b := false) (by simp only [go_sem] <;> rfl) (fun h => by cases h) (fun _ => ?_)
    simp only [go_sem, f5, w1]
    exact ⟨j, by omega, false, by omega, f0, f1, rfl, f6, (fun h => (by cases h)), kC⟩
  ·simp only [go_sem]
   exact hQ Sa kA
 refine RSim.run mixed k_l15_alike ?_ (by simp)
 simp only [b_l15_alike, go_sem]
 refine wi_call ?_
 simp only [go_sem]
 refine len_runs hX ?_
 simp only [go_sem]
 refine wi_call ?_
 simp only [go_sem]
 refine len_runs hY ?_
 simp only [go_sem, q0]
 refine wc_ite (b := decide (Y.log.length < X.log.length)) (by simp only [go_sem]) (fun hc => ?_) (fun hc => ?_)
 ·have hlt := of_decide_eq_true hc
  simp only [go_sem]
  refine wi_call ?_
  simp only [go_sem]
  refine len_runs hY ?_
  simp only [go_sem]
  exact loop _ Y.log.length (by omega) (Nat.le_refl _) (by simp only [go_sem]) (by simp only [go_sem]) (by simp only [go_sem]) (by simp only [go_sem])
 ·have hlt := of_decide_eq_false hc
  simp only [go_sem]
  exact loop _ X.log.length (Nat.le_refl _) (by omega) (by simp only [go_sem]) (by simp only [go_sem]) (by simp only [go_sem]) (by simp only [go_sem])
end Go.VM
namespace Go.VM
open Go Go.RowKit Go.Proofs
def LookTo (w0 : World) (Q : AEnd → St → Prop) (w i : Nat) (S2 : St) : Prop := ∀ Q2 : AEnd → St → Prop, (∀ S3, Q (.ret (.tup [])) S3 → Q2 (.ret (.tup [])) S3) → RSim Try.prog w0 n_l15_world_look [.ptr (some (w, 0)), .int .i64 (i : Nat)] S2 Q2
structure ActTo (w0 : World) (S1 : St) (Q : AEnd → St → Prop) (B : WP) (W : WB) (a : AC) (A i : Nat) (o : Option Nat) : Prop where
 k0 : a.kind % 9 = 0 → (o = none → LookTo w0 Q B.w i S1) ∧ ∀ r, o = some r → ∀ Q1 : AEnd → St → Prop, (∀ S2 (e : Int), LookTo w0 Q B.w i S2 → Q1 (.ret (.int .i64 e)) S2) → RSim Try.prog w0 n_raft_Node_Tick [.ptr (some (r, 0)), .int .u64 (a.draw : Nat)] S1 Q1
 k1 : a.kind % 9 = 1 ∨ a.kind % 9 = 2 → (W.net = [] → Q (.ret (.tup [])) S1) ∧ (W.net ≠ [] → ∀ Q1 : AEnd → St → Prop, (∀ S2, Q (.ret (.tup [])) S2 → Q1 (.ret (.tup [])) S2) → RSim Try.prog w0 n_l15_world_hand [.ptr (some (B.w, 0)), .int .i64 ((a.num % W.net.length : Nat) : Int)] S1 Q1)
 k3 : a.kind % 9 = 3 → (W.net = [] → Q (.ret (.tup [])) S1) ∧ (W.net ≠ [] → ∀ (fr : Fr) (Qc : CPost), fr 0 = .ptr (some (B.w, 0)) → fr 3 = .ptr (some (A, 0)) → (∀ fr' S', Q (.ret (.tup [])) S' → Qc .normal fr' S') → wCode (RSim Try.prog w0) i_l15_world_act_1 fr S1 Qc)
 k4 : a.kind % 9 = 4 → (W.net = [] ∨ 300 ≤ W.net.length → Q (.ret (.tup [])) S1) ∧ (W.net ≠ [] → W.net.length < 300 → ∀ (fr : Fr) (Qc : CPost), fr 0 = .ptr (some (B.w, 0)) → fr 3 = .ptr (some (A, 0)) → (∀ fr' S', Q (.ret (.tup [])) S' → Qc .normal fr' S') → wCode (RSim Try.prog w0) i_l15_world_act_2 fr S1 Qc)
 k5 : a.kind % 9 = 5 → (o = none ∨ 200 < a.data.length → LookTo w0 Q B.w i S1) ∧ (∀ r, o = some r → a.data.length ≤ 200 → ∀ (fr : Fr) (Qc : CPost), fr 0 = .ptr (some (B.w, 0)) → fr 3 = .ptr (some (A, 0)) → fr 4 = .int .i64 (i : Nat) → fr 5 = .ptr (some (r, 0)) → (∀ fr' S', LookTo w0 Q B.w i S' → (fr' 0 = fr 0 ∧ fr' 4 = fr 4) → Qc .normal fr' S') → wCode (RSim Try.prog w0) i_l15_world_act_3 fr S1 Qc)
 k6 : a.kind % 9 = 6 → ∀ S', BAft S1 B W S' B { W with nodes := W.nodes.set i none } → LookTo w0 Q B.w i S'
 k7 : a.kind % 9 = 7 → (o ≠ none → LookTo w0 Q B.w i S1) ∧ (o = none → ∀ (fr : Fr) (Qc : CPost), fr 0 = .ptr (some (B.w, 0)) → fr 3 = .ptr (some (A, 0)) → fr 4 = .int .i64 (i : Nat) → (∀ fr' S', LookTo w0 Q B.w i S' → (fr' 0 = fr 0 ∧ fr' 4 = fr 4) → Qc .normal fr' S') → wCode (RSim Try.prog w0) i_l15_world_act_4 fr S1 Qc)
 k8 : a.kind % 9 = 8 → ∀ (fr : Fr) (Qc : CPost), fr 0 = .ptr (some (B.w, 0)) → fr 3 = .ptr (some (A, 0)) → fr 4 = .int .i64 (i : Nat) → (∀ fr' S', Q (.ret (.tup [])) S' → Qc .ret fr' S') → wCode (RSim Try.prog w0) i_l15_world_act_5 fr S1 Qc
theorem act_runs {w0 : World} {S : St} {Q : AEnd → St → Prop} {B : WP} {W : WB} {a : AC} {vd vk : V} {i : Nat} {o : Option Nat} (hB : BookAt S B W) (hF : W.Fine) (hn0 : 1 ≤ W.n) (hnn : W.nodes.length = W.n) (hi : i = a.node % W.n) (hno : W.nodes[i]? = some o) (ha : a.num < 65536) (hnd : a.node < 256) (hkd : a.kind < 256) (hv : IsBytes vd a.data) (hdl : a.data.length ≤ 1000000000000000) (hvk : vk.one = true)
  (hgo : ∀ S1 A, Keeps (fun _ => False) S S1 → BookAt S1 B W → S1.cells A = some (a.v vd vk) → A < S1.n → S.n ≤ A → ActTo w0 S1 Q B W a A i o) : RSim Try.prog w0 n_l15_world_act [.ptr (some (B.w, 0)), .agg (a.v vd vk)] S Q := by
 have hdo := hv.one
 have hdc := cells_one hdo
 have hkc := cells_one hvk
 have hn5 := hF.n5
 have l7 := hF.l7
 have k1 : Keeps (fun _ => False) S (S.add (.cells (a.v vd vk))) := (Keeps.refl _ S).add _
 have cA : (S.add (.cells (a.v vd vk))).cells S.n = some (a.v vd vk) := by rw [cells_addc, if_pos rfl]
 have lA : S.n < (S.add (.cells (a.v vd vk))).n := by rw [St.add_n]; omega
 have hB1 := hB.stay k1
 have G := hgo _ _ k1 hB1 cA lA (Nat.le_refl _)
 have ex := hB1.ex
 obtain ⟨hvn, hcn, _, hjn, hhn⟩ := rowf_at hB1.nodes hno
 have hhn' : ((W.nodes.map optV).drop (i * 1)).head? = some (.ptr (o.map fun r => (r, 0))) := hhn
 obtain ⟨hN, _⟩ := hB1.net
 obtain ⟨cn, hvt⟩ := hN.len
 obtain ⟨tv, rfl, _⟩ := id hv
 have hin : i < W.n := by rw [hi]; exact Nat.mod_lt _ (by omega)
 have tm1 : (a.node : Int).tmod (W.n : Int) = ((i : Nat) : Int) := by rw [hi]; rfl
 have tm2 : (a.kind : Int).tmod 9 = ((a.kind % 9 : Nat) : Int) := rfl
 have w1 : IntKind.i64.wrap ((i : Nat) : Int) = ((i : Nat) : Int) := by rw [w64 (by omega) (by omega)]
 have w2 : IntKind.u8.wrap ((a.kind % 9 : Nat) : Int) = ((a.kind % 9 : Nat) : Int) := by rw [IntKind.wrap]; simp [IntKind.bits, IntKind.signed]; omega
 have hz1 : ((W.n : Int) = 0) = False := eq_false (by omega)
 have cv1 : ∀ S, V.conv S (.int .i64) (.int .u8 (a.node : Int)) = some (.int .i64 (a.node : Int)) := fun S => by simp only [V.conv]; rw [w64 (by omega) (by omega)]
 have cv2 : ∀ S, V.conv S (.int .i64) (.int .u16 (a.num : Int)) = some (.int .i64 (a.num : Int)) := fun S => by simp only [V.conv]; rw [w64 (by omega) (by omega)]
 have p1 : decide ((W.net.length : Int) > 0) = decide (W.net ≠ []) := decide_eq_decide.mpr ⟨fun h e => by rw [e] at h; simp at h, fun h => by have : W.net.length ≠ 0 := fun e => h (List.eq_nil_of_length_eq_zero e); omega⟩
 have p2 : decide ((W.net.length : Int) < 300) = decide (W.net.length < 300) := decide_eq_decide.mpr (by omega)
 have p3 : decide ((a.data.length : Int) ≤ 200) = decide (a.data.length ≤ 200) := decide_eq_decide.mpr (by omega)
 have cA' := cA
 unfold WB.cells at ex
 rw [hvn, hvt] at ex
 unfold AC.v at cA' ex hB1 lA G hcn cA ⊢
 have q0 : (((a.kind % 9 : Nat) : Int) == 0) = decide (a.kind % 9 = 0) := by rw [Bool.eq_iff_iff, beq_iff_eq, decide_eq_true_iff]; omega
 have q1 : (((a.kind % 9 : Nat) : Int) == 1) = decide (a.kind % 9 = 1) := by rw [Bool.eq_iff_iff, beq_iff_eq, decide_eq_true_iff]; omega
 have q2 : (((a.kind % 9 : Nat) : Int) == 2) = decide (a.kind % 9 = 2) := by rw [Bool.eq_iff_iff, beq_iff_eq, decide_eq_true_iff]; omega
 have q3 : (((a.kind % 9 : Nat) : Int) == 3) = decide (a.kind % 9 = 3) := by rw [Bool.eq_iff_iff, beq_iff_eq, decide_eq_true_iff]; omega
 have q4 : (((a.kind % 9 : Nat) : Int) == 4) = decide (a.kind % 9 = 4) := by rw [Bool.eq_iff_iff, beq_iff_eq, decide_eq_true_iff]; omega
 have q5 : (((a.kind % 9 : Nat) : Int) == 5) = decide (a.kind % 9 = 5) := by rw [Bool.eq_iff_iff, beq_iff_eq, decide_eq_true_iff]; omega
 have q6 : (((a.kind % 9 : Nat) : Int) == 6) = decide (a.kind % 9 = 6) := by rw [Bool.eq_iff_iff, beq_iff_eq, decide_eq_true_iff]; omega
 have q7 : (((a.kind % 9 : Nat) : Int) == 7) = decide (a.kind % 9 = 7) := by rw [Bool.eq_iff_iff, beq_iff_eq, decide_eq_true_iff]; omega
 have q8 : (((a.kind % 9 : Nat) : Int) == 8) = decide (a.kind % 9 = 8) := by rw [Bool.eq_iff_iff, beq_iff_eq, decide_eq_true_iff]; omega
 refine RSim.run mixed k_l15_world_act ?_ (by simp)
 simp only [b_l15_world_act, go_sem, hdo, hdc, hvk, hkc, cA', cv1, ex, tm1, tm2, hz1, w1, w2, hjn, hcn, hhn', q0]
 generalize hSe : S.add (.cells _) = S1
 rw [hSe] at G cA' ex hB1 lA hcn cA
 generalize S.n = A at *
 have look : ∀ (fr : Fr) (S2 : St), LookTo w0 Q B.w i S2 → fr 0 = .ptr (some (B.w, 0)) → fr 4 = .int .i64 (i : Nat) → wCode (RSim Try.prog w0) (.reg [] [.run ⟨(some 247), none, .f (.mv (.t 0))⟩, .run ⟨(some 248), none, .f (.mv (.t 4))⟩, .run ⟨(some 249), none, .e (.call 22 [(.t 247), (.t 248)])⟩]) fr S2 (resQ [] Q) := by
  intro fr S2 hl f0 f4
  simp only [go_sem, f0, f4]
  refine wi_call ?_
  simp only [go_sem]
  refine hl _ fun S3 q => ?_
  simp only [go_sem]
  exact q
 refine wc_ite (b := decide (a.kind % 9 = 0)) (by simp only [go_sem]) (fun hc => ?_) (fun hc => ?_)
 ·have hk := of_decide_eq_true hc
  obtain ⟨G1, G2⟩ := G.k0 hk
  cases o with
  | none =>
   simp only [go_sem]
   refine wc_ite (b := false) (by simp only [go_sem] <;> rfl) (fun h => by cases h) (fun _ => ?_)
   exact look _ S1 (G1 rfl) (by simp only [go_sem]) (by simp only [go_sem])
  | some r =>
   simp only [go_sem]
   refine wc_ite (b := true) (by simp only [go_sem] <;> rfl) (fun _ => ?_) (fun h => by cases h)
   simp only [go_sem, cA']
   refine wi_call ?_
   simp only [go_sem]
   refine G2 r rfl _ fun S2 e hl => ?_
   simp only [go_sem]
   exact look _ S2 hl (by simp only [go_sem]) (by simp only [go_sem])
 have n0 := of_decide_eq_false hc
 clear hc
 have hand : (a.kind % 9 = 1 ∨ a.kind % 9 = 2) → ∀ fr : Fr, fr 0 = .ptr (some (B.w, 0)) → fr 3 = .ptr (some (A, 0)) → fr 38 = .bool true → wCode (RSim Try.prog w0) r_l15_world_act_1 fr S1 (blkQ 0 (seqQ (RSim Try.prog w0) (.reg [] [.run ⟨(some 247), none, .f (.mv (.t 0))⟩, .run ⟨(some 248), none, .f (.mv (.t 4))⟩, .run ⟨(some 249), none, .e (.call 22 [(.t 247), (.t 248)])⟩]) (resQ [] Q))) := by
  intro hk fr f0 f3 f38
  obtain ⟨G1, G2⟩ := G.k1 hk
  simp only [r_l15_world_act_1, go_sem, f38]
  refine wc_ite (b := true) (by simp only [go_sem, f38]) (fun _ => ?_) (fun h => by cases h)
  simp only [go_sem, f0, ex, p1]
  refine wc_ite (b := decide (W.net ≠ [])) (by simp only [go_sem]) (fun hc => ?_) (fun hc => ?_)
  ·have hne := of_decide_eq_true hc
   have tm : (a.num : Int).tmod (W.net.length : Int) = ((a.num % W.net.length : Nat) : Int) := rfl
   have hl0 : W.net.length ≠ 0 := fun e => hne (List.eq_nil_of_length_eq_zero e)
   have hz : ((W.net.length : Int) = 0) = False := eq_false (by omega)
   have hm : a.num % W.net.length < W.net.length := Nat.mod_lt _ (by omega)
   have w3 : IntKind.i64.wrap ((a.num % W.net.length : Nat) : Int) = ((a.num % W.net.length : Nat) : Int) := by rw [w64 (by omega) (by omega)]
   simp only [go_sem, i_l15_world_act_0, f0, f3, cA', cv2, ex, tm, hz, w3]
   refine wi_call ?_
   simp only [go_sem]
   refine G2 hne _ fun S2 q => ?_
   simp only [go_sem]
   exact q
  ·have hne := of_decide_eq_false hc
   simp only [go_sem]
   exact G1 (by simpa using hne)
 simp only [go_sem, q1]
 refine wc_ite (b := decide (a.kind % 9 = 1)) (by simp only [go_sem]) (fun hc => ?_) (fun hc => ?_)
 ·simp only [go_sem]
  exact hand (.inl (of_decide_eq_true hc)) _ (by simp only [go_sem]) (by simp only [go_sem]) (by simp only [go_sem, hc])
 have n1 := of_decide_eq_false hc
 clear hc
 simp only [go_sem, q2]
 cases hk2 : decide (a.kind % 9 = 2)
 case true =>
  exact hand (.inr (of_decide_eq_true hk2)) _ (by simp only [go_sem]) (by simp only [go_sem]) (by simp only [go_sem])
 have n2 := of_decide_eq_false hk2
 simp only [go_sem, r_l15_world_act_1]
 refine wc_ite (b := false) (by simp only [go_sem] <;> rfl) (fun h => by cases h) (fun _ => ?_)
 simp only [go_sem, i_l15_world_act_9, q3]
 refine wc_ite (b := decide (a.kind % 9 = 3)) (by simp only [go_sem]) (fun hc => ?_) (fun hc => ?_)
 ·obtain ⟨G1, G2⟩ := G.k3 (of_decide_eq_true hc)
  clear hc
  simp only [go_sem, ex, p1]
  refine wc_ite (b := decide (W.net ≠ [])) (by simp only [go_sem]) (fun hc => ?_) (fun hc => ?_)
  ·refine G2 (of_decide_eq_true hc) _ _ (by simp only [go_sem]) (by simp only [go_sem]) fun fr' S' q => ?_
   simp only [go_sem]
   exact q
  ·have hne := of_decide_eq_false hc
   simp only [go_sem]
   exact G1 (by simpa using hne)
 have n3 := of_decide_eq_false hc
 clear hc
 simp only [go_sem, q4]
 refine wc_ite (b := decide (a.kind % 9 = 4)) (by simp only [go_sem]) (fun hc => ?_) (fun hc => ?_)
 ·obtain ⟨G1, G2⟩ := G.k4 (of_decide_eq_true hc)
  clear hc
  cases hne : decide (W.net ≠ [])
  ·rw [hne] at p1
   have hne' := of_decide_eq_false hne
   simp only [go_sem, i_l15_world_act_8, ex, p1]
   refine wc_ite (b := false) (by simp only [go_sem] <;> rfl) (fun h => by cases h) (fun _ => ?_)
   simp only [go_sem]
   exact G1 (.inl (by simpa using hne'))
  ·rw [hne] at p1
   have hne' := of_decide_eq_true hne
   simp only [go_sem, i_l15_world_act_8, ex, p1, p2]
   refine wc_ite (b := decide (W.net.length < 300)) (by simp only [go_sem]) (fun hc => ?_) (fun hc => ?_)
   ·refine G2 hne' (of_decide_eq_true hc) _ _ (by simp only [go_sem]) (by simp only [go_sem]) fun fr' S' q => ?_
    simp only [go_sem]
    exact q
   ·have h300 := of_decide_eq_false hc
    simp only [go_sem]
    exact G1 (.inr (by omega))
 have n4 := of_decide_eq_false hc
 clear hc
 simp only [go_sem, q5]
 refine wc_ite (b := decide (a.kind % 9 = 5)) (by simp only [go_sem]) (fun hc => ?_) (fun hc => ?_)
 ·obtain ⟨G1, G2⟩ := G.k5 (of_decide_eq_true hc)
  clear hc
  cases o with
  | none =>
   simp only [go_sem, i_l15_world_act_6, Option.map_none]
   refine wc_ite (b := false) (by simp only [go_sem] <;> rfl) (fun h => by cases h) (fun _ => ?_)
   simp only [go_sem]
   exact look _ S1 (G1 (.inl rfl)) (by simp only [go_sem]) (by simp only [go_sem])
  | some r =>
   simp only [go_sem, i_l15_world_act_6, cA', p3]
   refine wc_ite (b := decide (a.data.length ≤ 200)) (by simp only [go_sem]) (fun hc => ?_) (fun hc => ?_)
   ·refine G2 r rfl (of_decide_eq_true hc) _ _ (by simp only [go_sem]) (by simp only [go_sem]) (by simp only [go_sem]) (by simp only [go_sem, Option.map_some]) fun fr' S' hl he => ?_
    obtain ⟨e0, e4⟩ := he
    simp only [go_sem] at e0 e4
    simp only [go_sem]
    exact look _ S' hl e0 e4
   ·have h2 := of_decide_eq_false hc
    simp only [go_sem]
    exact look _ S1 (G1 (.inr (by omega))) (by simp only [go_sem]) (by simp only [go_sem])
 have n5 := of_decide_eq_false hc
 clear hc
 simp only [go_sem, i_l15_world_act_7, q6]
 refine wc_ite (b := decide (a.kind % 9 = 6)) (by simp only [go_sem]) (fun hc => ?_) (fun hc => ?_)
 ·have G1 := G.k6 (of_decide_eq_true hc)
  clear hc
  have hfit : (i * 1 + 1 ≤ (W.nodes.map optV).length) = True := eq_true (by rw [List.length_map]; omega)
  have hsp := splice_map (f := optV) (l := W.nodes) (j := i) (x := none) (by omega)
  unfold splice at hsp
  simp only [List.length_cons, List.length_nil, Nat.zero_add] at hsp
  have hsp' : (W.nodes.map optV).take (i * 1) ++ [V.ptr none] ++ (W.nodes.map optV).drop (i * 1 + 1) = (W.nodes.set i none).map optV := hsp
  have ax := hB1.setNodes (l' := W.nodes.set i none) (by omega) (by simp)
  simp only [go_sem, ex, hjn, hcn, hfit, hsp']
  exact look _ _ (G1 _ ax) (by simp only [go_sem]) (by simp only [go_sem])
 have n6 := of_decide_eq_false hc
 clear hc
 simp only [go_sem, q7]
 refine wc_ite (b := decide (a.kind % 9 = 7)) (by simp only [go_sem]) (fun hc => ?_) (fun hc => ?_)
 ·obtain ⟨G1, G2⟩ := G.k7 (of_decide_eq_true hc)
  clear hc
  cases o with
  | none =>
   simp only [go_sem]
   refine wc_ite (b := true) (by simp only [go_sem] <;> rfl) (fun _ => ?_) (fun h => by cases h)
   refine G2 rfl _ _ (by simp only [go_sem]) (by simp only [go_sem]) (by simp only [go_sem]) fun fr' S' hl he => ?_
   obtain ⟨e0, e4⟩ := he
   simp only [go_sem] at e0 e4
   simp only [go_sem]
   exact look _ S' hl e0 e4
  | some r =>
   simp only [go_sem]
   refine wc_ite (b := false) (by simp only [go_sem] <;> rfl) (fun h => by cases h) (fun _ => ?_)
   simp only [go_sem]
   exact look _ S1 (G1 (by simp)) (by simp only [go_sem]) (by simp only [go_sem])
 have n7 := of_decide_eq_false hc
 clear hc
 have hk8 : a.kind % 9 = 8 := by omega
 rw [decide_eq_true hk8] at q8
 simp only [go_sem, q8]
 refine wc_ite (b := true) (by simp only [go_sem] <;> rfl) (fun _ => ?_) (fun h => by cases h)
 refine G.k8 hk8 _ _ (by simp only [go_sem]) (by simp only [go_sem]) (by simp only [go_sem]) fun fr' S' q => ?_
 simp only [go_sem]
 exact q
end Go.VM
namespace Go.VM
open Go Go.RowKit Go.Proofs
def ActR (c : List V) (q : AC × List Int) : Prop := ∃ vd kt, c = q.1.v vd (intsV q.2 kt) ∧ IsBytes vd q.1.data ∧ (kt = .nil → q.2 = [])
structure SafeI (w0 : World) (n : Nat) (script : List (AC × List Int)) (most : Nat) (I : Nat → St → WP → Prop) : Prop where
 begin_ : ∀ (S : St) (Q : AEnd → St → Prop), (∀ S' B, I 0 S' B → Q (.ret (.ptr (some (B.w, 0)))) S') → RSim Try.prog w0 n_l15_begin [.int .i64 (n : Nat)] S Q
 step : ∀ (j : Nat) (q : AC × List Int) (S : St) (B : WP) (vd : V) (kt : Tok) (Q : AEnd → St → Prop), j < most → script[j]? = some q → IsBytes vd q.1.data → (kt = .nil → q.2 = []) → I j S B → (∀ S' B', B'.w = B.w → I (j + 1) S' B' → Q (.ret (.tup [])) S') →
  RSim Try.prog w0 n_l15_world_act [.ptr (some (B.w, 0)), .agg (q.1.v vd (intsV q.2 kt))] S Q
 good : ∀ j S B, I j S B → ∃ W : WB, S.cells B.w = some (W.cells B) ∧ W.bad = false
theorem raftSafe_runs {w0 : World} {S : St} {Q : AEnd → St → Prop} {nodes : Nat} {v : V} {t : Tok} {script : List (AC × List Int)} {I : Nat → St → WP → Prop} (hnd : nodes < 256) (hs : IsSlice ActR 6 v script t) (hsl : script.length ≤ 10000000000000)
  (haw : ∀ Q' : AEnd → St → Prop, (∀ S', Q' (.ret (.bool true)) S') → RSim Try.prog w0 n_l15_awake [] S Q') (hI : SafeI w0 (1 + nodes % 5) script 400 I) (hQ : ∀ S', Q (.ret (.bool true)) S') :
  RSim Try.prog w0 n_l15_RaftSafe [.int .u8 (nodes : Nat), v] S Q := by
 obtain ⟨cs, rfl⟩ := hs.len
 have hat := fun {j : Nat} {q : AC × List Int} (hq : script[j]? = some q) => hs.at_ hq
 have cv : ∀ S, V.conv S (.int .i64) (.int .u8 (nodes : Int)) = some (.int .i64 (nodes : Int)) := fun S => by simp only [V.conv]; rw [w64 (by omega) (by omega)]
 have tm : (nodes : Int).tmod 5 = ((nodes % 5 : Nat) : Int) := rfl
 have w1 : IntKind.i64.wrap ((nodes % 5 : Nat) : Int) = ((nodes % 5 : Nat) : Int) := by rw [w64 (by omega) (by omega)]
 have w2 : IntKind.i64.wrap (1 + ((nodes % 5 : Nat) : Int)) = ((1 + nodes % 5 : Nat) : Int) := by rw [w64 (by omega) (by omega)]; omega
 refine RSim.run mixed k_l15_RaftSafe ?_ (by simp)
 simp only [b_l15_RaftSafe, go_sem]
 refine wi_call ?_
 simp only [go_sem]
 refine haw _ fun S1 => ?_
 simp only [go_sem]
 refine wc_ite (b := false) (by simp only [go_sem] <;> rfl) (fun h => by cases h) (fun _ => ?_)
 simp only [go_sem, cv, tm, w1, w2]
 refine wi_call ?_
 simp only [go_sem]
 refine hI.begin_ S1 _ fun S2 B h0 => ?_
 simp only [go_sem]
 have fin : ∀ (fr : Fr) (j : Nat) (Sa : St) (Ba : WP), I j Sa Ba → fr 5 = .ptr (some (Ba.w, 0)) → wCode (RSim Try.prog w0) (.seq (.reg [] [.run ⟨(some 39), none, .f (.mv (.t 5))⟩, .run ⟨(some 40), none, .f (.nilCheck (.t 39))⟩, .run ⟨(some 41), none, .f (.fieldAddr 11 (.t 40))⟩, .run ⟨(some 42), none, .f (.load false 1 (.t 41))⟩, .run ⟨(some 43), none, .f (.un .not (.t 42))⟩, .run ⟨(some 4), none, .f (.mv (.t 43))⟩]) .ret) fr Sa (resQ [.tmp 4] Q) := by
  intro fr j Sa Ba hIj f5
  obtain ⟨W, hc, hb⟩ := hI.good j Sa Ba hIj
  unfold WB.cells at hc
  rw [hb] at hc
  simp only [go_sem, f5, hc]
  exact hQ Sa
 refine loop_rule RSim.le (k := script.length) (fun q fr Sa => ∃ (j : Nat) (Ba : WP), q = script.length - j ∧ j ≤ script.length ∧ j ≤ 400 ∧ fr 1 = .sl cs script.length 6 t ∧ fr 5 = .ptr (some (Ba.w, 0)) ∧ fr 6 = .int .i64 (j : Nat) ∧ I j Sa Ba) ?_
  ⟨0, B, rfl, Nat.zero_le _, Nat.zero_le _, by simp only [go_sem], by simp only [go_sem], by simp only [go_sem]; rfl, h0⟩
 rintro q fr Sa ⟨j, Ba, hq, hj, h4, f1, f5, f6, hIj⟩
 obtain ⟨W, hc, hb⟩ := hI.good j Sa Ba hIj
 unfold WB.cells at hc
 rw [hb] at hc
 have p1 : decide ((j : Int) < (script.length : Int)) = decide (j < script.length) := decide_eq_decide.mpr (by omega)
 have p2 : decide ((j : Int) < 400) = decide (j < 400) := decide_eq_decide.mpr (by omega)
 cases b1 : decide (j < script.length)
 ·rw [b1] at p1
  simp only [l_l15_RaftSafe_0, go_sem, f1, f6, p1]
  refine wc_ite (b := false) (by simp only [go_sem] <;> rfl) (fun h => by cases h) (fun _ => ?_)
  simp only [go_sem]
  exact fin _ j Sa Ba hIj (by simp only [go_sem, f5])
 rw [b1] at p1
 have hlt := of_decide_eq_true b1
 cases b2 : decide (j < 400)
 ·rw [b2] at p2
  simp only [l_l15_RaftSafe_0, go_sem, f1, f6, p1, p2]
  refine wc_ite (b := false) (by simp only [go_sem] <;> rfl) (fun h => by cases h) (fun _ => ?_)
  simp only [go_sem]
  exact fin _ j Sa Ba hIj (by simp only [go_sem, f5])
 rw [b2] at p2
 have hlt4 := of_decide_eq_true b2
 have w3 : IntKind.i64.wrap ((j : Int) + 1) = ((j + 1 : Nat) : Int) := by rw [w64 (by omega) (by omega)]; omega
 obtain ⟨x, hx⟩ : ∃ x, script[j]? = some x := ⟨_, List.getElem?_eq_getElem hlt⟩
 obtain ⟨cs', c, e1, hne, hjl, ht, hcl, hc2, vd, kt, hcc, hvd, hkt⟩ := hat hx
 injection e1 with e1 _
 subst e1
 have hjt : (j < script.length) = True := eq_true hlt
 have htn : (t = .nil) = False := eq_false hne
 simp only [l_l15_RaftSafe_0, go_sem, f1, f5, f6, p1, p2, hc]
 refine wc_ite (b := true) (by simp only [go_sem] <;> rfl) (fun _ => ?_) (fun h => by cases h)
 simp only [go_sem, f1, f5, f6, hjt, htn, ht]
 refine wi_call ?_
 simp only [go_sem]
 rw [hcc]
 refine hI.step j x Sa Ba vd kt _ hlt4 hx hvd hkt hIj fun S' B' hw h' => ?_
 simp only [go_sem, f6, w3]
 exact ⟨script.length - (j + 1), by omega, j + 1, B', rfl, by omega, by omega, f1, by rw [hw]; exact f5, rfl, h'⟩
end Go.VM
