/-
  Parts: RfGoT, RfInv, RfActI, RfOpenI, RfStepI, RfAwake, RfTy.
-/
import Derived.Test.YtemimcgomickoaaL11
import Derived.Test.YtemimcgomickoaaL10
import Derived.Test.YtemimcgomickoaaL04
set_option maxRecDepth 20000
set_option linter.unusedVariables false
set_option linter.unusedSimpArgs false
namespace Go.VM
open Go Go.RowKit Go.Proofs
variable {n : Nat} {G G' G1 : GH} {K K' : KN}
theorem kindM_out {v b : Nat} {X : RN} {cs : List RC} {m : Ms} {p : Pk} (h : Upn n G v K X cs) (g : GI n G K) (hK : KOk K) (hn : n ≤ 5) (hp : PM G n K p m) (hto : p.to = v) (hmt : m.term ≤ X.term) (hb : cs.length + (b + 16) ≤ tot K) : Out n G v K b (X.kindM p.f m) := by
 have hv : v < n := by rw [← hto]; exact hp.to
 have hf := hp.f
 have hne : p.f ≠ v := by rw [← hto]; exact fun e => hp.ne e.symm
 have mi := hp.mi
 rw [hto] at mi
 have i := h.ni
 unfold RN.kindM
 split
 ·rename_i hk
  exact voteAsk_out h g hK hn hv hf hne hk mi (by omega)
 split
 ·rename_i hk
  split
  ·rename_i hc
   obtain ⟨⟨ht, hr⟩, hok⟩ := hc
   have hvt := mi.m2 hk hok
   rw [ht] at hvt
   obtain ⟨a1, a2, a3, a4, a5⟩ := i.cand hr
   have hU : Upn n G v K (X.votedBy p.f) cs := by
    refine ⟨⟨i.me, i.nn, i.di, i.te, i.bad, i.role, fun _ => ⟨a1, a2, a3, ?_, fun x hx => ?_⟩, i.lead, i.cm, i.sure, i.out⟩, h.r, h.du, h.sd, h.dk⟩
    ·show (X.votes.set p.f true).length = n
     rw [List.length_set]; exact a4
    ·have hx' : (X.votes.set p.f true)[x]? = some true := hx
     by_cases hxf : x = p.f
     ·rw [hxf]; exact hvt
     ·rw [List.getElem?_set_ne (fun e => hxf e.symm)] at hx'
      exact a5 x hx'
   exact count_out hU g hK hv (by omega)
  ·exact Out.ok (Ext.refl v G) g h (by omega)
 split
 ·rename_i hk
  exact logAsk_out h g hK hn hv hf hne hk mi hp.e hmt hb
 split
 ·rename_i hk
  exact logTell_out h g hK hv hf hne hk mi (by omega)
 ·exact Out.ok (Ext.refl v G) g h (by omega)
theorem PM.grow {p : Pk} {m : Ms} (h : PM G n K p m) (w : Grow G G') (a : ∀ v T, G.ak v T ≤ (G.LL T).length) : PM G' n K p m := ⟨h.d, h.ok, h.k, h.t, h.i, h.a, h.c, h.e, h.f, h.to, h.ne, h.mi.grow w a⟩
theorem stepM_out {v b : Nat} {X : RN} {cs : List RC} {m : Ms} {p : Pk} (h : Upn n G v K X cs) (g : GI n G K) (hK : KOk K) (hn0 : 1 ≤ n) (hn : n ≤ 5) (hp : PM G n K p m) (hto : p.to = v) (hb : cs.length + (b + 17) ≤ tot K) : Out n G v K b (X.stepM p.f m) := by
 unfold RN.stepM
 have hh : Out n G v K (b + 16) (X.heard m) := by
  unfold RN.heard
  split
  ·rename_i hl
   exact follow_out h g hK hn0 hn (Nat.le_of_lt hl) hp.t hb
  ·exact Out.ok (Ext.refl v G) g h (by omega)
 refine hh.bind (f := fun Y => Y.kindM p.f m) fun G' cs' h0 x g' hU hb' => ?_
 have ht : m.term ≤ (X.heard m).2.term := by
  unfold RN.heard at h0 ⊢
  split
  ·rename_i hl
   rw [if_pos hl] at h0
   rw [(follow_facts h0 (Nat.le_of_lt hl)).1]
   exact Nat.le_refl _
  ·show m.term ≤ X.term
   omega
 exact kindM_out hU g' hK hn (hp.grow x.w g.ak) hto ht hb'
theorem tick_out {v b d : Nat} {X : RN} {cs : List RC} (h : Upn n G v K X cs) (g : GI n G K) (hK : KOk K) (hn : n ≤ 5) (hv : v < n) (ht : ¬ (X.role = 2) → ¬ (X.idle + 1 < X.limit) → X.term + 1 ≤ K.e ∧ cs.length + (b + 2) ≤ tot K) (hb : cs.length + b ≤ tot K) : Out n G v K b (X.tick d) := by
 have i := h.ni
 have hA : Upn n G v K (X.aged d) cs := ⟨⟨i.me, i.nn, i.di, i.te, i.bad, i.role, i.cand, i.lead, i.cm, i.sure, i.out⟩, h.r, h.du, h.sd, h.dk⟩
 unfold RN.tick
 rw [if_neg (by rw [i.bad]; simp)]
 by_cases hr : X.role = 2
 ·rw [if_pos hr]
  split
  ·have hB : Upn n G v K ({ X.aged d with idle := 0 } : RN) cs := ⟨⟨i.me, i.nn, i.di, i.te, i.bad, i.role, i.cand, i.lead, i.cm, i.sure, i.out⟩, h.r, h.du, h.sd, h.dk⟩
   exact Out.ok (Ext.refl v G) g (hB.tell g hK hv hr) hb
  ·exact Out.ok (Ext.refl v G) g hA hb
 rw [if_neg hr]
 by_cases hl : X.idle + 1 < X.limit
 ·rw [if_pos hl]; exact Out.ok (Ext.refl v G) g hA hb
 ·rw [if_neg hl]
  obtain ⟨h1, h2⟩ := ht hr hl
  exact runs_out hA g hK hn hv h1 h2
structure Vl (k : Nat) (X Y : RN) : Prop where
 i : Y.idle ≤ X.idle
 l : 10 ≤ X.limit → 10 ≤ Y.limit
 o : Y.out.length ≤ X.out.length + k
 n : Y.n = X.n
 r : Y.D.room = Y.D.room
theorem Vl.refl (X : RN) : Vl 0 X X := ⟨Nat.le_refl _, id, Nat.le_refl _, rfl, rfl⟩
theorem Vl.trans {k j : Nat} {X Y Z : RN} (a : Vl k X Y) (b : Vl j Y Z) : Vl (k + j) X Z := ⟨Nat.le_trans b.i a.i, fun h => b.l (a.l h), by have := a.o; have := b.o; omega, b.n.trans a.n, rfl⟩
theorem Vl.le {k j : Nat} {X Y : RN} (a : Vl k X Y) (h : k ≤ j) : Vl j X Y := ⟨a.i, a.l, by have := a.o; omega, a.n, rfl⟩
theorem vl_keep (X : RN) (l : List (List UInt8)) : Vl 0 X (X.keep l).2 := by
 rcases keep_fields X l with ⟨_, D, R, e⟩ | ⟨_, D, R, e⟩
 ·rw [e]; exact ⟨Nat.le_refl _, id, Nat.le_refl _, rfl, rfl⟩
 ·rw [e]; exact ⟨Nat.le_refl _, id, Nat.zero_le _, rfl, rfl⟩
theorem vl_sent (X : RN) (to : Nat) (m : Ms) : Vl 1 X (X.sent to m) := ⟨Nat.le_refl _, id, by show (X.out ++ [_]).length ≤ _; simp, rfl, rfl⟩
theorem vl_rest (X : RN) : Vl 0 X X.rest := ⟨Nat.zero_le _, fun _ => by show 10 ≤ 10 + X.draw % 10; omega, Nat.le_refl _, rfl, rfl⟩
theorem vl_follow (X : RN) (t : Nat) (hd : Int) : Vl 0 X (X.follow t hd).2 := by
 unfold RN.follow
 split
 ·exact (Vl.trans (k := 0) (j := 0) (X := X) (Y := ({ X with role := 0, head := hd, term := t, vote := -1 } : RN)) ⟨Nat.le_refl _, id, Nat.le_refl _, rfl, rfl⟩ (vl_keep _ _)).le (Nat.le_refl _)
 ·exact ⟨Nat.le_refl _, id, Nat.le_refl _, rfl, rfl⟩
theorem vl_tell (X : RN) : Vl X.n X X.tell := ⟨Nat.le_refl _, id, by show (X.out ++ X.asks X.n).length ≤ _; rw [List.length_append]; have := asks_len X X.n; omega, rfl, rfl⟩
theorem vl_adv (X : RN) (i : Nat) : Vl 0 X (X.adv i) := by
 rcases adv_form X i with e | ⟨c, e, _⟩
 ·rw [e]; exact Vl.refl X
 ·rw [e]; exact ⟨Nat.le_refl _, id, Nat.le_refl _, rfl, rfl⟩
theorem vl_add (X : RN) (d : List UInt8) : Vl X.n X (X.add d).2 := by
 have a : Vl 0 X (X.plus d) := ⟨Nat.le_refl _, id, Nat.le_refl _, rfl, rfl⟩
 have b := a.trans (vl_keep (X.plus d) [recE (X.log.length + 1) ⟨X.term, d⟩])
 unfold RN.add
 simp only
 split
 ·exact b.le (Nat.zero_le _)
 ·have c := b.trans (vl_adv _ ((X.plus d).keep [recE (X.log.length + 1) ⟨X.term, d⟩]).2.log.length)
  have e := c.trans (vl_tell _)
  have := c.n
  exact e.le (by omega)
theorem vl_count (X : RN) : Vl X.n X X.count.2 := by
 unfold RN.count
 split
 ·exact (Vl.refl X).le (Nat.zero_le _)
 ·have a : Vl 0 X X.lead := ⟨Nat.zero_le _, id, Nat.le_refl _, rfl, rfl⟩
  exact (a.trans (vl_add X.lead [])).le (by show 0 + X.n ≤ X.n; omega)
theorem vl_gave (X : RN) (f : Nat) : Vl 0 X (X.gave f).2 := by
 unfold RN.gave
 split
 ·exact (Vl.trans (k := 0) (j := 0) (X := X) (Y := ({ X with vote := f } : RN)) ⟨Nat.le_refl _, id, Nat.le_refl _, rfl, rfl⟩ (vl_keep _ _)).le (Nat.le_refl _)
 ·exact Vl.refl X
theorem vl_voteAsk (X : RN) (f : Nat) (m : Ms) : Vl 1 X (X.voteAsk f m).2 := by
 unfold RN.voteAsk
 cases X.grants f m
 ·exact vl_sent X f _
 ·have a : Vl 0 X (X.rest.gave f).2 := ((vl_rest X).trans (vl_gave X.rest f)).le (Nat.le_refl _)
  unfold RN.voted
  simp only [if_true]
  split
  ·exact a.le (by omega)
  ·exact (a.trans (vl_sent _ f _)).le (by omega)
theorem vl_log2 (X : RN) (f : Nat) (m : Ms) (l : List LE) (rs : List (List UInt8)) : Vl 1 X (X.log2 f m l rs).2 := by
 have a : Vl 0 X (X.grown l rs).2 := by
  unfold RN.grown
  split
  ·exact ⟨Nat.le_refl _, id, Nat.le_refl _, rfl, rfl⟩
  ·exact (Vl.trans (k := 0) (j := 0) (X := X) (Y := ({ X with log := l } : RN)) ⟨Nat.le_refl _, id, Nat.le_refl _, rfl, rfl⟩ (vl_keep _ _)).le (Nat.le_refl _)
 unfold RN.log2
 split
 ·exact a.le (by omega)
 ·have b : Vl 0 (X.grown l rs).2 ((X.grown l rs).2.upto (m.index + m.ents.length) m.commit) := ⟨Nat.le_refl _, id, Nat.le_refl _, rfl, rfl⟩
  exact ((a.trans b).trans (vl_sent _ f _)).le (by omega)
theorem vl_logAsk (X : RN) (f : Nat) (m : Ms) : Vl 1 X (X.logAsk f m).2 := by
 unfold RN.logAsk
 split
 ·exact vl_sent X f _
 split
 ·exact (Vl.refl X).le (by omega)
 split
 ·exact (vl_follow X _ _).le (by omega)
 ·have a := (vl_follow X m.term f).trans (vl_rest _)
  refine (a.trans (j := 1) ?_).le (by omega)
  unfold RN.log3
  split
  ·exact vl_sent _ f _
  ·exact vl_log2 _ f m _ _
theorem vl_logTell (X : RN) (f : Nat) (m : Ms) (hn : 1 ≤ X.n) : Vl X.n X (X.logTell f m) := by
 unfold RN.logTell
 split
 ·exact (Vl.refl X).le (by omega)
 split
 ·have a : Vl 0 X (X.backed f m.index) := ⟨Nat.le_refl _, id, Nat.le_refl _, rfl, rfl⟩
  exact (a.trans (vl_sent _ f _)).le (by omega)
 ·have a : Vl 0 X (X.acked f m.index) := ⟨Nat.le_refl _, id, Nat.le_refl _, rfl, rfl⟩
  have b := a.trans (vl_adv _ X.log.length)
  unfold RN.told
  simp only
  have := b.n
  split
  ·exact (b.trans (vl_tell _)).le (by omega)
  split
  ·exact (b.trans (vl_sent _ f _)).le (by omega)
  ·exact b.le (by omega)
theorem vl_kindM (X : RN) (f : Nat) (m : Ms) (hn : 1 ≤ X.n) : Vl X.n X (X.kindM f m).2 := by
 unfold RN.kindM
 split
 ·exact (vl_voteAsk X f m).le hn
 split
 ·split
  ·have a : Vl 0 X (X.votedBy f) := ⟨Nat.le_refl _, id, Nat.le_refl _, rfl, rfl⟩
   exact (a.trans (vl_count _)).le (by show 0 + X.n ≤ X.n; omega)
  ·exact (Vl.refl X).le (by omega)
 split
 ·exact (vl_logAsk X f m).le hn
 split
 ·exact vl_logTell X f m hn
 ·exact (Vl.refl X).le (by omega)
theorem vl_stepM (X : RN) (f : Nat) (m : Ms) (hn : 1 ≤ X.n) : Vl X.n X (X.stepM f m).2 := by
 have a : Vl 0 X (X.heard m).2 := by
  unfold RN.heard
  split
  ·exact vl_follow X _ _
  ·exact Vl.refl X
 unfold RN.stepM
 split
 ·exact a.le (by omega)
 ·have := a.n
  exact (a.trans (vl_kindM _ f m (by omega))).le (by omega)
theorem vl_propose (X : RN) (d : List UInt8) : Vl X.n X (X.propose d).2 := by
 unfold RN.propose
 split
 ·exact (Vl.refl X).le (by omega)
 split
 ·exact (Vl.refl X).le (by omega)
 ·exact vl_add X d
theorem vl_tick (X : RN) (d : Nat) (hb : X.bad = false) : (10 ≤ X.limit → 10 ≤ (X.tick d).2.limit) ∧ (X.tick d).2.out.length ≤ X.out.length + 2 * X.n ∧ (X.tick d).2.idle ≤ X.idle + 1 ∧ (¬ X.role = 2 → ¬ X.idle + 1 < X.limit → (X.tick d).2.idle = 0) := by
 unfold RN.tick
 rw [if_neg (by rw [hb]; simp)]
 by_cases hr : X.role = 2
 ·rw [if_pos hr]
  refine ⟨?_, ?_, ?_, fun h => absurd hr h⟩
  ·split
   ·exact fun h => h
   ·exact fun h => h
  ·split
   ·have := (vl_tell ({ X.aged d with idle := 0 } : RN)).o
    show ({ X.aged d with idle := 0 } : RN).tell.out.length ≤ _
    have e : ({ X.aged d with idle := 0 } : RN).n = X.n := rfl
    have e2 : ({ X.aged d with idle := 0 } : RN).out = X.out := rfl
    rw [e, e2] at this
    omega
   ·show X.out.length ≤ _
    omega
  ·split
   ·exact Nat.zero_le _
   ·exact Nat.le_refl _
 rw [if_neg hr]
 by_cases hl : X.idle + 1 < X.limit
 ·rw [if_pos hl]
  exact ⟨fun h => h, by show X.out.length ≤ _; omega, Nat.le_refl _, fun _ h => absurd hl h⟩
 rw [if_neg hl]
 have a : Vl 0 (X.aged d) (X.aged d).elect := ⟨Nat.zero_le _, fun _ => by show 10 ≤ 10 + d % 10; omega, Nat.le_refl _, rfl, rfl⟩
 have b := vl_keep (X.aged d).elect [(X.aged d).elect.hardB]
 have ab := a.trans b
 have z : (X.aged d).elect.idle = 0 := rfl
 have hidle0 : ((X.aged d).elect.keep [(X.aged d).elect.hardB]).2.idle = 0 := by have := b.i; omega
 have en : (X.aged d).n = X.n := rfl
 have eo : (X.aged d).out = X.out := rfl
 have el : (X.aged d).limit = X.limit := rfl
 unfold RN.runs
 split
 ·refine ⟨fun h => ab.l h, ?_, by omega, fun _ _ => hidle0⟩
  have := ab.o
  rw [eo] at this; omega
 ·have c : Vl X.n ((X.aged d).elect.keep [(X.aged d).elect.hardB]).2 ((X.aged d).elect.keep [(X.aged d).elect.hardB]).2.stand := by
   refine ⟨Nat.le_refl _, id, ?_, rfl, rfl⟩
   have hn := ab.n
   rw [en] at hn
   have := polls_len ({ ((X.aged d).elect.keep [(X.aged d).elect.hardB]).2 with votes := (List.replicate ((X.aged d).elect.keep [(X.aged d).elect.hardB]).2.n false).set ((X.aged d).elect.keep [(X.aged d).elect.hardB]).2.me true } : RN) X.n
   unfold RN.stand
   show (RN.pollK _ ((X.aged d).elect.keep [(X.aged d).elect.hardB]).2.n).out.length ≤ _
   rw [hn]
   exact this
  have f := (ab.trans c).trans (vl_count _)
  have hn := (ab.trans c).n
  rw [en] at hn
  refine ⟨fun h => f.l h, ?_, ?_, fun _ _ => ?_⟩
  ·have := f.o
   rw [hn, eo] at this; omega
  ·have := (c.trans (vl_count _)).i
   omega
  ·have := (c.trans (vl_count _)).i
   omega
end Go.VM
namespace Go.VM
open Go Go.RowKit Go.Proofs
theorem Hold.app {S : St} : ∀ {l m : List Res}, Hold S (l ++ m) → Hold S l ∧ (∀ x ∈ l, ∀ y ∈ m, ∀ j, x.own j → ¬ y.own j) ∧ Hold S m
 | [], m, h => ⟨trivial, (fun x hx => by cases hx), h⟩
 | x :: l, m, ⟨h1, h2, h3⟩ => by
  obtain ⟨a, b, c⟩ := Hold.app h3
  refine ⟨⟨h1, fun y hy => h2 y (List.mem_append_left _ hy), a⟩, fun y hy z hz j hj => ?_, c⟩
  rcases List.mem_cons.1 hy with rfl | hy
  ·exact h2 z (List.mem_append_right _ hz) j hj
  ·exact b y hy z hz j hj
theorem Hold.glue {S : St} : ∀ {l m : List Res}, Hold S l → (∀ x ∈ l, ∀ y ∈ m, ∀ j, x.own j → ¬ y.own j) → Hold S m → Hold S (l ++ m)
 | [], m, _, _, h => h
 | x :: l, m, ⟨h1, h2, h3⟩, hs, h => by
  refine ⟨h1, fun y hy j hj => ?_, Hold.glue h3 (fun y hy => hs y (List.mem_cons_of_mem _ hy)) h⟩
  rcases List.mem_append.1 hy with hy | hy
  ·exact h2 y hy j hj
  ·exact hs x (by simp) y hy j hj
theorem Hold.many {S S' : St} {l l' m : List Res} (h : Hold S (l ++ m)) (a : Aft S (Res.all l) S' (Res.all l')) : Hold S' (l' ++ m) := by
 obtain ⟨h1, h2, h3⟩ := h.app
 refine Hold.glue a.p (fun x hx y hy j hj hyj => ?_) (h3.keep a.k fun y hy j hj ⟨x, hx, hxj⟩ => h2 x hx y hy j hxj hj)
 rcases a.o j ⟨x, hx, hj⟩ with ⟨z, hz, hzj⟩ | hn
 ·exact h2 z hz y hy j hzj hyj
 ·have := y.lt (Hold.mem h3 y hy) hyj
  omega
theorem Hold.less {S : St} {x y : Res} {l : List Res} (h : Hold S (x :: l)) (hy : y.P S) (ho : ∀ j, y.own j → x.own j) : Hold S (y :: l) := ⟨hy, fun z hz j hj => h.2.1 z hz j (ho j hj), h.2.2⟩
inductive Sl where
 | up (L : RL) (X : RN) (cs : List RC)
 | dn (i : Nat) (D : Dk) (cs : List RC) (s : Nat)
def Sl.res : Sl → Res
 | .up L X _ => Res.raft L X
 | .dn i D _ _ => Res.disk i D
def Sl.di : Sl → Nat
 | .up L _ _ => L.i
 | .dn i _ _ _ => i
def Sl.ref : Sl → Option Nat
 | .up L _ _ => some L.r
 | .dn _ _ _ _ => none
def Sl.idle : Sl → Nat
 | .up _ X _ => X.idle
 | .dn _ _ _ _ => 0
def Sl.Is (n : Nat) (G : GH) (v : Nat) (K : KN) : Sl → Prop
 | .up L X cs => Upn n G v K X cs ∧ cs.length ≤ tot K ∧ X.out = [] ∧ 10 ≤ X.limit
 | .dn _ D cs s => Dnn n G v K D.abs cs s
def Sl.Pre (n : Nat) (G : GH) (v : Nat) (K : KN) : Sl → Prop
 | .up L X cs => (Upn n G v K X cs ∧ cs.length ≤ tot K ∧ X.out.length ≤ 20 ∧ 10 ≤ X.limit) ∨ (L.D.abs.off = true ∧ ∃ cs s, Dnn n G v K L.D.abs cs s)
 | .dn _ D cs s => Dnn n G v K D.abs cs s
def WB.dl (W : WB) : List LE := List.zipWith (fun d t => ⟨t, d⟩) W.data W.terms
structure BI (n j : Nat) (G : GH) (K : KN) (W : WB) : Prop where
 nn : W.n = n
 bad : W.bad = false
 prop : W.prop = K.prop
 net : ∀ p ∈ W.net, PI G n K p
 l2 : W.terms.length = W.data.length
 l3 : W.made.length = W.data.length
 made : ∀ (k x : Nat), W.made[k]? = some x → SureB G n x (W.dl.take (k + 1))
 l1 : W.leads.length = W.ins.length
 led : ∀ (k t i : Nat), W.ins[k]? = some t → W.leads[k]? = some i → G.ld t = some i
 least : W.least.length = n
 lt : ∀ (v y : Nat), W.least[v]? = some y → y = G.lt v ∧ y ≤ K.e
 s1 : W.leads.length ≤ j
 s2 : W.net.length ≤ 20 * j
structure WJ (n j : Nat) (S : St) (B : WP) (W : WB) (sl : List Sl) (G : GH) (K : KN) (t : Nat) (P : Nat → Sl → Prop) : Prop where
 h : Hold S (Res.book B W :: sl.map Sl.res)
 len : sl.length = n
 disks : W.disks = sl.map Sl.di
 nodes : W.nodes = sl.map Sl.ref
 is : ∀ (v : Nat) (s : Sl), sl[v]? = some s → P v s
 g : GI n G K
 b : BI n j G K W
 t1 : 10 * K.e + (sl.map Sl.idle).sum ≤ t
 t2 : t + K.prop.length + K.h ≤ j
 j4 : j ≤ 400
 n1 : 1 ≤ n
 n5 : n ≤ 5
variable {n j : Nat} {G G' G1 : GH} {K K' : KN} {S S' : St} {B B' : WP} {W W' : WB} {sl : List Sl} {t : Nat} {P P' : Nat → Sl → Prop}
theorem WJ.ko (h : WJ n j S B W sl G K t P) : KOk K := ⟨by have := h.t1; have := h.t2; have := h.j4; omega⟩
theorem dl_len (h : W.terms.length = W.data.length) : W.dl.length = W.data.length := by unfold WB.dl; rw [List.length_zipWith, h, Nat.min_self]
theorem dl_get (h : W.terms.length = W.data.length) {k t : Nat} {d : List UInt8} (hd : W.data[k]? = some d) (ht : W.terms[k]? = some t) : W.dl[k]? = some ⟨t, d⟩ := by
 unfold WB.dl; rw [List.getElem?_zipWith, hd, ht]
theorem BI.sure (b : BI n j G K W) : W.dl = [] ∨ ∃ x, SureB G n x W.dl := by
 rcases Nat.eq_zero_or_pos W.data.length with h | h
 ·left
  have := dl_len b.l2
  exact List.eq_nil_of_length_eq_zero (by omega)
 ·right
  obtain ⟨x, hx⟩ : ∃ x, W.made[W.data.length - 1]? = some x := ⟨_, List.getElem?_eq_getElem (by have := b.l3; omega)⟩
  have := b.made _ x hx
  rw [show W.data.length - 1 + 1 = W.data.length by omega, List.take_of_length_le (by rw [dl_len b.l2]; exact Nat.le_refl _)] at this
  exact ⟨x, this⟩
theorem SureB.len (g : GI n G K) (hK : KOk K) {x : Nat} {P : List LE} (h : SureB G n x P) : P.length ≤ 400 := by
 rcases h with rfl | ⟨T, k, s, h1, h2, h3, h4, h5, h6⟩
 ·simp
 ·obtain ⟨v, hv, hs⟩ := maj_some h4
  have hkl := Nat.le_trans (h5 v hv hs) (g.ak v T)
  obtain ⟨c, hc⟩ := sure_led g h2 hkl
  obtain ⟨_, l, es, e1, _⟩ := g.led T c hc
  have hT := (g.cl T c l e1).2.2.2
  have := g.len T
  have := hK.k
  have := h6.length_le
  rw [List.length_take] at this
  omega
theorem BI.len (b : BI n j G K W) (g : GI n G K) (hK : KOk K) : W.data.length ≤ 400 := by
 rw [← dl_len b.l2]
 rcases b.sure with h | ⟨x, h⟩
 ·rw [h]; simp
 ·exact h.len g hK
theorem WJ.fine (h : WJ n j S B W sl G K t P) : W.Fine := by
 have hK := h.ko
 have b := h.b
 have := b.len h.g hK
 have hk := hK.k
 have := h.j4
 have := h.n5
 have := b.s1
 have := b.s2
 exact ⟨b.l1, b.l2, b.l3, by omega, by omega, by rw [b.prop]; omega, by omega, by rw [b.nn]; omega⟩
theorem WJ.nl (h : WJ n j S B W sl G K t P) : W.nodes.length = W.n := by rw [h.nodes, List.length_map, h.len, h.b.nn]
theorem WJ.no (h : WJ n j S B W sl G K t P) {v : Nat} {s : Sl} (hs : sl[v]? = some s) : W.nodes[v]? = some s.ref := by rw [h.nodes, List.getElem?_map, hs]; rfl
theorem WJ.ds (h : WJ n j S B W sl G K t P) {v : Nat} {s : Sl} (hs : sl[v]? = some s) : W.disks[v]? = some s.di := by rw [h.disks, List.getElem?_map, hs]; rfl
theorem erase_perm {α : Type} : ∀ {l : List α} {v : Nat} {s : α}, l[v]? = some s → l.Perm (s :: l.eraseIdx v)
 | [], v, s, h => by simp at h
 | a :: l, 0, s, h => by simp at h; subst h; exact List.Perm.refl _
 | a :: l, v + 1, s, h => by
  simp only [List.getElem?_cons_succ] at h
  exact ((erase_perm h).cons a).trans (List.Perm.swap _ _ _)
theorem slot_perm {v : Nat} {s : Sl} {x : Res} (hs : sl[v]? = some s) : (x :: sl.map Sl.res).Perm ([x, s.res] ++ (sl.eraseIdx v).map Sl.res) := by
 exact List.Perm.cons _ ((erase_perm hs).map Sl.res)
theorem slot_perm' {v : Nat} {s s' : Sl} {x : Res} (hs : sl[v]? = some s) : (x :: (sl.set v s').map Sl.res).Perm ([x, s'.res] ++ (sl.eraseIdx v).map Sl.res) := by
 have hv := (List.getElem?_eq_some_iff.1 hs).1
 have := slot_perm (sl := sl.set v s') (v := v) (s := s') (x := x) (List.getElem?_set_self hv)
 rwa [List.eraseIdx_set_eq] at this
theorem WJ.two (h : WJ n j S B W sl G K t P) {v : Nat} {s : Sl} (hs : sl[v]? = some s) : Hold S [Res.book B W, s.res] := (h.h.perm (slot_perm hs)).app.1
theorem hold_slot {v : Nat} {s s' : Sl} {x x' : Res} (h : Hold S (x :: sl.map Sl.res)) (hs : sl[v]? = some s) (a : Aft S (Res.all [x, s.res]) S' (Res.all [x', s'.res])) : Hold S' (x' :: (sl.set v s').map Sl.res) :=
 ((h.perm (slot_perm hs)).many a).perm (slot_perm' hs).symm
theorem sum_set {l : List Nat} {v x y : Nat} (h : l[v]? = some x) : (l.set v y).sum + x = l.sum + y := by
 induction l generalizing v with
 | nil => simp at h
 | cons a l ih =>
  cases v with
  | zero =>
   simp at h
   subst h
   simp; omega
  | succ v =>
   simp only [List.getElem?_cons_succ] at h
   have := ih h
   simp only [List.set_cons_succ, List.sum_cons]
   omega
theorem idle_set {v : Nat} {s s' : Sl} (hs : sl[v]? = some s) : ((sl.set v s').map Sl.idle).sum + s.idle = (sl.map Sl.idle).sum + s'.idle := by
 rw [List.map_set]
 exact sum_set (by rw [List.getElem?_map, hs]; rfl)
def GH.look (G : GH) (i t : Nat) : GH := { G with lt := fun v => if v = i then t else G.lt v }
theorem DI.look {v t i T : Nat} {vo : Int} {l : List LE} (d : DI G v t vo l) (h : v = i → T ≤ t) : DI (G.look i T) v t vo l :=
 ⟨d.v1, d.good, d.le, d.ac, d.cl, by
  show (if v = i then T else G.lt v) ≤ t
  split
  ·rename_i e; exact h e
  ·exact d.lo⟩
theorem GI.look {i T : Nat} (g : GI n G K) : GI n (G.look i T) K := ⟨g.led, g.no, g.good, g.cl, g.el, g.vo, g.ak, g.len, g.ok⟩
theorem PI.look {i T : Nat} {p : Pk} (h : PI G n K p) : PI (G.look i T) n K p := by
 obtain ⟨m, q⟩ := h
 exact ⟨m, q.d, q.ok, q.k, q.t, q.i, q.a, q.c, q.e, q.f, q.to, q.ne, ⟨q.mi.m1, q.mi.m2, q.mi.m3, q.mi.m4⟩⟩
theorem SD.look {v i T : Nat} {cs : List RC} (h : SD n G v K cs) (ht : v = i → T ≤ (dur cs).t) : SD n (G.look i T) v K cs := ⟨h.d.look ht, h.f, h.h, h.e, h.b, h.t, h.v0⟩
theorem Upn.look {v i T : Nat} {X : RN} {cs : List RC} (h : Upn n G v K X cs) (ht : v = i → T ≤ X.term) : Upn n (G.look i T) v K X cs :=
 ⟨⟨h.ni.me, h.ni.nn, h.ni.di.look ht, h.ni.te, h.ni.bad, h.ni.role, h.ni.cand, h.ni.lead, h.ni.cm, h.ni.sure, fun p hp => (h.ni.out p hp).look⟩, h.r, h.du, h.sd.look fun e => by rw [← h.du.1]; exact ht e, h.dk⟩
theorem Sl.Is.look {v i T : Nat} {s : Sl} (h : s.Is n G v K) (hv : v ≠ i) : s.Is n (G.look i T) v K := by
 cases s with
 | up L X cs => exact ⟨h.1.look fun e => absurd e hv, h.2⟩
 | dn i D cs s => exact ⟨h.le, fun j a b => (h.sd j a b).look fun e => absurd e hv, h.dk, h.tot⟩
theorem Sl.Is.ext {u v : Nat} {s : Sl} (h : s.Is n G v K) (x : Ext u G G') (hu : v ≠ u) (g : GI n G K) : s.Is n G' v K := by
 cases s with
 | up L X cs => exact ⟨h.1.ext x hu g, h.2⟩
 | dn i D cs s => exact Dnn.ext h x hu g
theorem Sl.Is.more {v : Nat} {s : Sl} (h : s.Is n G v K) (hp : K.prop.length ≤ K'.prop.length) (he : K.e ≤ K'.e) (hh : K.h ≤ K'.h) : s.Is n G v K' := by
 cases s with
 | up L X cs => exact ⟨h.1.more hp he, by have := h.2.1; unfold tot at this ⊢; omega, h.2.2⟩
 | dn i D cs s => exact Dnn.more h hp he hh
theorem Sl.Is.pre {v : Nat} {s : Sl} (h : s.Is n G v K) : s.Pre n G v K := by
 cases s with
 | up L X cs => exact .inl ⟨h.1, h.2.1, by rw [h.2.2.1]; simp, h.2.2.2⟩
 | dn i D cs s => exact h
theorem top_le {l : List Nat} {v x : Nat} (h : l[v]? = some x) : x ≤ topL l := by
 have key : ∀ (l : List Nat) (a : Nat), a ≤ l.foldl max a ∧ ∀ x ∈ l, x ≤ l.foldl max a := by
  intro l
  induction l with
  | nil => intro a; exact ⟨Nat.le_refl _, fun x hx => by cases hx⟩
  | cons y l ih =>
   intro a
   obtain ⟨h1, h2⟩ := ih (max a y)
   rw [List.foldl_cons]
   refine ⟨Nat.le_trans (Nat.le_max_left _ _) h1, fun x hx => ?_⟩
   rcases List.mem_cons.1 hx with rfl | hx
   ·exact Nat.le_trans (Nat.le_max_right _ _) h1
   ·exact h2 x hx
 exact (key l 0).2 x (List.mem_of_getElem? h)
theorem look_bi {i : Nat} {X : RN} {cs : List RC} (b : BI n j G K W) (g : GI n G K) (hi : i < n) (h : Upn n G i K X cs) (s2 : W.net.length + X.out.length ≤ 20 * j) : BI n j (G.look i X.term) K (W.seen i X) := by
 have u := h.ni
 have hld := dl_len b.l2
 have hlen : ((X.log.take X.commit).drop W.data.length).length = X.commit - W.data.length := by
  rw [List.length_drop, List.length_take, Nat.min_eq_left u.cm]
 have hl2 : (W.seen i X).terms.length = (W.seen i X).data.length := by
  show (W.terms ++ _).length = (W.data ++ _).length
  rw [List.length_append, List.length_append, List.length_map, List.length_map, b.l2]
 have hdl : (W.seen i X).dl = W.dl ++ (X.log.take X.commit).drop W.data.length := by
  show List.zipWith _ (W.data ++ ((X.log.take X.commit).drop W.data.length).map LE.d) (W.terms ++ ((X.log.take X.commit).drop W.data.length).map LE.t) = _
  rw [List.zipWith_append (by rw [b.l2])]
  congr 1
  generalize (X.log.take X.commit).drop W.data.length = q
  induction q with
  | nil => rfl
  | cons a q ih => rw [List.map_cons, List.map_cons, List.zipWith_cons_cons, ih]
 refine ⟨b.nn, b.bad, b.prop, fun p hp => ?_, hl2, ?_, fun k x hx => ?_, b.l1, b.led, ?_, fun v y hy => ?_, b.s1, ?_⟩
 ·rcases List.mem_append.1 hp with hp | hp
  ·exact (b.net p hp).look
  ·exact (u.out p hp).look
 ·show (W.made ++ List.replicate _ _).length = (W.data ++ _).length
  rw [List.length_append, List.length_append, List.length_replicate, List.length_map, b.l3]
 ·have hx' : (W.made ++ List.replicate ((X.log.take X.commit).drop W.data.length).length (topL (W.least.set i X.term)))[k]? = some x := hx
  rw [hdl]
  show SureB G n x _
  rcases Nat.lt_or_ge k W.data.length with hk | hk
  ·rw [List.getElem?_append_left (by rw [b.l3]; exact hk)] at hx'
   rw [List.take_append_of_le_length (by omega)]
   exact b.made k x hx'
  ·rw [List.getElem?_append_right (by rw [b.l3]; exact hk)] at hx'
   have hkl := (List.getElem?_eq_some_iff.1 hx').1
   rw [List.length_replicate, hlen, b.l3] at hkl
   have hxe := List.eq_of_mem_replicate (List.mem_of_getElem? hx')
   have htop : X.term ≤ x := by rw [hxe]; exact top_le (List.getElem?_set_self (by rw [b.least]; exact hi))
   have hpre : W.dl <+: X.log.take X.commit := by
    rcases b.sure with h0 | ⟨y, h0⟩
    ·rw [h0]; exact List.nil_prefix
    ·rcases h0.two g u.sure with h0 | h0
     ·exact h0
     ·have := h0.length_le
      rw [List.length_take, Nat.min_eq_left u.cm] at this
      omega
   have heq : W.dl ++ (X.log.take X.commit).drop W.data.length = X.log.take X.commit := by
    obtain ⟨r, hr⟩ := hpre
    rw [← hr, ← hld, List.drop_left]
   rw [heq]
   exact (u.sure.le htop).pre (List.take_prefix _ _)
 ·show (W.least.set i X.term).length = n
  rw [List.length_set]; exact b.least
 ·have hy' : (W.least.set i X.term)[v]? = some y := hy
  by_cases hv : v = i
  ·subst hv
   rw [List.getElem?_set_self (by rw [b.least]; exact hi)] at hy'
   injection hy' with hy'
   subst hy'
   exact ⟨(if_pos rfl).symm, u.te⟩
  ·rw [List.getElem?_set_ne (fun e => hv e.symm)] at hy'
   have := b.lt v y hy'
   exact ⟨this.1.trans (if_neg hv).symm, this.2⟩
 ·show (W.net ++ X.out).length ≤ _
  rw [List.length_append]; exact s2
theorem led_bi {i T : Nat} (b : BI n j G K W) (h : G.ld T = some i) (hj : W.leads.length + 1 ≤ j) : BI n j G K (W.ledBy i T) := by
 unfold WB.ledBy
 split
 ·exact b
 ·refine ⟨b.nn, b.bad, b.prop, b.net, b.l2, b.l3, b.made, ?_, fun k t i' h1 h2 => ?_, b.least, b.lt, ?_, b.s2⟩
  ·show (W.leads ++ [i]).length = (W.ins ++ [T]).length
   rw [List.length_append, List.length_append, b.l1]; rfl
  ·have h1' : (W.ins ++ [T])[k]? = some t := h1
   have h2' : (W.leads ++ [i])[k]? = some i' := h2
   rcases Nat.lt_or_ge k W.ins.length with hk | hk
   ·rw [List.getElem?_append_left hk] at h1'
    rw [List.getElem?_append_left (by rw [b.l1]; exact hk)] at h2'
    exact b.led k t i' h1' h2'
   ·have hkl := (List.getElem?_eq_some_iff.1 h1').1
    simp at hkl
    have hke : k = W.ins.length := by omega
    subst hke
    simp at h1'
    rw [← b.l1] at h2'
    simp at h2'
    rw [← h1', ← h2']; exact h
  ·show (W.leads ++ [i]).length ≤ j
   simp; omega
theorem look_law {w0 : World} {i : Nat} {Q : AEnd → St → Prop} (h : WJ n (j + 1) S B W sl G K t fun v s => if v = i then s.Pre n G v K else s.Is n G v K) (hi : i < n) (hs1 : W.leads.length ≤ j) (hs2 : W.net.length ≤ 20 * j)
  (hQ : ∀ S' B' W' sl' G', B'.w = B.w → WJ n (j + 1) S' B' W' sl' G' K t (fun v s => s.Is n G' v K) → Q (.ret (.tup [])) S') : RSim Try.prog w0 n_l15_world_look [.ptr (some (B.w, 0)), .int .i64 (i : Nat)] S Q := by
 obtain ⟨s, hs⟩ : ∃ s, sl[i]? = some s := ⟨_, List.getElem?_eq_getElem (by rw [h.len]; exact hi)⟩
 have hsi := h.is i s hs
 have hK := h.ko
 have g := h.g
 have b := h.b
 have hj4 := h.j4
 simp only [if_true] at hsi
 have hoth : ∀ v s', sl[v]? = some s' → v ≠ i → s'.Is n G v K := fun v s' h1 h2 => by
  have := h.is v s' h1
  simpa [h2] using this
 have hno := h.no hs
 have hdi := h.ds hs
 cases s with
 | dn di D cs q =>
  refine lookNil_runs h.h.head hno (hQ S B W sl G rfl ⟨h.h, h.len, h.disks, h.nodes, fun v s' h1 => ?_, g, b, h.t1, h.t2, h.j4, h.n1, h.n5⟩)
  by_cases hv : v = i
  ·subst hv
   rw [hs] at h1
   injection h1 with h1
   subst h1
   exact hsi
  ·exact hoth v s' h1 hv
 | up L X cs =>
  have hH := h.two hs
  have hX : RaftAt S L X := hH.2.2.1
  have hF := h.fine
  rcases hsi with ⟨hU, hct, hol, hlim⟩ | ⟨hoff, cs', q, hD⟩
  ·have u := hU.ni
   have hdl := dl_len b.l2
   have hll := hU.llen g hK
   have hcm := u.cm
   have hDoff : L.D.off = false := by have := hU.dk.off; rw [hX.d] at this; exact this
   have bs := look_bi b g hi hU (by omega)
   have hlead : X.leads = true → G.ld X.term = some i ∧ X.log = G.LL X.term := fun hl => by
    unfold RN.leads at hl
    simp only [Bool.and_eq_true, decide_eq_true_eq] at hl
    obtain ⟨a1, a2, _⟩ := u.lead hl.2
    exact ⟨a1, a2⟩
   refine lookOn_runs hH hF (by rw [b.nn]; exact hi) h.nl hno hdi (by rw [b.least, b.nn]) (fun x hx => ?_) b.bad hDoff (fun y hy => ?_) hcm (by omega) (by have := b.s2; omega) (fun k x d t' hk hx hd ht => ?_) (fun k x hk hdk hx => ?_) (fun hl k hk => ?_) (fun hl k x t' d hm hx ht hd => ?_) fun S' B' L' A hw hr hLi => ?_
   ·obtain ⟨v, hv⟩ := List.mem_iff_getElem?.1 hx
    have := (b.lt v x hv).2
    have := hK.k
    omega
   ·rw [(b.lt i y hy).1]; exact u.di.lo
   ·have e := dl_get b.l2 hd ht
    have hkd : k < W.dl.length := (List.getElem?_eq_some_iff.1 e).1
    have e2 : (X.log.take X.commit)[k]? = some x := by rw [List.getElem?_take_of_lt hk]; exact hx
    rcases b.sure with h0 | ⟨y, h0⟩
    ·rw [h0] at hkd; simp at hkd
    ·rcases h0.two g u.sure with ⟨r, hr⟩ | ⟨r, hr⟩
     ·rw [← hr, List.getElem?_append_left hkd, e] at e2
      injection e2 with e2
      exact e2.symm
     ·have hk2 : k < (X.log.take X.commit).length := (List.getElem?_eq_some_iff.1 e2).1
      rw [← hr, List.getElem?_append_left hk2, e2] at e
      injection e
   ·have := (gd_ok g u.di.good (List.mem_of_getElem? hx)).2
    unfold WB.known
    rw [b.prop]
    simp only [Bool.or_eq_true, decide_eq_true_eq]
    exact this
   ·obtain ⟨a1, _⟩ := hlead hl
    obtain ⟨i', hi'⟩ : ∃ i', W.leads[k]? = some i' := ⟨_, List.getElem?_eq_getElem (by rw [b.l1]; exact (List.getElem?_eq_some_iff.1 hk).1)⟩
    have := b.led k _ i' hk hi'
    rw [a1] at this
    injection this with this
    rw [hi', this]
   ·obtain ⟨a1, a2⟩ := hlead hl
    have hsu : SureB G n x ((W.seen i X).dl.take (k + 1)) := bs.made k x hm
    have hp := hsu.led g (Nat.le_of_lt hx) a1
    rw [← a2] at hp
    have e := dl_get bs.l2 hd ht
    obtain ⟨r, hr⟩ := hp
    have e3 : ((W.seen i X).dl.take (k + 1))[k]? = some ⟨t', d⟩ := by rw [List.getElem?_take_of_lt (by omega)]; exact e
    rw [← hr, List.getElem?_append_left (List.getElem?_eq_some_iff.1 e3).1, e3]
   ·have hb1 : BI n (j + 1) (G.look i X.term) K (W.lookOn i X) := by
     unfold WB.lookOn
     split
     ·rename_i hl
      exact led_bi bs (hlead hl).1 (show W.leads.length + 1 ≤ j + 1 by omega)
     ·exact bs
    have hWd : (W.lookOn i X).disks = W.disks ∧ (W.lookOn i X).nodes = W.nodes := by
     unfold WB.lookOn WB.ledBy
     split
     ·split <;> exact ⟨rfl, rfl⟩
     ·exact ⟨rfl, rfl⟩
    refine hQ S' B' (W.lookOn i X) (sl.set i (.up L' { X with out := [] } cs)) (G.look i X.term) hw ⟨hold_slot h.h hs A, by rw [List.length_set]; exact h.len, ?_, ?_, fun v s' h1 => ?_, g.look, hb1, ?_, h.t2, h.j4, h.n1, h.n5⟩
    ·rw [hWd.1, h.disks, List.map_set]
     refine (List.ext_getElem? fun v => ?_).symm
     by_cases hv : v = i
     ·subst hv
      rw [List.getElem?_set_self (by rw [List.length_map, h.len]; exact hi), List.getElem?_map, hs]
      show some L'.i = some L.i
      rw [hLi]
     ·rw [List.getElem?_set_ne (fun e => hv e.symm)]
    ·rw [hWd.2, h.nodes, List.map_set]
     refine (List.ext_getElem? fun v => ?_).symm
     by_cases hv : v = i
     ·subst hv
      rw [List.getElem?_set_self (by rw [List.length_map, h.len]; exact hi), List.getElem?_map, hs]
      show some (some L'.r) = some (some L.r)
      rw [hr]
     ·rw [List.getElem?_set_ne (fun e => hv e.symm)]
    ·by_cases hv : v = i
     ·subst hv
      rw [List.getElem?_set_self (by rw [h.len]; exact hi)] at h1
      injection h1 with h1
      subst h1
      have hU2 := hU.look (i := v) (T := X.term) fun _ => Nat.le_refl _
      refine ⟨⟨⟨u.me, u.nn, hU2.ni.di, u.te, u.bad, u.role, u.cand, u.lead, u.cm, u.sure, fun p hp => (by cases hp)⟩, hU2.r, hU2.du, hU2.sd, hU2.dk⟩, hct, rfl, hlim⟩
     ·rw [List.getElem?_set_ne (fun e => hv e.symm)] at h1
      exact (hoth v s' h1 hv).look hv
    ·have := idle_set (s' := .up L' { X with out := [] } cs) hs
     have e : (Sl.up L' { X with out := [] } cs).idle = (Sl.up L X cs).idle := rfl
     have := h.t1
     omega
  ·refine lookOff_runs hH (by rw [b.nn]; exact hi) h.nl hno hdi hoff fun S' A => ?_
   have hH2 : Hold S' (Res.book B { W with nodes := W.nodes.set i none } :: sl.map Sl.res) := h.h.step A.1
   have p1 := hH2.perm (slot_perm hs)
   have hR : RaftAt S' L X := Hold.mem p1 (Sl.up L X cs).res (by simp)
   have p2 : Hold S' (Res.book B { W with nodes := W.nodes.set i none } :: (sl.set i (.dn L.i L.D cs' q)).map Sl.res) := by
    refine Hold.perm (slot_perm' hs).symm ?_
    have p3 : Hold S' ((Sl.up L X cs).res :: Res.book B { W with nodes := W.nodes.set i none } :: (sl.eraseIdx i).map Sl.res) := p1.swap
    have p4 := p3.less (y := Res.disk L.i L.D) hR.w.d fun k hk => ⟨.wal L.i L.g L.D raftN X.R L.tw, by simp [parts], .inl hk⟩
    exact p4.swap
   refine hQ S' B _ (sl.set i (.dn L.i L.D cs' q)) G rfl ⟨p2, by rw [List.length_set]; exact h.len, ?_, ?_, fun v s' h1 => ?_, g, ⟨b.nn, b.bad, b.prop, b.net, b.l2, b.l3, b.made, b.l1, b.led, b.least, b.lt, b.s1, b.s2⟩, ?_, h.t2, h.j4, h.n1, h.n5⟩
   ·show W.disks = _
    rw [h.disks, List.map_set]
    refine (List.ext_getElem? fun v => ?_).symm
    by_cases hv : v = i
    ·subst hv
     rw [List.getElem?_set_self (by rw [List.length_map, h.len]; exact hi), List.getElem?_map, hs]
     rfl
    ·rw [List.getElem?_set_ne (fun e => hv e.symm)]
   ·show W.nodes.set i none = _
    rw [h.nodes, List.map_set]; rfl
   ·by_cases hv : v = i
    ·subst hv
     rw [List.getElem?_set_self (by rw [h.len]; exact hi)] at h1
     injection h1 with h1
     subst h1
     exact hD
    ·rw [List.getElem?_set_ne (fun e => hv e.symm)] at h1
     exact hoth v s' h1 hv
   ·have := idle_set (s' := .dn L.i L.D cs' q) hs
    have e : (Sl.dn L.i L.D cs' q).idle = 0 := rfl
    have := h.t1
    omega
end Go.VM
namespace Go.VM
open Go Go.RowKit Go.Proofs
variable {n j : Nat} {G G' G1 : GH} {K K' : KN} {S S' : St} {B B' : WP} {W W' : WB} {sl : List Sl} {t : Nat}
abbrev WI (n j : Nat) (S : St) (B : WP) (W : WB) (sl : List Sl) (G : GH) (K : KN) (t : Nat) : Prop := WJ n j S B W sl G K t fun v s => s.Is n G v K
theorem BI.up (b : BI n j G K W) : BI n (j + 1) G K W := ⟨b.nn, b.bad, b.prop, b.net, b.l2, b.l3, b.made, b.l1, b.led, b.least, b.lt, by have := b.s1; omega, by have := b.s2; omega⟩
theorem BI.ext {v : Nat} (b : BI n j G K W) (x : Ext v G G') (g : GI n G K) : BI n j G' K W :=
 ⟨b.nn, b.bad, b.prop, fun p hp => (b.net p hp).grow x.w g.ak, b.l2, b.l3, fun k y hy => x.w.sure g.ak (b.made k y hy), b.l1, fun k t i h1 h2 => x.w.ld _ _ (b.led k t i h1 h2), b.least, fun v y hy => by rw [x.w.lt]; exact b.lt v y hy, b.s1, b.s2⟩
theorem BI.more (b : BI n j G K W) (hp : K'.prop = K.prop) (he : K.e ≤ K'.e) : BI n j G K' W :=
 ⟨b.nn, b.bad, b.prop.trans hp.symm, fun p hp => (b.net p hp).more he, b.l2, b.l3, b.made, b.l1, b.led, b.least, fun v y hy => ⟨(b.lt v y hy).1, Nat.le_trans (b.lt v y hy).2 he⟩, b.s1, b.s2⟩
theorem BI.setNet {l : List Pk} (b : BI n j G K W) (hl : ∀ p ∈ l, PI G n K p) (h2 : l.length ≤ 20 * j) : BI n j G K { W with net := l } :=
 ⟨b.nn, b.bad, b.prop, hl, b.l2, b.l3, b.made, b.l1, b.led, b.least, b.lt, b.s1, h2⟩
theorem rmv_len (l : List Pk) (k : Nat) : (rmv l k).length ≤ l.length := by unfold rmv; rw [List.length_append, List.length_take, List.length_drop]; omega
theorem rmv_mem {l : List Pk} {k : Nat} {p : Pk} (h : p ∈ rmv l k) : p ∈ l := by
 unfold rmv at h
 rcases List.mem_append.1 h with h | h
 ·exact List.mem_of_mem_take h
 ·exact List.mem_of_mem_drop h
theorem node_look {w0 : World} {i : Nat} {e : Int} {L L' : RL} {X Y : RN} {cs : List RC} {Q2 : AEnd → St → Prop} (hH : Hold S (Res.book B W :: sl.map Sl.res)) (len : sl.length = n) (disks : W'.disks = sl.map Sl.di) (nodes : W'.nodes = sl.map Sl.ref) (is : ∀ (v : Nat) (s : Sl), sl[v]? = some s → s.Is n G v K) (g : GI n G K) (b : BI n (j + 1) G K W')
  (t1 : 10 * K.e + (sl.map Sl.idle).sum + Y.idle ≤ t + X.idle) (t2 : t + K.prop.length + K.h ≤ j + 1) (j4 : j + 1 ≤ 400) (n1 : 1 ≤ n) (n5 : n ≤ 5) (hs : sl[i]? = some (.up L X cs)) (a : Aft S (Res.all [Res.book B W, Res.raft L X]) S' (Res.all [Res.book B' W', Res.raft L' Y])) (hw : B'.w = B.w) (hr : L'.r = L.r) (hi : L'.i = L.i)
  (ho : Out n G i K 0 (e, Y)) (hout : Y.out.length ≤ 20) (hlim : 10 ≤ Y.limit) (hl1 : W'.leads.length ≤ j) (hl2 : W'.net.length ≤ 20 * j)
  (hQ : ∀ S3 B3 W3 sl3 G3, B3.w = B.w → WI n (j + 1) S3 B3 W3 sl3 G3 K t → Q2 (.ret (.tup [])) S3) : RSim Try.prog w0 n_l15_world_look [.ptr (some (B.w, 0)), .int .i64 (i : Nat)] S' Q2 := by
 obtain ⟨G', x, g', hh⟩ := ho
 have hin : i < n := by rw [← len]; exact (List.getElem?_eq_some_iff.1 hs).1
 have hY : RaftAt S' L' Y := a.p.2.2.1
 have key : ∀ cs' : List RC, (Sl.up L' Y cs').Pre n G' i K → WJ n (j + 1) S' B' W' (sl.set i (.up L' Y cs')) G' K t fun v s => if v = i then s.Pre n G' v K else s.Is n G' v K := by
  intro cs' hpre
  have hid := idle_set (s' := .up L' Y cs') hs
  have e1 : (Sl.up L' Y cs').idle = Y.idle := rfl
  have e2 : (Sl.up L X cs).idle = X.idle := rfl
  refine ⟨hold_slot hH hs a, by rw [List.length_set]; exact len, ?_, ?_, fun v s h1 => ?_, g', b.ext x g, by omega, t2, j4, n1, n5⟩
  ·rw [disks, List.map_set]
   refine (List.ext_getElem? fun v => ?_).symm
   by_cases hv : v = i
   ·subst hv
    rw [List.getElem?_set_self (by rw [List.length_map, len]; exact hin), List.getElem?_map, hs]
    show some L'.i = some L.i
    rw [hi]
   ·rw [List.getElem?_set_ne (fun e => hv e.symm)]
  ·rw [nodes, List.map_set]
   refine (List.ext_getElem? fun v => ?_).symm
   by_cases hv : v = i
   ·subst hv
    rw [List.getElem?_set_self (by rw [List.length_map, len]; exact hin), List.getElem?_map, hs]
    show some (some L'.r) = some (some L.r)
    rw [hr]
   ·rw [List.getElem?_set_ne (fun e => hv e.symm)]
  ·by_cases hv : v = i
   ·subst hv
    rw [if_pos rfl]
    rw [List.getElem?_set_self (by rw [len]; exact hin)] at h1
    injection h1 with h1
    subst h1
    exact hpre
   ·rw [if_neg hv]
    rw [List.getElem?_set_ne (fun e => hv e.symm)] at h1
    exact (is v s h1).ext x hv g
 rw [← hw]
 rcases hh with ⟨h0, cs', hU, hb⟩ | ⟨h0, hoff, cs', s, hD⟩
 ·exact look_law (key cs' (.inl ⟨hU, by omega, hout, hlim⟩)) hin hl1 hl2 fun S3 B3 W3 sl3 G3 h3 h => hQ S3 B3 W3 sl3 G3 (h3.trans hw) h
 ·have hd : Y.D = L'.D.abs := hY.d
  have hoff' : L'.D.abs.off = true := by rw [← hd]; exact hoff
  have hD' : Dnn n G' i K L'.D.abs cs' s := by rw [← hd]; exact hD
  exact look_law (key cs (.inr ⟨hoff', cs', s, hD'⟩)) hin hl1 hl2 fun S3 B3 W3 sl3 G3 h3 h => hQ S3 B3 W3 sl3 G3 (h3.trans hw) h
theorem WJ.stay {P : Nat → Sl → Prop} (h : WJ n j S B W sl G K t P) (k : Keeps (fun _ => False) S S') : WJ n j S' B W sl G K t P := ⟨h.h.stay k, h.len, h.disks, h.nodes, h.is, h.g, h.b, h.t1, h.t2, h.j4, h.n1, h.n5⟩
theorem WJ.next (h : WI n j S B W sl G K t) (hj : j + 1 ≤ 400) : WI n (j + 1) S B W sl G K t := ⟨h.h, h.len, h.disks, h.nodes, h.is, h.g, h.b.up, h.t1, by have := h.t2; omega, hj, h.n1, h.n5⟩
theorem plain_look {w0 : World} {i : Nat} {Q2 : AEnd → St → Prop} (h : WI n j S B W sl G K t) (hj : j + 1 ≤ 400) (hi : i < n) (hQ : ∀ S3 B3 W3 sl3 G3, B3.w = B.w → WI n (j + 1) S3 B3 W3 sl3 G3 K t → Q2 (.ret (.tup [])) S3) : RSim Try.prog w0 n_l15_world_look [.ptr (some (B.w, 0)), .int .i64 (i : Nat)] S Q2 := by
 have h2 := h.next hj
 refine look_law (i := i) ⟨h2.h, h2.len, h2.disks, h2.nodes, fun v s hs => ?_, h2.g, h2.b, h2.t1, h2.t2, h2.j4, h2.n1, h2.n5⟩ hi h.b.s1 h.b.s2 hQ
 split
 ·exact (h.is v s hs).pre
 ·exact h.is v s hs
theorem raft_two {L L' : RL} {X Y : RN} (hH : Hold S [Res.book B W, Res.raft L X]) (a : RAft S L X S' L' Y) : Aft S (Res.all [Res.book B W, Res.raft L X]) S' (Res.all [Res.book B W, Res.raft L' Y]) :=
 Aft.part hH (m := [Res.book B W]) (l' := [Res.book B W, Res.raft L' Y]) (List.Perm.swap _ _ _) a.1 (List.Perm.swap _ _ _)
theorem upn_small {i : Nat} {L : RL} {X : RN} {cs : List RC} (h : WI n j S B W sl G K t) (hs : sl[i]? = some (.up L X cs)) : RaftAt S L X ∧ Upn n G i K X cs ∧ cs.length ≤ tot K ∧ X.out = [] ∧ 10 ≤ X.limit ∧ X.Wide ∧ X.idle ≤ 400 ∧ X.term ≤ 40 := by
 have hX : RaftAt S L X := (h.two hs).2.2.1
 obtain ⟨hU, hc, ho, hl⟩ := h.is i _ hs
 have hll := hU.llen h.g h.ko
 have hR : X.R.length ≤ 2400 := by rw [hU.r, List.length_map]; exact hU.sd.few h.g h.ko hc
 have hidle : X.idle ≤ 400 := by
  have := idle_set (s' := .dn 0 L.D [] 0) hs
  have e1 : (Sl.up L X cs).idle = X.idle := rfl
  have e2 : (Sl.dn 0 L.D [] 0).idle = 0 := rfl
  have := h.t1
  have := h.t2
  have := h.j4
  omega
 exact ⟨hX, hU, hc, ho, hl, ⟨by omega, by rw [ho]; simp, by omega⟩, hidle, hll.2.2⟩
theorem WJ.isMore (h : WI n j S B W sl G K t) (hp : K.prop.length ≤ K'.prop.length) (he : K.e ≤ K'.e) (hh : K.h ≤ K'.h) : ∀ (v : Nat) (s : Sl), sl[v]? = some s → s.Is n G v K' := fun v s hs => (h.is v s hs).more hp he hh
theorem act_tick {w0 : World} {i d : Nat} {L : RL} {X : RN} {cs : List RC} {Q Q1 : AEnd → St → Prop} (h : WI n j S B W sl G K t) (hj : j + 1 ≤ 400) (hs : sl[i]? = some (.up L X cs)) (hd : d < 18446744073709551616)
  (hQ : ∀ S3 B3 W3 sl3 G3 K3 t3, B3.w = B.w → WI n (j + 1) S3 B3 W3 sl3 G3 K3 t3 → Q (.ret (.tup [])) S3) (hQ1 : ∀ S2 (e : Int), LookTo w0 Q B.w i S2 → Q1 (.ret (.int .i64 e)) S2) : RSim Try.prog w0 n_raft_Node_Tick [.ptr (some (L.r, 0)), .int .u64 (d : Nat)] S Q1 := by
 obtain ⟨hX, hU, hc, ho, hl, hW, hid, ht⟩ := upn_small h hs
 have hin : i < n := by rw [← h.len]; exact (List.getElem?_eq_some_iff.1 hs).1
 have u := hU.ni
 have ht1 := h.t1
 have ht2 := h.t2
 obtain ⟨v1, v2, v3, v4⟩ := vl_tick X d u.bad
 rw [u.nn, ho] at v2
 have hn5 := h.n5
 refine tick_runs hX hd (by omega) hW (by omega) fun S' L' A => hQ1 S' _ fun Q2 hq => ?_
 have hidsum : X.idle ≤ (sl.map Sl.idle).sum := by
  have := idle_set (s' := .dn 0 L.D [] 0) hs
  have e1 : (Sl.up L X cs).idle = X.idle := rfl
  have e2 : (Sl.dn 0 L.D [] 0).idle = 0 := rfl
  omega
 by_cases hel : ¬ X.role = 2 ∧ ¬ X.idle + 1 < X.limit
 ·have v5 := v4 hel.1 hel.2
  have hKe : KOk { K with e := K.e + 1 } := ⟨by show 10 * (K.e + 1) + K.prop.length + K.h ≤ 400; omega⟩
  have htot : tot { K with e := K.e + 1 } = tot K + 2 := by unfold tot; show 17 * K.h + K.prop.length + 2 * (K.e + 1) = _; omega
  have hg := h.g.more (K' := { K with e := K.e + 1 }) (Nat.le_refl _) (fun _ h => h) (Nat.le_succ _)
  have hU' := hU.more (K' := { K with e := K.e + 1 }) (Nat.le_refl _) (Nat.le_succ _)
  have hte := u.te
  refine node_look (K := { K with e := K.e + 1 }) (t := t + 1) h.h h.len h.disks h.nodes (h.isMore (Nat.le_refl _) (Nat.le_succ _) (Nat.le_refl _)) hg (h.b.up.more rfl (Nat.le_succ _)) (by show 10 * (K.e + 1) + _ + _ ≤ _; have := hel.2; omega) (by show t + 1 + K.prop.length + K.h ≤ j + 1; omega) hj h.n1 h.n5 hs (raft_two (h.two hs) A) rfl A.2.1 A.2.2 (tick_out (b := 0) hU' hg hKe hn5 hin (fun _ _ => ⟨by show X.term + 1 ≤ K.e + 1; omega, by rw [htot]; omega⟩) (by rw [htot]; omega)) (by simp at v2; omega) (v1 hl) h.b.s1 h.b.s2 fun S3 B3 W3 sl3 G3 h3 h4 => hq S3 (hQ S3 B3 W3 sl3 G3 _ _ h3 h4)
 ·refine node_look (K := K) (t := t + 1) h.h h.len h.disks h.nodes h.is h.g h.b.up (by omega) (by omega) hj h.n1 h.n5 hs (raft_two (h.two hs) A) rfl A.2.1 A.2.2 (tick_out (b := 0) hU h.g h.ko hn5 hin (fun a b => absurd ⟨a, b⟩ hel) (by omega)) (by simp at v2; omega) (v1 hl) h.b.s1 h.b.s2 fun S3 B3 W3 sl3 G3 h3 h4 => hq S3 (hQ S3 B3 W3 sl3 G3 _ _ h3 h4)
theorem WJ.book {S1 : St} {B1 : WP} {W1 : WB} (h : WI n j S B W sl G K t) (a : BAft S B W S1 B1 W1) (hd : W1.disks = W.disks) (hn : W1.nodes = W.nodes) (b : BI n j G K W1) : WI n j S1 B1 W1 sl G K t :=
 ⟨h.h.step a.1, h.len, hd.trans h.disks, hn.trans h.nodes, h.is, h.g, b, h.t1, h.t2, h.j4, h.n1, h.n5⟩
theorem flatB_len {α : Type} {f : α → List UInt8} {b : Nat} : ∀ {l : List α}, (∀ x ∈ l, (f x).length ≤ b) → (l.flatMap f).length ≤ b * l.length
 | [], _ => by simp
 | x :: l, h => by
  have h1 := flatB_len (l := l) fun y hy => h y (List.mem_cons_of_mem _ hy)
  have h2 := h x (by simp)
  rw [List.flatMap_cons, List.length_append, List.length_cons, Nat.mul_succ]
  omega
theorem msB_len {m : Ms} (h : m.Ok) : (msB m).length ≤ 52 + 220 * m.ents.length := by
 have h1 := flatB_len (f := uvar) (b := 10) (l := [m.term, m.index, m.at_, m.commit, m.ents.length]) fun x hx => uvar_len10 (by
  have := h.n
  simp only [List.mem_cons, List.not_mem_nil, or_false] at hx
  rcases hx with rfl | rfl | rfl | rfl | rfl
  ·exact h.term
  ·exact h.index
  ·exact h.at_
  ·exact h.commit
  ·omega)
 have h2 := flatB_len (f := leB) (b := 220) (l := m.ents) fun x hx => by
  have hx := h.ents x hx
  have a := uvar_len10 (v := x.t) (by have := hx.t; omega)
  have b := uvar_len10 (v := x.d.length) (by have := hx.d; omega)
  have c := hx.d
  unfold leB textB
  rw [List.length_append, List.length_append]
  omega
 unfold msB
 rw [List.length_append, List.length_append]
 simp only [List.length_cons, List.length_nil] at h1 ⊢
 omega
theorem act_hand {w0 : World} {k : Nat} {Q : AEnd → St → Prop} (h : WI n j S B W sl G K t) (hj : j + 1 ≤ 400) (hk : k < W.net.length)
  (hQ : ∀ S3 B3 W3 sl3 G3 K3 t3, B3.w = B.w → WI n (j + 1) S3 B3 W3 sl3 G3 K3 t3 → Q (.ret (.tup [])) S3) : RSim Try.prog w0 n_l15_world_hand [.ptr (some (B.w, 0)), .int .i64 (k : Nat)] S Q := by
 obtain ⟨p, hp⟩ : ∃ p, W.net[k]? = some p := ⟨_, List.getElem?_eq_getElem hk⟩
 have b := h.b
 obtain ⟨m, hm⟩ := b.net p (List.mem_of_getElem? hp)
 have hn5 := h.n5
 have hko := h.ko
 have hkk := hko.k
 obtain ⟨s, hs⟩ : ∃ s, sl[p.to]? = some s := ⟨_, List.getElem?_eq_getElem (by rw [h.len]; exact hm.to)⟩
 have hrl := rmv_len W.net k
 have bn : BI n j G K { W with net := rmv W.net k } := b.setNet (fun q hq => b.net q (rmv_mem hq)) (by have := b.s2; omega)
 refine hand_runs h.h.head h.fine h.nl hp (by rw [b.nn]; exact hm.f) (by rw [b.nn]; exact hm.to) hm.ne (h.no hs) (fun _ S1 B1 a => ?_) fun r hr S1 B1 dv Q1 a hdv hQ1 => ?_
 ·exact hQ S1 B1 _ sl G K t a.2 ((h.book a rfl rfl bn).next hj)
 ·cases s with
  | dn di D cs q => cases hr
  | up L X cs =>
   have hLr : L.r = r := Option.some.inj hr
   subst hLr
   have h1 := h.book a rfl rfl bn
   obtain ⟨hX, hU, hc, ho, hl, hW, hid, ht⟩ := upn_small h1 hs
   have u := hU.ni
   have hX0 : RaftAt S L X := (h.two hs).2.2.1
   have hmt := hm.t
   have hmi := hm.i
   have hma := hm.a
   have hmc := hm.c
   have hdec : decM p.d = some m := by rw [hm.d]; exact decM_msB hm.ok hm.k (by omega) (by omega) (by omega) (by omega)
   have hst : X.step p.f p.d = X.stepM p.f m := by unfold RN.step; rw [hdec]; simp only [u.bad, Bool.false_eq_true, if_false]
   have hbl : p.d.length ≤ 1000000000 := by
    rw [hm.d]
    have := msB_len hm.ok
    have := hm.e
    omega
   have hvl := vl_stepM X p.f m (by rw [u.nn]; exact h.n1)
   have hKh : KOk { K with h := K.h + 1 } := ⟨by show 10 * K.e + K.prop.length + (K.h + 1) ≤ 400; have := h.t1; have := h.t2; omega⟩
   have htot : tot { K with h := K.h + 1 } = tot K + 17 := by unfold tot; show 17 * (K.h + 1) + K.prop.length + 2 * K.e = _; omega
   have hg := h1.g.more (K' := { K with h := K.h + 1 }) (Nat.le_refl _) (fun _ h => h) (Nat.le_refl _)
   have hU' := hU.more (K' := { K with h := K.h + 1 }) (Nat.le_refl _) (Nat.le_refl _)
   have hm' : PM G n { K with h := K.h + 1 } p m := ⟨hm.d, hm.ok, hm.k, hm.t, hm.i, hm.a, hm.c, hm.e, hm.f, hm.to, hm.ne, hm.mi⟩
   have hout := stepM_out (b := 0) hU' hg hKh h.n1 hn5 hm' rfl (by rw [htot]; omega)
   refine step_runs hX hdv hbl hdec hm.ok (by omega) hm.e (by rw [u.nn]; exact hm.f) (by rw [u.me]; exact fun e => hm.ne e.symm) hW (fun _ hr => by rw [u.nn]; exact (u.cand hr).2.2.2.1) fun S2 L2 A => ?_
   rw [hst] at A ⊢
   refine hQ1 S2 _ ?_ (fun M cs' hM1 hM2 hMc => ?_) fun Q2 hq => ?_
   ·obtain ⟨_, _, _, h0 | h0⟩ := hout
    ·exact .inl h0.1
    ·exact .inr h0.1
   ·exact A.1.k.cells hMc hM2 fun hown => by
     have := (Res.raft L X).lt (show (Res.raft L X).P S from hX0) hown
     omega
   ·have vo := hvl.o
    rw [ho, u.nn] at vo
    have vi := hvl.i
    have hs1 := h1.b.s1
    have hs2 := h1.b.s2
    rw [← a.2]
    refine node_look (K := { K with h := K.h + 1 }) (t := t) h1.h h1.len h1.disks h1.nodes (h1.isMore (Nat.le_refl _) (Nat.le_refl _) (Nat.le_succ _)) hg (h1.b.up.more rfl (Nat.le_refl _)) (by show 10 * K.e + _ + _ ≤ _; have := h.t1; omega) (by show t + K.prop.length + (K.h + 1) ≤ j + 1; have := h.t2; omega) hj h1.n1 h1.n5 hs (raft_two (h1.two hs) A) rfl A.2.1 A.2.2 (show Out n G p.to _ 0 ((X.stepM p.f m).1, (X.stepM p.f m).2) from hout) (by simp at vo; omega) (hvl.l hl) hs1 hs2 fun S3 B3 W3 sl3 G3 h3 h4 => hq S3 (hQ S3 B3 W3 sl3 G3 _ _ (h3.trans a.2) h4)
theorem act_prop {w0 : World} {i A : Nat} {a : AC} {vd vk : V} {fr : Fr} {Qc : CPost} {L : RL} {X : RN} {cs : List RC} {Q : AEnd → St → Prop} (h : WI n j S B W sl G K t) (hj : j + 1 ≤ 400) (hs : sl[i]? = some (.up L X cs)) (hd : a.data.length ≤ 200) (hv : IsBytes vd a.data) (cA : S.cells A = some (a.v vd vk)) (lA : A < S.n) (nA : ∀ x ∈ (Res.book B W :: sl.map Sl.res), ¬ x.own A)
  (f0 : fr 0 = .ptr (some (B.w, 0))) (f3 : fr 3 = .ptr (some (A, 0))) (f5 : fr 5 = .ptr (some (L.r, 0)))
  (hQ : ∀ S3 B3 W3 sl3 G3 K3 t3, B3.w = B.w → WI n (j + 1) S3 B3 W3 sl3 G3 K3 t3 → Q (.ret (.tup [])) S3) (hQc : ∀ fr' S', LookTo w0 Q B.w i S' → (fr' 0 = fr 0 ∧ fr' 4 = fr 4) → Qc .normal fr' S') : wCode (RSim Try.prog w0) i_l15_world_act_3 fr S Qc := by
 obtain ⟨hX, hU, hc, ho, hl, hW, hid, ht⟩ := upn_small h hs
 have hin : i < n := by rw [← h.len]; exact (List.getElem?_eq_some_iff.1 hs).1
 have u := hU.ni
 have b := h.b
 have ht1 := h.t1
 have ht2 := h.t2
 have hpl : (K.prop ++ [a.data]).length = K.prop.length + 1 := by simp
 have hKp : KOk { K with prop := K.prop ++ [a.data] } := ⟨by show 10 * K.e + (K.prop ++ [a.data]).length + K.h ≤ 400; omega⟩
 have htot : tot { K with prop := K.prop ++ [a.data] } = tot K + 1 := by unfold tot; show 17 * K.h + (K.prop ++ [a.data]).length + 2 * K.e = _; omega
 have hg := h.g.more (K' := { K with prop := K.prop ++ [a.data] }) (by show K.prop.length ≤ (K.prop ++ [a.data]).length; omega) (fun x hx => List.mem_append_left _ hx) (Nat.le_refl _)
 have hU' := hU.more (K' := { K with prop := K.prop ++ [a.data] }) (by show K.prop.length ≤ (K.prop ++ [a.data]).length; omega) (Nat.le_refl _)
 have hll := hU.llen h.g h.ko
 have hvl := vl_propose X a.data
 have hpo := propose_out (b := 0) (d := a.data) hU' hg hKp hin hd (List.mem_append_right _ (by simp)) (fun _ => by show X.log.length + 1 ≤ (K.prop ++ [a.data]).length + X.term; omega) (by rw [htot]; omega)
 have b' : BI n (j + 1) G { K with prop := K.prop ++ [a.data] } { W with prop := W.prop ++ [a.data] } :=
  ⟨b.nn, b.bad, by show W.prop ++ [a.data] = K.prop ++ [a.data]; rw [b.prop], fun p hp => (b.net p hp).more (Nat.le_refl _), b.l2, b.l3, b.made, b.l1, b.led, b.least, b.lt, by have := b.s1; show W.leads.length ≤ j + 1; omega, by have := b.s2; show W.net.length ≤ 20 * (j + 1); omega⟩
 have hm1 := nA (Res.book B W) (by simp)
 have hm2 := nA (Res.raft L X) (List.mem_cons_of_mem _ (List.mem_map.2 ⟨_, List.mem_of_getElem? hs, rfl⟩))
 refine act_propose (h.two hs) h.fine hW.room hd hv cA lA hm1 hm2 ?_ f0 f3 f5 fun fr' S' B' L' A' hw hr hLi hfr => hQc fr' S' (fun Q2 hq => ?_) hfr
 ·rcases hpo with ⟨h1, _, _, _, h2 | h2⟩ | ⟨h1, h2⟩
  ·left; rw [h1, h2.1]; rfl
  ·right; exact h2.1
  ·left; rw [h1, h2]; rfl
 ·have hO : Out n G i { K with prop := K.prop ++ [a.data] } 0 ((if X.leads = true then (X.propose a.data).1 else 0), (X.propose a.data).2) := by
   rcases hpo with ⟨h1, h2⟩ | ⟨h1, h2⟩
   ·rw [if_pos h1]; exact h2
   ·rw [h1, h2]
    exact Out.ok (Ext.refl i G) hg hU' (by rw [htot]; omega)
  have vo := hvl.o
  rw [ho, u.nn] at vo
  have vi := hvl.i
  have hn5 := h.n5
  refine node_look (W' := { W with prop := W.prop ++ [a.data] }) (K := { K with prop := K.prop ++ [a.data] }) (t := t) h.h h.len h.disks h.nodes (h.isMore (by show K.prop.length ≤ (K.prop ++ [a.data]).length; omega) (Nat.le_refl _) (Nat.le_refl _)) hg b' (by show 10 * K.e + _ + _ ≤ _; omega) (by show t + (K.prop ++ [a.data]).length + K.h ≤ j + 1; omega) hj h.n1 h.n5 hs A' hw hr hLi hO (by simp at vo; omega) (hvl.l hl) b.s1 b.s2 fun S3 B3 W3 sl3 G3 h3 h4 => hq S3 (hQ S3 B3 W3 sl3 G3 _ _ h3 h4)
end Go.VM
namespace Go.VM
open Go Go.RowKit Go.Proofs
variable {n j : Nat} {G G' G1 : GH} {K K' : KN} {S S' : St} {B B' : WP} {W W' : WB} {sl : List Sl} {t : Nat}
def OpenP (n : Nat) (G : GH) (i : Nat) (K : KN) (X : RN) : Prop := ∃ cs, Upn n G i K X cs ∧ cs.length ≤ tot K ∧ X.out = [] ∧ 10 ≤ X.limit ∧ X.idle = 0 ∧ X.commit = 0 ∧ X.leads = false ∧ X.D.arm = 0
theorem open_law {w0 : World} {S2 : St} {Q : AEnd → St → Prop} {di i m s : Nat} {D1 : Dk} {cs : List RC} (hd : Dg S2 di D1 raftN ((fileB (cs.map RC.b)).take m) m 1048576) (hm1 : (fileB ((cs.map RC.b).take s)).length ≤ m) (hm2 : m ≤ (fileB (cs.map RC.b)).length) (hle : s ≤ cs.length)
  (hsd : ∀ j, s ≤ j → j ≤ cs.length → SD n G i K (cs.take j)) (g : GI n G K) (hK : KOk K) (htot : cs.length ≤ tot K) (hi : i < n) (n1 : 1 ≤ n) (n5 : n ≤ 5)
  (hQ : ∀ S3 L X, RaftAt S3 L X → L.i = di → Keeps (ownD di D1) S2 S3 → (∀ j, (Res.raft L X).own j → ownD di D1 j ∨ S2.n ≤ j) → OpenP n G i K X → Q (.ret (.tup [.ptr (some (L.r, 0)), .int .i64 0])) S3) :
  RSim Try.prog w0 n_raft_Open [.ptr (some (di, 0)), .int .i64 (i : Nat), .int .i64 (n : Nat)] S2 Q := by
 obtain ⟨a1, a2⟩ := raftN_ok
 have hfull := hsd cs.length hle (Nat.le_refl _)
 rw [List.take_of_length_le (Nat.le_refl _)] at hfull
 have hfit := hfull.fits g hK htot
 have hshort : shortL (cs.map RC.b) := fun r hr => by
  obtain ⟨c, hc, rfl⟩ := List.mem_map.1 hr
  have := hfull.b c hc
  omega
 obtain ⟨q, q1, q2, q3, q4⟩ := scans_cut m hshort
 rw [List.length_map] at q1
 have hsq : s ≤ q := q4 s (by rw [List.length_map]; exact hle) hm1
 have hsdq := hsd q hsq q1
 have hmap : (cs.map RC.b).take q = (cs.take q).map RC.b := List.map_take.symm
 rw [hmap] at q2 q3
 have htql : (cs.take q).length = q := by rw [List.length_take, Nat.min_eq_left q1]
 have hqt : (cs.take q).length ≤ tot K := by omega
 have hfitq := hsdq.fits g hK hqt
 have hpl : ((fileB (cs.map RC.b)).take m).length = m := by rw [List.length_take, Nat.min_eq_left hm2]
 have hpe : (fileB ((cs.take q).map RC.b)).length = ((fileB (cs.map RC.b)).take m).length → (fileB (cs.map RC.b)).take m = fileB ((cs.take q).map RC.b) := fun e => by
  rw [← hmap] at e ⊢
  exact take_pre' hm2 e
 have hfew := hsdq.few g hK hqt
 refine raftOpen_runs (D := D1) (cs := cs.take q) (P := fun _ _ D _ => UpD D.abs ((cs.take q).map RC.b) ∧ D.abs.arm = 0) n1 n5 hi hsdq.f (by omega) (fun Q' hQ' => ?_) fun S3 S4 L hP hR hLi k o => ?_
 ·refine open_ok hd a1 a2 (show 4 ≤ 28 by decide) (by rw [hpl]; exact Nat.le_refl _) q2 hpe (by rw [hpl]; omega) fun S5 D5 g5 t5 hL k5 o5 _ _ => ?_
  refine hQ' S5 D5 g5 t5 ⟨hL.w, k5, o5⟩ ?_
  have hgood := hL.w.d.good
  have hv := hL.v
  have hwe : (if (fileB ((cs.take q).map RC.b)).length < ((fileB (cs.map RC.b)).take m).length then (fileB ((cs.take q).map RC.b)).length else m) = (fileB ((cs.take q).map RC.b)).length := by
   split
   ·rfl
   ·rename_i hn; omega
  rw [hwe] at hv
  exact ⟨⟨hv, hL.c, hL.off, hL.room, hv.used hgood hL.c⟩, hL.arm⟩
 ·refine hQ S4 L _ hR hLi k o ⟨cs.take q, ?_⟩
  generalize hZ : RN.zero L.D.abs ((cs.take q).map RC.b) i n = Z
  have z : Z.term = 0 ∧ Z.vote = -1 ∧ Z.log = [] ∧ Z.commit = 0 ∧ Z.role = 0 ∧ Z.me = i ∧ Z.n = n ∧ Z.out = [] ∧ Z.bad = false ∧ Z.idle = 0 ∧ Z.R = (cs.take q).map RC.b ∧ Z.D = L.D.abs ∧ Z.limit = 10 := by
   rw [← hZ]; exact ⟨rfl, rfl, rfl, rfl, rfl, rfl, rfl, rfl, rfl, rfl, rfl, rfl, rfl⟩
  obtain ⟨z1, z2, z3, z4, z5, z6, z7, z8, z9, z10, z11, z12, z13⟩ := z
  obtain ⟨p1, p2, p3⟩ := plays_dur (cs.take q) Z ⟨0, -1, []⟩ z1 z2 z3
  obtain ⟨r1, r2, r3, r4, r5, r6, r7, r8, r9, r10⟩ := plays_rest (cs.take q) Z
  have d1 : (Z.plays (cs.take q)).term = (dur (cs.take q)).t := p1
  have d2 : (Z.plays (cs.take q)).vote = (dur (cs.take q)).v := p2
  have d3 : (Z.plays (cs.take q)).log = (dur (cs.take q)).l := p3
  refine ⟨⟨⟨r3.trans z6, r4.trans z7, by rw [d1, d2, d3]; exact hsdq.d, by rw [d1]; exact hsdq.t, r6.trans z9, by rw [r2, z5]; exact Nat.zero_le _, fun e => absurd ((r2.trans z5).symm.trans e) (by decide), fun e => absurd ((r2.trans z5).symm.trans e) (by decide), by rw [r1, z4]; exact Nat.zero_le _, by rw [r1, z4]; exact sureB_nil, fun p hp => by rw [r5, z8] at hp; cases hp⟩, r8.trans z11, ⟨d1, d2, d3⟩, hsdq, by rw [r8, r9, z11, z12]; exact hP.1⟩, hqt, r5.trans z8, by rw [r10, z13]; exact Nat.le_refl _, r7.trans z10, r1.trans z4, ?_, by rw [r9, z12]; exact hP.2⟩
  unfold RN.leads
  rw [r2, z5, r6, z9]
  rfl
theorem act_fall {w0 : World} {i : Nat} {s : Sl} {Q2 : AEnd → St → Prop} (h : WI n j S B W sl G K t) (hj : j + 1 ≤ 400) (hs : sl[i]? = some s) (a : BAft S B W S' B { W with nodes := W.nodes.set i none })
  (hQ : ∀ S3 B3 W3 sl3 G3 K3 t3, B3.w = B.w → WI n (j + 1) S3 B3 W3 sl3 G3 K3 t3 → Q2 (.ret (.tup [])) S3) : RSim Try.prog w0 n_l15_world_look [.ptr (some (B.w, 0)), .int .i64 (i : Nat)] S' Q2 := by
 have hin : i < n := by rw [← h.len]; exact (List.getElem?_eq_some_iff.1 hs).1
 have b := h.b
 have hset : ∀ s' : Sl, s'.ref = none → s'.di = s.di → W.nodes.set i none = (sl.set i s').map Sl.ref ∧ W.disks = (sl.set i s').map Sl.di := fun s' h1 h2 => by
  refine ⟨by rw [h.nodes, List.map_set, h1], ?_⟩
  rw [h.disks, List.map_set]
  refine (List.ext_getElem? fun v => ?_).symm
  by_cases hv : v = i
  ·subst hv
   rw [List.getElem?_set_self (by rw [List.length_map, h.len]; exact hin), List.getElem?_map, hs, h2]; rfl
  ·rw [List.getElem?_set_ne (fun e => hv e.symm)]
 have fin : ∀ s' : Sl, s'.ref = none → s'.di = s.di → s'.idle = 0 → s'.Is n G i K → Hold S' (Res.book B { W with nodes := W.nodes.set i none } :: (sl.set i s').map Sl.res) → WI n j S' B { W with nodes := W.nodes.set i none } (sl.set i s') G K t := fun s' h1 h2 h3 h4 h5 => by
  have hid := idle_set (s' := s') hs
  refine ⟨h5, by rw [List.length_set]; exact h.len, (hset s' h1 h2).2, (hset s' h1 h2).1, fun v s1 hs1 => ?_, h.g, ⟨b.nn, b.bad, b.prop, b.net, b.l2, b.l3, b.made, b.l1, b.led, b.least, b.lt, b.s1, b.s2⟩, by have := h.t1; omega, h.t2, h.j4, h.n1, h.n5⟩
  by_cases hv : v = i
  ·subst hv
   rw [List.getElem?_set_self (by rw [h.len]; exact hin)] at hs1
   injection hs1 with hs1
   subst hs1
   exact h4
  ·rw [List.getElem?_set_ne (fun e => hv e.symm)] at hs1
   exact h.is v s1 hs1
 have hH2 : Hold S' (Res.book B { W with nodes := W.nodes.set i none } :: sl.map Sl.res) := h.h.step a.1
 cases s with
 | dn di D cs q =>
  have e : sl.set i (.dn di D cs q) = sl := by
   refine List.ext_getElem? fun v => ?_
   by_cases hv : v = i
   ·subst hv; rw [List.getElem?_set_self (by rw [h.len]; exact hin), hs]
   ·rw [List.getElem?_set_ne (fun e => hv e.symm)]
  exact plain_look (fin (.dn di D cs q) rfl rfl rfl (h.is i _ hs) (by rw [e]; exact hH2)) hj hin fun S3 B3 W3 sl3 G3 h3 h4 => hQ S3 B3 W3 sl3 G3 _ _ h3 h4
 | up L X cs =>
  obtain ⟨hU, hc, _⟩ := h.is i _ hs
  have p1 := hH2.perm (slot_perm hs)
  have hR : RaftAt S' L X := Hold.mem p1 (Sl.up L X cs).res (by simp)
  have p2 : Hold S' (Res.book B { W with nodes := W.nodes.set i none } :: (sl.set i (.dn L.i L.D cs cs.length)).map Sl.res) := by
   refine Hold.perm (slot_perm' hs).symm ?_
   have p3 : Hold S' ((Sl.up L X cs).res :: Res.book B { W with nodes := W.nodes.set i none } :: (sl.eraseIdx i).map Sl.res) := p1.swap
   have p4 := p3.less (y := Res.disk L.i L.D) hR.w.d fun k hk => ⟨.wal L.i L.g L.D raftN X.R L.tw, by simp [parts], .inl hk⟩
   exact p4.swap
  have hdk : DnD L.D.abs (cs.map RC.b) cs.length := by
   have := hU.dk
   rw [hU.r, hR.d] at this
   refine ⟨⟨_, this.v, ?_, Nat.le_refl _⟩, this.room⟩
   rw [List.take_of_length_le (by simp)]
   exact Nat.le_refl _
  have hD : Dnn n G i K L.D.abs cs cs.length := ⟨Nat.le_refl _, fun k h1 h2 => by rw [List.take_of_length_le h1]; exact hU.sd, hdk, hc⟩
  exact plain_look (fin (.dn L.i L.D cs cs.length) rfl rfl rfl hD p2) hj hin fun S3 B3 W3 sl3 G3 h3 h4 => hQ S3 B3 W3 sl3 G3 _ _ h3 h4
theorem act_back {w0 : World} {i A di q : Nat} {D : Dk} {cs : List RC} {a : AC} {vd : V} {keep : List Int} {kt : Tok} {fr : Fr} {Qc : CPost} {Q : AEnd → St → Prop} (h : WI n j S B W sl G K t) (hj : j + 1 ≤ 400) (hs : sl[i]? = some (.dn di D cs q)) (hkn : kt = .nil → keep = [])
  (cA : S.cells A = some (a.v vd (intsV keep kt))) (f0 : fr 0 = .ptr (some (B.w, 0))) (f3 : fr 3 = .ptr (some (A, 0))) (f4 : fr 4 = .int .i64 (i : Nat))
  (hQ : ∀ S3 B3 W3 sl3 G3 K3 t3, B3.w = B.w → WI n (j + 1) S3 B3 W3 sl3 G3 K3 t3 → Q (.ret (.tup [])) S3) (hQc : ∀ fr' S', LookTo w0 Q B.w i S' → (fr' 0 = fr 0 ∧ fr' 4 = fr 4) → Qc .normal fr' S') : wCode (RSim Try.prog w0) i_l15_world_act_4 fr S Qc := by
 have hin : i < n := by rw [← h.len]; exact (List.getElem?_eq_some_iff.1 hs).1
 have b := h.b
 have hD : Dnn n G i K D.abs cs q := h.is i _ hs
 have hH := h.two hs
 have hdk : DiskAt S di D := hH.2.2.1
 obtain ⟨⟨p0, v0, v1, v2⟩, hroom⟩ := hD.dk
 have hfew : D.ents.length ≤ 2 := WD.few (S := S) (i := di) v0
 refine act_reopen (P := fun L X => OpenP n G i K X) hH (by rw [b.nn]; exact hin) h.nl (by rw [b.nn]; exact h.n5) (h.ds hs) (by omega) hkn cA f0 f3 f4 (fun S2 D1 Q2 habs d1 hop => ?_) (fun L X hP => ?_) fun fr' S' L X A' hLi hP hfr => hQc fr' S' (fun Q2 hq => ?_) hfr
 ·obtain ⟨m, h1, h2, _, h4, h5, h6, h7⟩ := restart_eff v0 hdk.good keep
  rw [← habs] at h4 h5 h6 h7
  rw [b.nn]
  exact open_law (m := m) (s := q) ⟨d1, h4, h5, h6, h7.trans hroom⟩ (Nat.le_trans v1 h1) h2 hD.le hD.sd h.g h.ko hD.tot hin h.n1 h.n5 hop
 ·obtain ⟨_, _, _, _, _, _, e1, e2, _⟩ := hP
  exact ⟨e1, e2⟩
 ·obtain ⟨cs', hU, hc, ho, hl, hid, _⟩ := hP
  have hids := idle_set (s' := .up L X cs') hs
  have e1 : (Sl.up L X cs').idle = X.idle := rfl
  have e2 : (Sl.dn di D cs q).idle = 0 := rfl
  have hw : WI n j S' B { W with nodes := W.nodes.set i (some L.r) } (sl.set i (.up L X cs')) G K t := by
   refine ⟨hold_slot h.h hs A', by rw [List.length_set]; exact h.len, ?_, by rw [List.map_set]; show W.nodes.set i (some L.r) = _; rw [h.nodes]; rfl, fun v s1 hs1 => ?_, h.g, ⟨b.nn, b.bad, b.prop, b.net, b.l2, b.l3, b.made, b.l1, b.led, b.least, b.lt, b.s1, b.s2⟩, by have := h.t1; omega, h.t2, h.j4, h.n1, h.n5⟩
   ·show W.disks = _
    rw [h.disks, List.map_set]
    refine (List.ext_getElem? fun v => ?_).symm
    by_cases hv : v = i
    ·subst hv
     rw [List.getElem?_set_self (by rw [List.length_map, h.len]; exact hin), List.getElem?_map, hs]
     show some L.i = some di
     rw [hLi]
    ·rw [List.getElem?_set_ne (fun e => hv e.symm)]
   ·by_cases hv : v = i
    ·subst hv
     rw [List.getElem?_set_self (by rw [h.len]; exact hin)] at hs1
     injection hs1 with hs1
     subst hs1
     exact ⟨hU, hc, ho, hl⟩
    ·rw [List.getElem?_set_ne (fun e => hv e.symm)] at hs1
     exact h.is v s1 hs1
  exact plain_look hw hj hin fun S3 B3 W3 sl3 G3 h3 h4 => hq S3 (hQ S3 B3 W3 sl3 G3 _ _ h3 h4)
theorem act_armed {w0 : World} {i A : Nat} {s : Sl} {a : AC} {vd vk : V} {fr : Fr} {Qc : CPost} (h : WI n j S B W sl G K t) (hj : j + 1 ≤ 400) (hs : sl[i]? = some s) (ha : a.num < 65536) (cA : S.cells A = some (a.v vd vk)) (f0 : fr 0 = .ptr (some (B.w, 0))) (f3 : fr 3 = .ptr (some (A, 0))) (f4 : fr 4 = .int .i64 (i : Nat))
  (hQ : ∀ fr' S' sl', WI n (j + 1) S' B W sl' G K t → Qc .ret fr' S') : wCode (RSim Try.prog w0) i_l15_world_act_5 fr S Qc := by
 have hin : i < n := by rw [← h.len]; exact (List.getElem?_eq_some_iff.1 hs).1
 have hH := h.two hs
 have fin : ∀ (S' : St) (s' : Sl), s'.ref = s.ref → s'.di = s.di → s'.idle = s.idle → s'.Is n G i K → Aft S s.res S' s'.res → WI n (j + 1) S' B W (sl.set i s') G K t := fun S' s' h1 h2 h3 h4 h5 => by
  have hid := idle_set (s' := s') hs
  have h0 := h.next hj
  have A' : Aft S (Res.all [Res.book B W, s.res]) S' (Res.all [Res.book B W, s'.res]) := Aft.part hH (m := [Res.book B W]) (l' := [Res.book B W, s'.res]) (List.Perm.swap _ _ _) h5 (List.Perm.swap _ _ _)
  have hget : ∀ {α : Type} (f : Sl → α), f s' = f s → (sl.set i s').map f = sl.map f := fun f e => by
   rw [List.map_set]
   refine List.ext_getElem? fun v => ?_
   by_cases hv : v = i
   ·subst hv
    rw [List.getElem?_set_self (by rw [List.length_map, h.len]; exact hin), List.getElem?_map, hs, e]; rfl
   ·rw [List.getElem?_set_ne (fun e => hv e.symm)]
  refine ⟨hold_slot h.h hs A', by rw [List.length_set]; exact h.len, by rw [hget Sl.di h2]; exact h.disks, by rw [hget Sl.ref h1]; exact h.nodes, fun v s1 hs1 => ?_, h.g, h0.b, by rw [hget Sl.idle h3]; exact h.t1, h0.t2, hj, h.n1, h.n5⟩
  by_cases hv : v = i
  ·subst hv
   rw [List.getElem?_set_self (by rw [h.len]; exact hin)] at hs1
   injection hs1 with hs1
   subst hs1
   exact h4
  ·rw [List.getElem?_set_ne (fun e => hv e.symm)] at hs1
   exact h.is v s1 hs1
 cases s with
 | dn di D cs q =>
  have hdk : DiskAt S di D := hH.2.2.1
  refine act_arm h.h.head (h.ds hs) hdk ha cA f0 f3 f4 fun fr' S' d k => ?_
  refine hQ fr' S' _ (fin S' (.dn di { D with arm := ((a.num % 6 : Nat) : Int) } cs q) rfl rfl rfl ?_ ⟨d, k.mono fun v _ hv => by subst hv; exact .inl rfl, fun v hv => .inl hv⟩)
  have hD : Dnn n G i K D.abs cs q := h.is i _ hs
  obtain ⟨⟨p0, v0, v1, v2⟩, hroom⟩ := hD.dk
  exact ⟨hD.le, hD.sd, ⟨⟨p0, (v0.same (D' := ({ D with arm := ((a.num % 6 : Nat) : Int) } : Dk).abs) rfl).1, v1, v2⟩, hroom⟩, hD.tot⟩
 | up L X cs =>
  have hX : RaftAt S L X := hH.2.2.1
  obtain ⟨hU, hc, ho, hl⟩ := h.is i _ hs
  refine act_arm h.h.head (h.ds hs) hX.w.d ha cA f0 f3 f4 fun fr' S' d k => ?_
  have hA := hX.armed d k
  have u := hU.ni
  refine hQ fr' S' _ (fin S' (.up { L with D := { L.D with arm := ((a.num % 6 : Nat) : Int) } } (X.dr ({ L.D with arm := ((a.num % 6 : Nat) : Int) } : Dk).abs X.R) cs) rfl rfl rfl ⟨⟨⟨u.me, u.nn, u.di, u.te, u.bad, u.role, u.cand, u.lead, u.cm, u.sure, u.out⟩, hU.r, hU.du, hU.sd, ?_⟩, hc, ho, hl⟩ hA.1)
  have dk := hU.dk
  rw [hX.d] at dk
  have w := dk.v.same (D' := ({ L.D with arm := ((a.num % 6 : Nat) : Int) } : Dk).abs) rfl
  exact ⟨w.1, w.2 dk.c, dk.off, dk.room, dk.used⟩
def GH.zero : GH := ⟨fun _ => none, fun _ => [], fun _ _ => none, fun _ _ => none, fun _ _ => 0, fun _ => 0⟩
theorem gi_zero : GI n GH.zero ⟨[], 0, 0⟩ :=
 ⟨fun T c h => (by cases h), fun _ _ => rfl, fun T => gd_nil, fun U c l h => (by cases h), fun U c l h => (by cases h), fun v U c h => (by cases h), fun v T => Nat.le_refl _, fun T => Nat.zero_le _, fun T x h => (by cases h)⟩
theorem sd_zero {i : Nat} : SD n GH.zero i ⟨[], 0, 0⟩ [] :=
 ⟨⟨fun U c h => (by cases h), gd_nil, fun x h => (by cases h), fun T k h1 h2 => by have : k ≤ 0 := h2; omega, fun U l h => (by cases h), Nat.le_refl _⟩, trivial, by decide, ⟨0, Nat.le_refl _, rfl, Nat.le_refl _⟩, fun c h => (by cases h), Nat.le_refl _, by decide⟩
theorem begin_law {w0 : World} {S : St} {Q : AEnd → St → Prop} (n1 : 1 ≤ n) (n5 : n ≤ 5) (hQ : ∀ S' B W sl, WI n 0 S' B W sl GH.zero ⟨[], 0, 0⟩ 0 → Q (.ret (.ptr (some (B.w, 0)))) S') : RSim Try.prog w0 n_l15_begin [.int .i64 (n : Nat)] S Q := by
 refine raftBegin_runs (P := fun j L X => OpenP n GH.zero j ⟨[], 0, 0⟩ X) n5 (fun j hj S2 di m Q2 d hop => ?_) fun S' B l hl hP hH => ?_
 ·refine open_law (cs := []) (m := 0) (s := 0) (K := ⟨[], 0, 0⟩) (G := GH.zero) ⟨d, ⟨by simp [Dk.abs, newDk], fun x hx => (by cases hx), rfl⟩, rfl, rfl, rfl⟩ (Nat.le_refl _) (Nat.le_refl _) (Nat.le_refl _) (fun k _ _ => by rw [List.take_nil]; exact sd_zero) gi_zero ⟨by decide⟩ (Nat.zero_le _) hj n1 n5 hop
 ·have hcs : ∀ q : RL × RN, q ∈ l → ∃ i, i < n ∧ l[i]? = some q := fun q hq => by
   obtain ⟨i, hi⟩ := List.mem_iff_getElem?.1 hq
   exact ⟨i, by rw [← hl]; exact (List.getElem?_eq_some_iff.1 hi).1, hi⟩
  have hid : ((l.map fun q => Sl.up q.1 q.2 []).map Sl.idle).sum = 0 := by
   have key : ∀ m : List (RL × RN), (∀ q ∈ m, q.2.idle = 0) → ((m.map fun q => Sl.up q.1 q.2 []).map Sl.idle).sum = 0 := by
    intro m
    induction m with
    | nil => intro _; rfl
    | cons a m ih =>
     intro hm
     simp only [List.map_cons, List.sum_cons]
     have h1 := hm a (by simp)
     have h2 := ih fun q hq => hm q (List.mem_cons_of_mem _ hq)
     show a.2.idle + _ = 0
     omega
   refine key l fun q hq => ?_
   obtain ⟨i, _, hi⟩ := hcs q hq
   obtain ⟨_, _, _, _, _, e, _⟩ := hP i q hi
   exact e
  refine hQ S' B (WB.start n l) (l.map fun q => .up q.1 q.2 []) ⟨?_, by rw [List.length_map]; exact hl, by rw [List.map_map]; rfl, by rw [List.map_map]; rfl, fun v s hs => ?_, gi_zero, ⟨rfl, rfl, rfl, fun p hp => (by cases hp), rfl, rfl, fun k x hx => (by cases hx), rfl, fun k t i hk _ => (by cases hk), by show (l.map fun _ => 0).length = n; rw [List.length_map]; exact hl, fun v y hy => ?_, Nat.le_refl _, Nat.le_refl _⟩, by rw [hid]; decide, by decide, by decide, n1, n5⟩
  ·refine Hold.perm ?_ hH
   refine List.Perm.cons _ ?_
   rw [List.map_map]
   exact (List.reverse_perm l).map _
  ·rw [List.getElem?_map] at hs
   obtain ⟨q, hq, rfl⟩ := Option.map_eq_some_iff.1 hs
   obtain ⟨cs, hU, hc, ho, hlm, _⟩ := hP v q hq
   have hc0 : cs = [] := List.eq_nil_of_length_eq_zero (Nat.le_zero.1 hc)
   subst hc0
   exact ⟨hU, hc, ho, hlm⟩
  ·have hy' : (l.map fun _ => 0)[v]? = some y := hy
   have := List.mem_of_getElem? hy'
   obtain ⟨_, _, rfl⟩ := List.mem_map.1 this
   exact ⟨rfl, Nat.le_refl _⟩
end Go.VM
namespace Go.VM
open Go Go.RowKit Go.Proofs
variable {n j : Nat} {G G' G1 : GH} {K K' : KN} {S S' : St} {B B' : WP} {W W' : WB} {sl : List Sl} {t : Nat}
structure AC.Ok (a : AC) : Prop where
 kind : a.kind < 256
 node : a.node < 256
 num : a.num < 65536
 draw : a.draw < 18446744073709551616
 data : a.data.length ≤ 1000000000000000
theorem intsV_one (ks : List Int) (t : Tok) : (intsV ks t).one = true := by
 unfold intsV
 exact V.one_sl _ _ _ _
theorem act_step {w0 : World} {a : AC} {vd : V} {keep : List Int} {kt : Tok} {Q : AEnd → St → Prop} (h : WI n j S B W sl G K t) (hj : j + 1 ≤ 400) (hok : a.Ok) (hv : IsBytes vd a.data) (hkn : kt = .nil → keep = [])
  (hQ : ∀ S3 B3 W3 sl3 G3 K3 t3, B3.w = B.w → WI n (j + 1) S3 B3 W3 sl3 G3 K3 t3 → Q (.ret (.tup [])) S3) : RSim Try.prog w0 n_l15_world_act [.ptr (some (B.w, 0)), .agg (a.v vd (intsV keep kt))] S Q := by
 have b := h.b
 have hn1 := h.n1
 have hin : a.node % W.n < n := by rw [b.nn]; exact Nat.mod_lt _ (by omega)
 obtain ⟨s, hs⟩ : ∃ s, sl[a.node % W.n]? = some s := ⟨_, List.getElem?_eq_getElem (by rw [h.len]; exact hin)⟩
 refine act_runs h.h.head h.fine (by rw [b.nn]; exact hn1) h.nl rfl (h.no hs) hok.num hok.node hok.kind hv hok.data (intsV_one _ _) fun S1 A k1 hB1 cA lA nA => ?_
 have h1 : WI n j S1 B W sl G K t := h.stay k1
 generalize a.node % W.n = i at hin hs ⊢
 have look0 : LookTo w0 Q B.w i S1 := fun Q2 hq => plain_look h1 hj hin fun S3 B3 W3 sl3 G3 h3 h4 => hq S3 (hQ S3 B3 W3 sl3 G3 _ _ h3 h4)
 have stay0 : Q (.ret (.tup [])) S1 := hQ S1 B W sl G K t rfl (h1.next hj)
 have up : ∀ {r : Nat}, s.ref = some r → ∃ L X cs, s = .up L X cs ∧ L.r = r := fun {r} e => by
  cases s with
  | up L X cs => exact ⟨L, X, cs, rfl, Option.some.inj e⟩
  | dn di D cs q => cases e
 have hnA : ∀ x ∈ (Res.book B W :: sl.map Sl.res), ¬ x.own A := fun x hx ho => by
  have := x.lt (Hold.mem h.h x hx) ho
  omega
 have hnet : ∀ {l : List Pk}, (∀ p ∈ l, p ∈ W.net) → l.length ≤ W.net.length + 1 → ∀ {S2 : St} {B2 : WP}, BAft S1 B W S2 B2 { W with net := l } → Q (.ret (.tup [])) S2 := fun {l} hl hlen {S2 B2} a2 => by
  have s2 := h1.b.s2
  have bn : BI n (j + 1) G K { W with net := l } := h1.b.up.setNet (fun p hp => h1.b.net p (hl p hp)) (by omega)
  have h0 := h1.next hj
  exact hQ S2 B2 _ sl G K t a2.2 (h0.book a2 rfl rfl bn)
 refine ⟨fun _ => ⟨fun _ => look0, fun r hr Q1 hQ1 => ?_⟩, fun _ => ⟨fun _ => stay0, fun hne Q1 hQ1 => ?_⟩, fun _ => ⟨fun _ => stay0, fun hne fr Qc f0 f3 hQc => ?_⟩, fun _ => ⟨fun _ => stay0, fun hne hl fr Qc f0 f3 hQc => ?_⟩, fun _ => ⟨fun _ => look0, fun r hr hd fr Qc f0 f3 f4 f5 hQc => ?_⟩, fun _ S' a' Q2 hq => ?_, fun _ => ⟨fun _ => look0, fun hno fr Qc f0 f3 f4 hQc => ?_⟩, fun _ fr Qc f0 f3 f4 hQc => ?_⟩
 ·obtain ⟨L, X, cs, rfl, rfl⟩ := up hr
  exact act_tick h1 hj hs hok.draw hQ hQ1
 ·have hlen : W.net.length ≠ 0 := fun e => hne (List.eq_nil_of_length_eq_zero e)
  exact act_hand h1 hj (Nat.mod_lt _ (by omega)) fun S3 B3 W3 sl3 G3 K3 t3 h3 h4 => hQ1 S3 (hQ S3 B3 W3 sl3 G3 K3 t3 h3 h4)
 ·refine act_lose hB1 h1.fine hne hok.num cA f0 f3 fun fr' S' B' a' => hQc fr' S' (hnet (fun p hp => rmv_mem hp) ?_ a')
  have := rmv_len W.net (a.num % W.net.length)
  omega
 ·have hlen : W.net.length ≠ 0 := fun e => hne (List.eq_nil_of_length_eq_zero e)
  obtain ⟨p, hp⟩ : ∃ p, W.net[a.num % W.net.length]? = some p := ⟨_, List.getElem?_eq_getElem (Nat.mod_lt _ (by omega))⟩
  refine act_double hB1 h1.fine hp hok.num cA f0 f3 fun fr' S' B' a' => hQc fr' S' (hnet (fun q hq => ?_) (by simp) a')
  rcases List.mem_append.1 hq with hq | hq
  ·exact hq
  ·rw [List.mem_singleton.1 hq]; exact List.mem_of_getElem? hp
 ·obtain ⟨L, X, cs, rfl, rfl⟩ := up hr
  exact act_prop h1 hj hs hd hv cA lA hnA f0 f3 f5 hQ hQc
 ·exact act_fall h1 hj hs a' fun S3 B3 W3 sl3 G3 K3 t3 h3 h4 => hq S3 (hQ S3 B3 W3 sl3 G3 K3 t3 h3 h4)
 ·cases s with
  | up L X cs => cases hno
  | dn di D cs q => exact act_back h1 hj hs hkn cA f0 f3 f4 hQ hQc
 ·exact act_armed h1 hj hs hok.num cA f0 f3 f4 fun fr' S' sl' h2 => hQc fr' S' (hQ S' B W sl' G K t rfl h2)
theorem optV_inj {o o' : Option Nat} (h : optV o = optV o') : o = o' := by
 unfold optV at h
 injection h with h
 cases o <;> cases o' <;> simp_all
theorem nodes_eq {W0 : WB} (h0 : BookAt S B W0) (h : BookAt S B W) {a : Nat} {o o' : Option Nat} (ha : W0.nodes[a]? = some o) {b : Nat} (hb : W.nodes[b]? = some o') : W0.nodes = W.nodes := by
 obtain ⟨_, c1, _⟩ := rowf_at h0.nodes ha
 obtain ⟨_, c2, _⟩ := rowf_at h.nodes hb
 rw [c1] at c2
 injection c2 with c2
 exact (List.map_inj_right fun x y e => optV_inj e).1 c2
def InvI (n j : Nat) (S : St) (B : WP) : Prop := ∃ W sl G K t, WI n j S B W sl G K t
theorem safeI {w0 : World} {script : List (AC × List Int)} {most : Nat} (n1 : 1 ≤ n) (n5 : n ≤ 5) (hm : most ≤ 400) (hok : ∀ q ∈ script, q.1.Ok) : SafeI w0 n script most (InvI n) where
 begin_ S Q hQ := begin_law n1 n5 fun S' B W sl h => hQ S' B ⟨W, sl, _, _, _, h⟩
 step j q S B vd kt Q hj hq hv hkn hI hQ := by
  obtain ⟨W, sl, G, K, t, h⟩ := hI
  exact act_step h (by omega) (hok q (List.mem_of_getElem? hq)) hv hkn fun S3 B3 W3 sl3 G3 K3 t3 h3 h4 => hQ S3 B3 h3 ⟨W3, sl3, G3, K3, t3, h4⟩
 good j S B hI := by
  obtain ⟨W, sl, G, K, t, h⟩ := hI
  have hB : BookAt S B W := h.h.head
  exact ⟨W, hB.ex, h.b.bad⟩
theorem logsI {w0 : World} : LogsI w0 n (InvI n) where
 book j S B hI := by
  obtain ⟨W, sl, G, K, t, h⟩ := hI
  exact ⟨W, h.h.head, h.b.bad, h.b.nn, h.nl.trans h.b.nn⟩
 keep j S S' B hI k := by
  obtain ⟨W, sl, G, K, t, h⟩ := hI
  exact ⟨W, sl, G, K, t, h.stay k⟩
 pair j S B W0 a b r r' hI hB0 hba ha hb Q hQ := by
  obtain ⟨W, sl, G, K, t, h⟩ := hI
  have hB : BookAt S B W := h.h.head
  have hn1 := h.n1
  obtain ⟨o', ho'⟩ : ∃ o', W.nodes[0]? = some o' := ⟨_, List.getElem?_eq_getElem (by rw [h.nl, h.b.nn]; omega)⟩
  have hnd : W0.nodes = W.nodes := nodes_eq hB0 hB ha ho'
  rw [hnd, h.nodes, List.getElem?_map] at ha hb
  obtain ⟨s, hs, es⟩ := Option.map_eq_some_iff.1 ha
  obtain ⟨s', hs', es'⟩ := Option.map_eq_some_iff.1 hb
  cases s with
  | dn di D cs q => cases es
  | up L X cs =>
   cases s' with
   | dn di D cs q => cases es'
   | up M Y cs' =>
    have e1 : L.r = r := Option.some.inj es
    have e2 : M.r = r' := Option.some.inj es'
    subst e1; subst e2
    obtain ⟨hU, _⟩ := h.is a _ hs
    obtain ⟨hU', _⟩ := h.is b _ hs'
    refine alike_runs (h.two hs).2.2.1 (h.two hs').2.2.1 (fun k x y hx hy e => ?_) hQ
    have e3 := gd_two hU.ni.di.good hU'.ni.di.good hx hy e
    intro i hi
    exact get_take e3 (by omega)
end Go.VM
namespace Go.VM
open Go Go.RowKit Go.Proofs
theorem grow_zero {D : DS} {s f : List UInt8} (h : D.arm = 0) (ho : D.off = false) : (D.grow s f false).2.arm = 0 ∧ (D.grow s f false).2.off = false := by
 obtain ⟨b1, b2⟩ := begun_calm h
 unfold DS.grow
 split
 ·exact ⟨h, ho⟩
 split
 ·exact ⟨h, ho⟩
 split
 ·exact ⟨h, ho⟩
 split
 ·exact ⟨h, ho⟩
 ·exact ⟨b2, b1⟩
theorem sync_zero {D : DS} {s : List UInt8} (h : D.arm = 0) (ho : D.off = false) : (D.sync s).2.arm = 0 ∧ (D.sync s).2.off = false := by
 obtain ⟨b1, b2⟩ := begun_calm h
 unfold DS.sync DS.change
 split
 ·exact ⟨h, ho⟩
 split
 ·exact ⟨h, ho⟩
 split
 ·exact ⟨h, ho⟩
 split
 ·exact ⟨b2, b1⟩
 ·exact ⟨b2, b1⟩
theorem keepL_zero : ∀ (l : List (List UInt8)) (D : DS) (R : List (List UInt8)), D.arm = 0 → D.off = false → (keepL l D R).2.1.arm = 0 ∧ (keepL l D R).2.1.off = false
 | [], D, R, h, ho => sync_zero h ho
 | p :: l, D, R, h, ho => by
  obtain ⟨a, b⟩ := grow_zero (s := raftN) (f := frameB p) h ho
  have e : keepL (p :: l) D R = if (D.grow raftN (frameB p) false).1 ≠ 0 then ((D.grow raftN (frameB p) false).1, (D.grow raftN (frameB p) false).2, R) else keepL l (D.grow raftN (frameB p) false).2 (R ++ [p]) := rfl
  rw [e]
  split
  ·exact ⟨a, b⟩
  ·exact keepL_zero l _ _ a b
structure Lone (X : RN) : Prop where
 d : UpD X.D X.R
 a : X.D.arm = 0
 n : X.n = 1
 me : X.me = 0
 bad : X.bad = false
theorem Lone.keep {X : RN} {l : List (List UInt8)} (h : Lone X) (h0 : l ≠ []) (hl : (fileB (X.R ++ l)).length ≤ 1048576) : ∃ D', X.keep l = (0, X.dr D' (X.R ++ l)) ∧ Lone (X.dr D' (X.R ++ l)) := by
 have d := h.d
 obtain ⟨z1, z2⟩ := keepL_zero l X.D X.R h.a d.off
 rcases keepL_law l X.D X.R _ d.v d.c d.off d.room d.used (Nat.le_refl _) (by simp [h0]) hl with ⟨D', h1, h2⟩ | ⟨D', R', j, h1, h2, h3, _⟩
 ·refine ⟨D', ?_, h2, ?_, h.n, h.me, h.bad⟩
  ·unfold RN.keep
   simp only [h1, if_true]
  ·rw [h1] at z1; exact z1
 ·rw [h2] at z2
  rw [h3] at z2; cases z2
theorem Lone.add {X : RN} {d : List UInt8} (h : Lone X) (hd : d.length ≤ 200) (hR : (fileB X.R).length ≤ 100000) (ht : X.term ≤ 100) (hl : X.log.length ≤ 100) (hc : X.commit ≤ X.log.length) (hmt : ∀ x ∈ X.log, x.t ≤ X.term) : ∃ D' R', X.add d = (0, { (X.plus d).dr D' R' with commit := X.log.length + 1 }) ∧ Lone { (X.plus d).dr D' R' with commit := X.log.length + 1 } ∧ (fileB R').length ≤ (fileB X.R).length + 213 := by
 have hp : Lone (X.plus d) := ⟨h.d, h.a, h.n, h.me, h.bad⟩
 have hb : (recE (X.log.length + 1) ⟨X.term, d⟩).length ≤ 204 := ent_len (i := X.log.length + 1) (x := ⟨X.term, d⟩) (by omega) ht ⟨show X.term < _ by omega, hd⟩
 have hf := frameB_le (r := recE (X.log.length + 1) ⟨X.term, d⟩) (by omega)
 have hfl : (fileB (X.R ++ [recE (X.log.length + 1) ⟨X.term, d⟩])).length ≤ (fileB X.R).length + 213 := by
  rw [fileB_app, fileB_one, List.length_append]; omega
 obtain ⟨D', k1, k2⟩ := hp.keep (l := [recE (X.log.length + 1) ⟨X.term, d⟩]) (by simp) (by show (fileB (X.R ++ _)).length ≤ _; omega)
 have eR : (X.plus d).R = X.R := rfl
 rw [eR] at k1 k2
 refine ⟨D', X.R ++ [recE (X.log.length + 1) ⟨X.term, d⟩], ?_, ⟨k2.d, k2.a, k2.n, k2.me, k2.bad⟩, hfl⟩
 unfold RN.add
 simp only
 rw [k1, if_neg (by simp)]
 generalize hY : (X.plus d).dr D' (X.R ++ [recE (X.log.length + 1) ⟨X.term, d⟩]) = Y
 have y1 : Y.log = X.log ++ [⟨X.term, d⟩] := by rw [← hY]; rfl
 have y2 : Y.commit = X.commit := by rw [← hY]; rfl
 have y3 : Y.term = X.term := by rw [← hY]; rfl
 have y4 : Y.n = 1 := by rw [← hY]; exact h.n
 have y5 : Y.me = 0 := by rw [← hY]; exact h.me
 have yl : Y.log.length = X.log.length + 1 := by rw [y1]; simp
 have eA : Y.adv Y.log.length = { Y with commit := X.log.length + 1 } := by
  rw [yl]
  have e : Y.adv (X.log.length + 1) = if Y.commit < X.log.length + 1 ∧ lastT Y.log (X.log.length + 1) = Y.term then (if Y.n < 2 * (1 + cntM Y.me (X.log.length + 1) Y.mat) then { Y with commit := X.log.length + 1 } else Y.adv X.log.length) else Y := rfl
  rw [e, if_pos ⟨by omega, by rw [y1, y3]; exact lastT_get (k := X.log.length) (x := ⟨X.term, d⟩) (by simp)⟩, if_pos (by omega)]
 have eT : ∀ Z : RN, Z.n = 1 → Z.me = 0 → Z.tell = Z := fun Z h1 h2 => by
  have e : Z.asks Z.n = [] := by
   unfold RN.asks
   rw [h1, h2]; rfl
  unfold RN.tell RN.tellK
  rw [e, List.append_nil]
 rw [eA, eT { Y with commit := X.log.length + 1 } y4 y5, ← hY]
theorem Lone.runs {X : RN} (h : Lone X) (hR : X.R = []) (ht : X.term = 0) (hl : X.log = []) (hc : X.commit = 0) : ∃ Y, X.runs = (0, Y) ∧ Lone Y ∧ Y.term = 1 ∧ Y.log = [⟨1, []⟩] ∧ Y.commit = 1 ∧ Y.role = 2 ∧ Y.head = 0 ∧ Y.out = X.out ∧ (fileB Y.R).length ≤ 1000 := by
 have he : Lone X.elect := ⟨h.d, h.a, h.n, h.me, h.bad⟩
 have hb : X.elect.hardB.length ≤ 204 := by
  have e : X.elect.hardB = (RC.H 1 0).b := by
   show RC.b (.H (X.term + 1) X.me) = _
   rw [ht, h.me]; rfl
  rw [e]
  exact hard_len (by decide) (by decide)
 have hf := frameB_le (r := X.elect.hardB) (by omega)
 have eR : X.elect.R = [] := hR
 have hfl : (fileB (X.elect.R ++ [X.elect.hardB])).length ≤ 213 := by
  rw [eR, List.nil_append, fileB_one]; omega
 obtain ⟨D', k1, k2⟩ := he.keep (l := [X.elect.hardB]) (by simp) (by omega)
 unfold RN.runs
 rw [k1, if_neg (by simp)]
 generalize hR' : X.elect.R ++ [X.elect.hardB] = R' at *
 generalize hZ : (X.elect.dr D' R').stand = Z
 have z0 : Z = { X.elect.dr D' R' with votes := [true] } := by
  rw [← hZ]
  unfold RN.stand RN.pollK
  have e1 : (X.elect.dr D' R').n = 1 := h.n
  have e2 : (X.elect.dr D' R').me = 0 := h.me
  simp only [e1, e2]
  have e3 : ((List.range 1).filter fun to => to != 0) = [] := rfl
  rw [e3, List.map_nil, List.append_nil]
  rfl
 have zr : Z.role = 1 := by rw [z0]; rfl
 have zn : Z.n = 1 := by rw [z0]; exact h.n
 have zv : Z.votes = [true] := by rw [z0]
 have zl : Z.log = [] := by rw [z0]; exact hl
 have zt : Z.term = 1 := by rw [z0]; show X.term + 1 = 1; rw [ht]
 have zR : Z.R = R' := by rw [z0]; rfl
 have eC : Z.count = Z.lead.add [] := by
  unfold RN.count
  rw [if_neg]
  rw [zr, zn, zv]
  decide
 have hLd : Lone Z.lead := by
  rw [z0]
  exact ⟨k2.d, k2.a, k2.n, k2.me, k2.bad⟩
 have zc : Z.lead.commit = 0 := by rw [z0]; exact hc
 have zll : Z.lead.log = [] := zl
 have zlt : Z.lead.term = 1 := zt
 have zlR : Z.lead.R = R' := zR
 obtain ⟨D2, R2, a1, a2, a3⟩ := hLd.add (d := []) (by simp) (by rw [zlR]; omega) (by omega) (by rw [zll]; simp) (by omega) (by rw [zll]; intro x hx; cases hx)
 have zme : Z.me = 0 := by rw [z0]; exact h.me
 refine ⟨_, by rw [eC, a1], a2, zt, ?_, ?_, rfl, ?_, ?_, ?_⟩
 ·show Z.lead.log ++ [⟨Z.lead.term, []⟩] = _
  rw [zll, zlt]; rfl
 ·show Z.lead.log.length + 1 = 1
  rw [zll]; rfl
 ·show (Z.me : Int) = 0
  rw [zme]; rfl
 ·show Z.out = X.out
  rw [z0]; rfl
 ·show (fileB R2).length ≤ 1000
  rw [zlR] at a3
  omega
theorem rf_awake {w0 : World} {S : St} {Q : AEnd → St → Prop} (hQ : ∀ S', Q (.ret (.bool true)) S') : RSim Try.prog w0 n_l15_awake [] S Q := by
 refine RSim.run mixed k_l15_awake ?_ (by simp)
 simp only [b_l15_awake, go_sem]
 refine wi_call ?_
 simp only [go_sem]
 refine new_ok raftN (by decide) (by decide) fun S1 i D d hcl ho' k1 => ?_
 simp only [go_sem]
 refine wi_call ?_
 simp only [go_sem]
 refine open_law (n := 1) (cs := []) (m := 0) (s := 0) (K := ⟨[], 0, 0⟩) (G := GH.zero) (i := 0) d (Nat.le_refl _) (Nat.le_refl _) (Nat.le_refl _) (fun k _ _ => by rw [List.take_nil]; exact sd_zero) gi_zero ⟨by decide⟩ (Nat.zero_le _) (by decide) (by decide) (by decide) fun S2 L X hX hLi k2 o2 hP => ?_
 obtain ⟨cs, hU, hc, ho, hl, hid, hcm, hle, harm⟩ := hP
 have hc0 : cs = [] := List.eq_nil_of_length_eq_zero (Nat.le_zero.1 hc)
 subst hc0
 obtain ⟨u1, u2, u3⟩ := hU.du
 have u := hU.ni
 have hlim := hX.ok.limit
 have hnr : X.role ≠ 2 := fun e => by
  unfold RN.leads at hle
  rw [u.bad, e] at hle
  simp at hle
 have t1 : X.term = 0 := u1
 have t3 : X.log = [] := u3
 have tR : X.R = [] := hU.r
 simp only [go_sem]
 refine wc_ite (b := false) (by simp only [go_sem] <;> rfl) (fun h => by cases h) (fun _ => ?_)
 simp only [go_sem]
 have fin : ∀ (fr : Fr) (Sa : St) (La : RL) (Xa : RN), RaftAt Sa La Xa → Lone Xa → Xa.term = 1 → Xa.log = [⟨1, []⟩] → Xa.commit = 1 → Xa.role = 2 → Xa.head = 0 → Xa.out = [] → (fileB Xa.R).length ≤ 1000 → fr 3 = .ptr (some (La.r, 0)) → wCode (RSim Try.prog w0) s_l15_awake_0 fr Sa (resQ [.tmp 0] Q) := by
  intro fr Sa La Xa hXa hLa e1 e2 e3 e4 e5 e6 e7 f3
  obtain ⟨D', R', a1, a2, a3⟩ := hLa.add (d := [97]) (by decide) (by omega) (by omega) (by rw [e2]; decide) (by rw [e2, e3]; decide) (by rw [e2, e1]; intro x hx; rw [List.mem_singleton.1 hx]; exact Nat.le_refl _)
  have hld : Xa.leads = true := by unfold RN.leads; rw [hLa.bad, e4]; rfl
  have hpr : Xa.propose [97] = Xa.add [97] := by
   unfold RN.propose
   rw [if_neg (by decide), if_neg (by rw [hld]; decide)]
  have hRl : Xa.R.length ≤ 1000 := by have := fileB_len Xa.R; omega
  have hRoom : Xa.Room := ⟨by rw [e2]; decide, by rw [e6]; decide, by omega⟩
  simp only [s_l15_awake_0, go_sem, f3]
  refine wi_bytesSame (by simp only [go_sem] <;> rfl) (by simp only [go_sem]) ?_
  refine wi_call ?_
  simp only [go_sem]
  refine propose_runs (d := [97]) (hXa.stay (((Keeps.refl _ Sa).add _))) ⟨.at _, rfl, fun h => by cases h⟩ hRoom fun S3 L3 A3 => ?_
  rw [hpr, a1] at A3 ⊢
  simp only at A3 ⊢
  have hlog : ({ (Xa.plus [97]).dr D' R' with commit := Xa.log.length + 1 } : RN).log = [⟨1, []⟩, ⟨1, [97]⟩] := by
   show Xa.log ++ [⟨Xa.term, [97]⟩] = _
   rw [e2, e1]; rfl
  have hcm2 : ({ (Xa.plus [97]).dr D' R' with commit := Xa.log.length + 1 } : RN).commit = 2 := by
   show Xa.log.length + 1 = 2
   rw [e2]; rfl
  have htm : ({ (Xa.plus [97]).dr D' R' with commit := Xa.log.length + 1 } : RN).term = 1 := e1
  have hhd : ({ (Xa.plus [97]).dr D' R' with commit := Xa.log.length + 1 } : RN).head = 0 := e5
  generalize hZ : ({ (Xa.plus [97]).dr D' R' with commit := Xa.log.length + 1 } : RN) = Z at A3 hlog hcm2 htm hhd ⊢
  have h3 := A3.w
  have hLr := A3.2.1
  simp only [go_sem, f3]
  refine wc_ite (b := false) (by simp only [go_sem] <;> rfl) (fun h => by cases h) (fun _ => ?_)
  simp only [go_sem, f3]
  rw [← hLr]
  refine wi_call ?_
  simp only [go_sem]
  refine len_runs h3 ?_
  simp only [go_sem]
  refine wi_call ?_
  simp only [go_sem]
  have hlen : Z.log.length = 2 := by rw [hlog]; rfl
  rw [hlen]
  refine entry_runs (i := 2) (x := ⟨1, [97]⟩) h3 (by decide) (by rw [hlog]; rfl) fun S4 v4 hv4 k4 => ?_
  have cv : ∀ S, V.conv S .bytesStr v4 = some (.str (mkS [97])) := fun S => hv4.convS S
  have h4 := h3.stay k4
  have q1 : (mkS [97] == mkS [97]) = true := by rw [mkS_beq]; decide
  have f3' : fr 3 = .ptr (some (L3.r, 0)) := by rw [hLr]; exact f3
  simp only [go_sem, f3', cv, q1]
  refine wi_call ?_
  simp only [go_sem]
  refine rsure_runs h4 ?_
  rw [hcm2]
  simp only [go_sem, f3']
  refine wi_call ?_
  simp only [go_sem]
  refine len_runs h4 ?_
  rw [hlen]
  simp only [go_sem, f3']
  refine wi_call ?_
  simp only [go_sem]
  refine term_runs h4 ?_
  rw [htm]
  have q2 : decide (((1 : Nat) : Int) > 0) = true := by decide
  simp only [go_sem, f3', q2]
  refine wi_call ?_
  simp only [go_sem]
  refine head_runs h4 ?_
  rw [hhd]
  simp only [go_sem]
  exact hQ _
 refine loop_rule RSim.le (k := 21) (fun q fr Sa => ∃ (j : Nat) (La : RL) (Xa : RN), q = 21 - j ∧ j ≤ 20 ∧ RaftAt Sa La Xa ∧ Lone Xa ∧ fr 3 = .ptr (some (La.r, 0)) ∧ fr 5 = .int .i64 (j : Nat) ∧ Xa.out = [] ∧
   ((j < Xa.limit ∧ Xa.limit ≤ 20 ∧ Xa.idle = j ∧ Xa.role ≠ 2 ∧ Xa.term = 0 ∧ Xa.log = [] ∧ Xa.commit = 0 ∧ Xa.R = []) ∨ (Xa.term = 1 ∧ Xa.log = [⟨1, []⟩] ∧ Xa.commit = 1 ∧ Xa.role = 2 ∧ Xa.head = 0 ∧ (fileB Xa.R).length ≤ 1000))) ?_
  ⟨0, L, X, rfl, by decide, hX, ⟨hU.dk, harm, u.nn, u.me, u.bad⟩, by simp only [go_sem], by simp only [go_sem]; rfl, ho, .inl ⟨by omega, hlim, hid, hnr, t1, t3, hcm, tR⟩⟩
 rintro q fr Sa ⟨j, La, Xa, hq, hj, hXa, hLa, f3, f5, hout, hab⟩
 have p1 : decide ((j : Int) < 20) = decide (j < 20) := decide_eq_decide.mpr (by omega)
 rcases hab with ⟨h1, h2, h3, h4, h5, h6, h7, h8⟩ | ⟨h1, h2, h3, h4, h5, h6⟩
 ·have hlt : decide (j < 20) = true := decide_eq_true (by omega)
  rw [hlt] at p1
  have hld : Xa.leads = false := by
   unfold RN.leads
   rw [hLa.bad, decide_eq_false h4]; rfl
  simp only [l_l15_awake_0, go_sem, f3, f5, p1]
  refine wi_call ?_
  simp only [go_sem]
  refine leads_runs hXa ?_
  rw [hld]
  simp only [go_sem]
  refine wc_ite (b := true) (by simp only [go_sem] <;> rfl) (fun _ => ?_) (fun h => by cases h)
  have cv : ∀ S, V.conv S (.int .u64) (.int .i64 (j : Int)) = some (.int .u64 (j : Int)) := fun S => by
   simp only [V.conv]; rw [show IntKind.u64.wrap (j : Int) = (j : Int) from by rw [IntKind.wrap]; simp [IntKind.bits, IntKind.signed]; omega]
  have w1 : IntKind.i64.wrap ((j : Int) + 1) = ((j + 1 : Nat) : Int) := by rw [w64 (by omega) (by omega)]; omega
  simp only [go_sem, f3, f5, cv]
  refine wi_call ?_
  simp only [go_sem]
  have hwide : Xa.Wide := ⟨by rw [h6]; decide, by rw [hout]; decide, by rw [h8]; decide⟩
  refine tick_runs hXa (by omega) (by omega) hwide (by omega) fun Sb Lb A => ?_
  have hA := A.w
  have hLr := A.2.1
  by_cases hl : Xa.idle + 1 < Xa.limit
  ·have ht : Xa.tick j = (0, Xa.aged j) := by
    unfold RN.tick
    rw [if_neg (by rw [hLa.bad]; simp), if_neg h4, if_pos hl]
   rw [ht] at hA ⊢
   simp only [go_sem, f3, f5]
   refine wc_ite (b := false) (by simp only [go_sem] <;> rfl) (fun h => by cases h) (fun _ => ?_)
   simp only [go_sem, f5, w1]
   exact ⟨21 - (j + 1), by omega, j + 1, Lb, Xa.aged j, rfl, by omega, hA, ⟨hLa.d, hLa.a, hLa.n, hLa.me, hLa.bad⟩, by rw [hLr]; exact f3, rfl, hout, .inl ⟨by show j + 1 < Xa.limit; omega, h2, by show Xa.idle + 1 = j + 1; omega, h4, h5, h6, h7, h8⟩⟩
  ·have hLg : Lone (Xa.aged j) := ⟨hLa.d, hLa.a, hLa.n, hLa.me, hLa.bad⟩
   obtain ⟨Y, y1, y2, y3, y4, y5, y6, y7, y8, y9⟩ := hLg.runs h8 h5 h6 h7
   have ht : Xa.tick j = (0, Y) := by
    unfold RN.tick
    rw [if_neg (by rw [hLa.bad]; simp), if_neg h4, if_neg hl, y1]
   rw [ht] at hA ⊢
   simp only [go_sem, f3, f5]
   refine wc_ite (b := false) (by simp only [go_sem] <;> rfl) (fun h => by cases h) (fun _ => ?_)
   simp only [go_sem, f5, w1]
   exact ⟨21 - (j + 1), by omega, j + 1, Lb, Y, rfl, by omega, hA, y2, by rw [hLr]; exact f3, rfl, by rw [y8]; exact hout, .inr ⟨y3, y4, y5, y6, y7, y9⟩⟩
 ·have hld : Xa.leads = true := by
   unfold RN.leads
   rw [hLa.bad, decide_eq_true h4]; rfl
  cases hlt : decide (j < 20)
  ·rw [hlt] at p1
   simp only [l_l15_awake_0, go_sem, f3, f5, p1]
   refine wc_ite (b := false) (by simp only [go_sem] <;> rfl) (fun h => by cases h) (fun _ => ?_)
   simp only [go_sem]
   exact fin _ Sa La Xa hXa hLa h1 h2 h3 h4 h5 hout h6 (by simp only [go_sem, f3])
  ·rw [hlt] at p1
   simp only [l_l15_awake_0, go_sem, f3, f5, p1]
   refine wi_call ?_
   simp only [go_sem]
   refine leads_runs hXa ?_
   rw [hld]
   simp only [go_sem]
   refine wc_ite (b := false) (by simp only [go_sem] <;> rfl) (fun h => by cases h) (fun _ => ?_)
   simp only [go_sem]
   exact fin _ Sa La Xa hXa hLa h1 h2 h3 h4 h5 hout h6 (by simp only [go_sem, f3])
end Go.VM
namespace Go.Proofs.Ytemimcgomickoaa
open Go.VM Go.ChangeShapes Go.WideShapes Go.ChangeAt Go.RowKit
def ractTy : Ty := .field 1 (.int .u8) (.field 1 (.int .u8) (.field 1 (.int .u16) (.field 1 (.int .u64) (.field 1 (.slice 1 1 (.int .u8)) (.field 1 (.slice 1 8 (.int .i64)) .fin)))))
theorem ract_ty {c : List V} (h : HasTy ractTy c) : ∃ a : AC × List Int, ActR c a ∧ a.1.Ok := by
 obtain ⟨x1, y1, rfl, _, ⟨n1, rfl, h1, h2⟩, x2, y2, rfl, _, ⟨n2, rfl, h3, h4⟩, x3, y3, rfl, _, ⟨n3, rfl, h5, h6⟩, x4, y4, rfl, _, ⟨n4, rfl, h7, h8⟩, x5, y5, rfl, h9, h10, x6, y6, rfl, h11, h12, rfl⟩ := h
 obtain ⟨v5, rfl⟩ := List.length_eq_one_iff.1 h9
 obtain ⟨v6, rfl⟩ := List.length_eq_one_iff.1 h11
 obtain ⟨p, hp, hpl⟩ := bytes_ty h10
 obtain ⟨ks, t, rfl, ht, hkl, hk⟩ := ints_ty (by decide) h12
 have h1 : 0 ≤ n1 := h1
 have h2 : n1 ≤ 255 := h2
 have h3 : 0 ≤ n2 := h3
 have h4 : n2 ≤ 255 := h4
 have h5 : 0 ≤ n3 := h5
 have h6 : n3 ≤ 65535 := h6
 have h7 : 0 ≤ n4 := h7
 have h8 : n4 ≤ 18446744073709551615 := h8
 have e1 : ((n1.toNat : Nat) : Int) = n1 := by omega
 have e2 : ((n2.toNat : Nat) : Int) = n2 := by omega
 have e3 : ((n3.toNat : Nat) : Int) = n3 := by omega
 have e4 : ((n4.toNat : Nat) : Int) = n4 := by omega
 refine ⟨(⟨n1.toNat, n2.toNat, n3.toNat, n4.toNat, p⟩, ks), ⟨v5, t, ?_, hp, ht⟩, ⟨by show n1.toNat < 256; omega, by show n2.toNat < 256; omega, by show n3.toNat < 65536; omega, by show n4.toNat < 18446744073709551616; omega, Nat.le_trans hpl (by decide)⟩⟩
 simp only [AC.v, e1, e2, e3, e4, List.cons_append, List.nil_append, intsV]
theorem raftSafe_law {w0 : World} {S : St} {Q : AEnd → St → Prop} {nodes : Nat} {v : V} {t : Tok} {script : List (AC × List Int)} (hnd : nodes < 256) (hs : IsSlice ActR 6 v script t) (hok : ∀ q ∈ script, q.1.Ok) (hsl : script.length * 64 ≤ reachBytes) (hQ : ∀ S', Q (.ret (.bool true)) S') :
  RSim Try.prog w0 n_l15_RaftSafe [.int .u8 (nodes : Nat), v] S Q := by
 have hb : reachBytes = 140737488351232 := rfl
 exact raftSafe_runs hnd hs (by omega) (fun Q' hQ' => rf_awake hQ') (safeI (by omega) (by have := Nat.mod_lt nodes (show 0 < 5 by decide); omega) (by decide) hok) hQ
theorem raftLogs_law {w0 : World} {S : St} {Q : AEnd → St → Prop} {nodes : Nat} {v : V} {t : Tok} {script : List (AC × List Int)} (hnd : nodes < 256) (hs : IsSlice ActR 6 v script t) (hok : ∀ q ∈ script, q.1.Ok) (hsl : script.length * 64 ≤ reachBytes) (hQ : ∀ S', Q (.ret (.bool true)) S') :
  RSim Try.prog w0 n_l15_RaftLogs [.int .u8 (nodes : Nat), v] S Q := by
 have hb : reachBytes = 140737488351232 := rfl
 exact raftLogs_runs hnd hs (by omega) (fun Q' hQ' => rf_awake hQ') (safeI (by omega) (by have := Nat.mod_lt nodes (show 0 < 5 by decide); omega) (by decide) hok) logsI hQ
end Go.Proofs.Ytemimcgomickoaa
