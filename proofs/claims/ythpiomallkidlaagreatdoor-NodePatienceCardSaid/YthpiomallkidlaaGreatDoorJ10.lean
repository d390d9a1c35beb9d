/-
  Parts: NPrim, NPeers, NTable, NName, NPrims.
-/
import Derived.Test.YthpiomallkidlaaGreatDoorJ05
import Derived.Test.YthpiomallkidlaaGreatDoorJ09
import Derived.Test.YthpiomallkidlaaGreatDoorJ06
import Derived.Test.YthpiomallkidlaaGreatDoorJ08
set_option maxRecDepth 20000
set_option linter.unusedVariables false
set_option linter.unusedSimpArgs false
namespace Go.VM
open Go Go.RowKit Go.Proofs Go.Maps Go.Sort Go.Shelf
def keysN : List V → CSt → KX → Bool := fun args S k => match args with
 | [.map (some r)] => cond (small S.n) (k (.func n_keysItK [] [.ptr (some (S.n, 0))]) (S.add (.fix [.map (some r)]))) false
 | _ => false
theorem keysN_ok {w0 : World} {args : List V} {S : CSt} {k : KX} {Q : AEnd → St → Prop} (h : keysN args S k = true) (hk : ∀ v S', k v S' = true → Q (.ret v) S'.st) : RSim Tryz.prog w0 n_keysK args S.st Q := by
 unfold keysN at h
 split at h
 ·rename_i r
  cases hs : small S.n with
  | false => rw [hs] at h; cases h
  | true =>
   rw [hs] at h
   have h2 := hk _ _ h
   rw [CSt.add_st hs] at h2
   exact mapsKeys_runsK h2
 ·cases h
def strV : V → Option (List UInt8)
 | .str s => some s.data.toList
 | _ => none
def strsE : List (V × V × Nat) → Option (List (List UInt8))
 | [] => some []
 | e :: r => match strV e.1, strsE r with
  | some s, some l => some (s :: l)
  | _, _ => none
theorem strsE_ok : ∀ {es : List (V × V × Nat)} {ks : List (List UInt8)}, strsE es = some ks → es.map (·.1) = ks.map fun k => V.str (mkS k)
 | [], ks, h => by injection h with h; subst h; rfl
 | (x, y) :: r, ks, h => by
  unfold strsE at h
  split at h
  ·rename_i s l hs hl
   injection h with h
   subst h
   have : x = .str (mkS s) := by
    cases x <;> simp only [strV] at hs <;> try (cases hs)
    rfl
   rw [List.map_cons, List.map_cons, strsE_ok hl, this]
  ·cases h
def insB (x : List UInt8) : List (List UInt8) → List (List UInt8)
 | [] => [x]
 | y :: r => cond (leB x y) (x :: y :: r) (y :: insB x r)
def isoB (l : List (List UInt8)) : List (List UInt8) := l.foldr insB []
theorem insB_perm (x : List UInt8) : ∀ l, (insB x l).Perm (x :: l)
 | [] => List.Perm.refl _
 | y :: r => by
  unfold insB
  cases leB x y with
  | true => exact List.Perm.refl _
  | false => exact ((insB_perm x r).cons y).trans (List.Perm.swap x y r)
theorem isoB_perm : ∀ l, (isoB l).Perm l
 | [] => List.Perm.refl _
 | x :: r => (insB_perm x _).trans ((isoB_perm r).cons x)
def pairB (le : List UInt8 → List UInt8 → Bool) : List (List UInt8) → Bool
 | [] => true
 | x :: r => r.all (le x) && pairB le r
theorem pairB_ok {le : List UInt8 → List UInt8 → Bool} : ∀ {l}, pairB le l = true → l.Pairwise fun a b => le a b = true
 | [], _ => .nil
 | x :: r, h => by
  unfold pairB at h
  rw [Bool.and_eq_true, List.all_eq_true] at h
  exact .cons h.1 (pairB_ok h.2)
def natNd : List Nat → Bool
 | [] => true
 | x :: r => r.all (fun y => !(Nat.beq x y)) && natNd r
theorem natNd_ok : ∀ {l}, natNd l = true → l.Nodup
 | [], _ => .nil
 | x :: r, h => by
  unfold natNd at h
  rw [Bool.and_eq_true, List.all_eq_true] at h
  refine List.nodup_cons.2 ⟨fun hx => ?_, natNd_ok h.2⟩
  have := h.1 x hx
  simp at this
def sortedB (es : List (V × V × Nat)) (c : Nat) (ks l : List (List UInt8)) : Bool := pairB leB l && (pairB (fun a b => !(leB b a)) l && (l.all (fun k => Nat.ble k.length 1000000) && (natNd (es.map (·.2.2)) && (es.all (fun e => Nat.blt e.2.2 c) && Nat.ble ks.length 1000000))))
def sortedN : List V → CSt → KX → Bool := fun args S k => match args with
 | [.func f [] [.ptr (some (b, 0))]] => cond (Nat.beq f n_keysItK) (match S.hp.get b with
  | some (.fix [.map (some r)]) => match S.hp.get r with
   | some (.map es c) => match strsE es with
    | some ks => cond (sortedB es c ks (isoB ks)) (k (.sl ((isoB ks).map fun s => .str (mkS s)) ks.length 1 (match ks with | [] => .nil | _ => .no)) S) false
    | none => false
   | _ => false
  | _ => false) false
 | _ => false
theorem leB_refl (a : List UInt8) : leB a a = true := by
 simp only [leB, decide_eq_true_eq]
 exact List.le_refl a
theorem sortedN_ok {w0 : World} {args : List V} {S : CSt} {k : KX} {Q : AEnd → St → Prop} (h : sortedN args S k = true) (hk : ∀ v S', k v S' = true → Q (.ret v) S'.st) : RSim Tryz.prog w0 n_sortedK args S.st Q := by
 unfold sortedN at h
 split at h
 ·rename_i f b
  cases hf : Nat.beq f n_keysItK with
  | false => rw [hf] at h; cases h
  | true =>
   rw [hf] at h
   obtain rfl := Nat.eq_of_beq_eq_true hf
   replace h : (match S.hp.get b with | some (.fix [.map (some r)]) => _ | _ => false) = true := h
   split at h
   ·rename_i r hb
    split at h
    ·rename_i es c hr
     split at h
     ·rename_i ks hks
      cases hB : sortedB es c ks (isoB ks) with
      | false => rw [hB] at h; cases h
      | true =>
       rw [hB] at h
       have h2 := hk _ _ h
       unfold sortedB at hB
       simp only [Bool.and_eq_true] at hB
       obtain ⟨h3, h4, h5, h6, h7, h8⟩ := hB
       have hp := isoB_perm ks
       have hs : sortSK ks = isoB ks := by
        have e : sortSK ks = (isoB ks).mergeSort leB := (mergeSort_of_perm hp).symm
        rw [e]
        exact List.mergeSort_of_pairwise (pairB_ok h3)
       have hnd : ks.Nodup := hp.nodup_iff.1 ((pairB_ok h4).imp fun {a b} hab e => by
        subst e
        rw [leB_refl] at hab
        cases hab)
       refine sortedKeys_runsK (b := b) (r := r) (es := es) (c := c) (ks := ks) hb hr ⟨strsE_ok hks, hnd, fun x hx => ?_, natNd_ok h6, fun e he => ?_⟩ (by have := Nat.le_of_ble_eq_true h8; omega) ?_
       ·have := Nat.le_of_ble_eq_true (List.all_eq_true.1 h5 x (hp.mem_iff.2 hx))
        unfold maxLen; omega
       ·have := List.all_eq_true.1 h7 e he
        rwa [Nat.blt_eq] at this
       ·rw [hs]
        cases ks with
        | nil => exact h2
        | cons x r => exact h2
     ·cases h
    ·cases h
   ·cases h
 ·cases h
end Go.VM
namespace Go.VM
open Go Go.RowKit Go.Proofs
def St.skip (S : St) : St := ⟨fun j => if j = S.n then none else S.hp j, S.n + 1⟩
def St.skips (S : St) : Nat → St
 | 0 => S
 | j + 1 => (S.skips j).skip
theorem St.skips_n (S : St) : ∀ j, (S.skips j).n = S.n + j
 | 0 => rfl
 | j + 1 => by show (S.skips j).n + 1 = _; rw [St.skips_n S j]; rfl
theorem St.skips_hp (S : St) : ∀ j i, (S.skips j).hp i = if S.n ≤ i ∧ i < S.n + j then none else S.hp i
 | 0, i => by rw [if_neg (by omega)]; rfl
 | j + 1, i => by
  show (if i = (S.skips j).n then none else (S.skips j).hp i) = _
  rw [St.skips_n, St.skips_hp S j]
  by_cases h1 : i = S.n + j
  ·rw [if_pos h1, if_pos (by omega)]
  ·rw [if_neg h1]
   by_cases h2 : S.n ≤ i ∧ i < S.n + j
   ·rw [if_pos h2, if_pos (by omega)]
   ·rw [if_neg h2, if_neg (by omega)]
theorem wi_range {cl : Cl} {fr : Fr} {S : St} {K : Fr → St → Prop} {Kp : V → St → Prop} {dst : Option Nat} {x : Arg} {t : List Item} {m c : Nat} {es : List (V × V × Nat)} (hx : x.ev fr = .map (some m)) (hr : S.hp m = some (.map es c))
  (h : wItems cl t (fr.put dst (.iter S.n)) (S.add (.iter (some m) c [] c)) K Kp) : wItems cl (.run ⟨dst, none, .e (.range x)⟩ :: t) fr S K Kp :=
 wi_e (by simp only [wE, hx, hr]; exact h)
theorem wi_next {cl : Cl} {fr : Fr} {S : St} {K : Fr → St → Prop} {Kp : V → St → Prop} {dst : Option Nat} {x : Arg} {t : List Item} {j m c : Nat} {seen : List Nat} {es : List (V × V × Nat)} (hx : x.ev fr = .iter j) (hj : S.hp j = some (.iter (some m) c seen c)) (hr : S.hp m = some (.map es c))
  (hc : ∀ e ∈ es, e.2.2 < c) (h0 : (es.all fun e => seen.contains e.2.2) = true → wItems cl t (fr.put dst (.tup [.bool false])) S K Kp)
  (h1 : ∀ e ∈ es, seen.contains e.2.2 = false → wItems cl t (fr.put dst (.tup [.bool true, e.1, e.2.1])) (S.set j (.iter (some m) c (seen ++ [e.2.2]) c)) K Kp) : wItems cl (.run ⟨dst, none, .e (.next x)⟩ :: t) fr S K Kp :=
 wi_e (by simp only [wE, hx, hj, hr]; exact ⟨trivial, trivial, hc, h0, h1⟩)
theorem entry_find {es : List (V × V × Nat)} {e : V × V × Nat} (he : e ∈ es) (hb : (es.map (·.2.2)).Nodup) : (es.find? fun y => y.2.2 == e.2.2) = some e := by
 induction es with
 | nil => cases he
 | cons y r ih =>
  rw [List.map_cons, List.nodup_cons] at hb
  rw [List.find?_cons]
  rcases List.mem_cons.1 he with rfl | he
  ·simp
  ·have : (y.2.2 == e.2.2) = false := by
    rw [beq_eq_false_iff_ne]
    intro e2
    exact hb.1 (List.mem_map.2 ⟨e, he, e2.symm⟩)
   rw [this]
   exact ih he hb.2
theorem seen_more {es : List (V × V × Nat)} {seen : List Nat} {e : V × V × Nat} (he : e ∈ es) (hb : (es.map (·.2.2)).Nodup) (hs : seen.contains e.2.2 = false) :
  (es.filter fun y => !seen.contains y.2.2).Perm (e :: es.filter fun y => !(seen ++ [e.2.2]).contains y.2.2) := by
 induction es with
 | nil => cases he
 | cons y r ih =>
  rw [List.map_cons, List.nodup_cons] at hb
  rcases List.mem_cons.1 he with rfl | he
  ·have h1 : (r.filter fun y => !(seen ++ [e.2.2]).contains y.2.2) = r.filter fun y => !seen.contains y.2.2 := by
    apply List.filter_congr
    intro y hy
    have : y.2.2 ≠ e.2.2 := fun h => hb.1 (List.mem_map.2 ⟨y, hy, h⟩)
    simp [this]
   rw [List.filter_cons, List.filter_cons, h1, hs, if_pos (by rfl), if_neg (by simp)]
  ·have hne : y.2.2 ≠ e.2.2 := fun h => hb.1 (List.mem_map.2 ⟨e, he, h.symm⟩)
   have h2 := ih he hb.2
   rw [List.filter_cons, List.filter_cons]
   by_cases hy : seen.contains y.2.2 = true
   ·rw [if_neg (by rw [hy]; simp), if_neg (by simp at hy; simp [hy])]
    exact h2
   ·have hy' : seen.contains y.2.2 = false := by simpa using hy
    rw [if_pos (by rw [hy']; rfl), if_pos (by simp at hy; simp [hy, hne])]
    exact (h2.cons y).trans (List.Perm.swap e y _)
theorem wi_append1 {cl : Cl} {fr : Fr} {S : St} {K : Fr → St → Prop} {Kp : V → St → Prop} {dst : Option Nat} {bytes : Nat} {s x : Arg} {t : List Item} {l : List V} {y : V} {o : Nat} (hs : s.ev fr = if l = [] then .sl [] 0 1 .nil else .msl o 0 l.length 1) (hc : l ≠ [] → S.cells o = some l)
  (hx : (x.ev fr).elems S 1 = some (1, [y])) (hr : roomOk (l.length + 1) bytes = true) (h : wItems cl t (fr.put dst (.msl S.n 0 (l.length + 1) 1)) ((if l = [] then S else S.kill o).add (.cells (l ++ [y]))) K Kp) :
  wItems cl (.run ⟨dst, none, .e (.append 1 bytes true s x)⟩ :: t) fr S K Kp := by
 refine wi_e ?_
 by_cases hl : l = []
 ·subst hl
  rw [if_pos rfl] at hs h
  simp only [wE, hx, hs, appendTo, grown]
  have hr' : roomOk (0 + 1) bytes = true := hr
  rw [if_neg (by rw [hr']; simp)]
  exact h
 ·rw [if_neg hl] at hs h
  simp only [wE, hx, hs, appendTo, hc hl, grown]
  rw [if_neg (by rw [hr]; simp)]
  simp only [Option.bind_some, Nat.zero_add, Nat.mul_one, Nat.le_refl, ↓reduceIte, List.drop_zero, List.take_length]
  have e : (if l.length ≤ l.length then some (V.msl S.n 0 (l.length + 1) 1, (S.kill o).add (.cells (l ++ [y]))) else none) = some (V.msl S.n 0 (l.length + 1) 1, (S.kill o).add (.cells (l ++ [y]))) := if_pos (Nat.le_refl _)
  first | exact h | (rw [e]; exact h)
def toI : V → Int
 | .int _ n => n
 | _ => 0
theorem toI_ints (l : List Int) : (l.map (V.int .i64)).map toI = l := by
 rw [List.map_map]
 exact List.map_id' _ |>.symm ▸ rfl
theorem ints_of {es : List (V × V × Nat)} (h : ∀ e ∈ es, ∃ p, e.1 = V.int .i64 p) : es.map (·.1) = ((es.map (·.1)).map toI).map (V.int .i64) := by
 rw [List.map_map, List.map_map]
 refine List.map_congr_left fun e he => ?_
 obtain ⟨p, hp⟩ := h e he
 show e.1 = V.int .i64 (toI e.1)
 rw [hp]; rfl
structure PeerM (S : St) (r c : Nat) (es : List (V × V × Nat)) (ks : List Int) (seen : List Nat) (l : List Int) (fr : Fr) (S1 : St) : Prop where
 len : l.length = seen.length
 n : S1.n = S.n + 1 + l.length
 hp : ∀ i, S1.hp i = if i = S.n then some (.iter (some r) c seen c) else if S.n < i ∧ i < S.n + l.length then none else if i = S.n + l.length then some (.cells (l.map (V.int .i64))) else S.hp i
 perm : ∃ rest, (es.filter fun e => !seen.contains e.2.2).map (·.1) = rest.map (V.int .i64) ∧ (l ++ rest).Perm ks
 f3 : fr 3 = if l = [] then .sl [] 0 1 .nil else .msl (S.n + l.length) 0 l.length 1
 f11 : fr 11 = .iter S.n
theorem peers_runs {w0 : World} {S : St} {Q : AEnd → St → Prop} {o r c : Nat} {a0 a1 a2 : V} {cs : List V} {es : List (V × V × Nat)} {ks : List Int}
  (ho : S.cells o = some (a0 :: a1 :: a2 :: .map (some r) :: cs)) (hr : S.hp r = some (.map es c)) (hrn : r < S.n) (hks : es.map (·.1) = ks.map (V.int .i64)) (hb : (es.map (·.2.2)).Nodup) (hc : ∀ e ∈ es, e.2.2 < c) (hn : ks.length ≤ 1000)
  (h0 : ks = [] → Q (.ret (.sl [] 0 1 .nil)) S.skip) (h1 : ks ≠ [] → Q (.ret (.msl (S.n + ks.length) 0 ks.length 1)) ((S.skips ks.length).add (.cells ((sortI ks).map (V.int .i64))))) :
  RSim Tryz.prog w0 n_prim_Prim_Peers [.ptr (some (o, 0))] S Q := by
 refine RSim.forget (i := S.n) ?_
 refine RSim.run mixed k_prim_Prim_Peers ?_ (by simp)
 simp only [b_prim_Prim_Peers, go_sem]
 refine wc_ite (b := false) (by simp only [go_sem] <;> rfl) (fun h => by cases h) (fun _ => ?_)
 simp only [go_sem, ho]
 refine wi_range (by simp only [go_sem] <;> rfl) hr ?_
 simp only [go_sem]
 refine loop_rule RSim.le (k := ks.length) (fun m fr1 S1 => ∃ (seen : List Nat) (l : List Int), m = ks.length - l.length ∧ l.length ≤ ks.length ∧ PeerM S r c es ks seen l fr1 S1) ?_ ?_
 ·rintro m fr1 S1 ⟨seen, l, rfl, hl, hP⟩
  have f3 := hP.f3
  have f11 := hP.f11
  have hit : S1.hp S.n = some (.iter (some r) c seen c) := by rw [hP.hp, if_pos rfl]
  have hr1 : S1.hp r = some (.map es c) := by rw [hP.hp, if_neg (by omega), if_neg (by omega), if_neg (by omega)]; exact hr
  unfold l_prim_Prim_Peers_0
  simp only [wc_seq, wc_reg]
  refine wi_next (by show fr1 11 = _; exact f11) hit hr1 hc (fun hall => ?_) (fun e he hne => ?_)
  ·simp only [go_sem]
   refine wc_ite (b := false) (by simp only [go_sem] <;> rfl) (fun h => by cases h) (fun _ => ?_)
   simp only [go_sem]
   refine wi_call ?_
   have hfil : (es.filter fun e => !seen.contains e.2.2) = [] := by
    rw [List.filter_eq_nil_iff]
    intro e he
    have := List.all_eq_true.1 hall e he
    simp at this
    simp [this]
   have hperm : l.Perm ks := by
    obtain ⟨rest, h2, h3⟩ := hP.perm
    rw [hfil] at h2
    have : rest = [] := by simpa using h2.symm
    subst this
    simpa using h3
   have hlen : l.length = ks.length := hperm.length_eq
   simp only [go_sem, f3]
   by_cases hn0 : l = []
   ·rw [if_pos hn0] at f3 ⊢
    have hk0 : ks = [] := by subst hn0; exact List.Perm.nil_eq hperm |>.symm
    refine sortNil_runs ?_
    simp only [go_sem, f3]
    have e : S1.kill S.n = S.skip := by
     unfold St.kill St.skip
     congr 1
     ·funext i
      rw [hP.hp]
      subst hn0
      by_cases h : i = S.n
      ·rw [if_pos h, if_pos h]
      ·rw [if_neg h, if_neg h, if_neg h, if_neg (by simp only [List.length_nil]; omega), if_neg (by simpa using h)]
     ·rw [hP.n, hn0]; rfl
    rw [e]
    exact h0 hk0
   ·rw [if_neg hn0] at f3 ⊢
    have hk0 : ks ≠ [] := fun h => hn0 (by subst h; exact List.Perm.eq_nil hperm)
    have hpos : 0 < l.length := List.length_pos_iff.2 hn0
    refine sortInt_runs (l := l) (o := S.n + l.length) ?_ hn0 (by omega) ?_
    ·unfold St.cells
     rw [hP.hp, if_neg (by omega), if_neg (by omega), if_pos rfl]
    ·simp only [go_sem, f3]
     have e : (S1.set (S.n + l.length) (.cells ((sortI l).map (V.int .i64)))).kill S.n = (S.skips ks.length).add (.cells ((sortI ks).map (V.int .i64))) := by
      rw [sortI_perm hperm, ← hlen]
      unfold St.kill St.set St.add
      congr 1
      ·funext i
       show (if i = S.n then none else if i = S.n + l.length then _ else S1.hp i) = if i = (S.skips l.length).n then _ else (S.skips l.length).hp i
       rw [hP.hp, St.skips_n, St.skips_hp]
       by_cases h : i = S.n
       ·rw [if_pos h, if_neg (by omega), if_pos (by omega)]
       ·rw [if_neg h]
        by_cases h2 : i = S.n + l.length
        ·rw [if_pos h2, if_pos h2]
        ·simp only [if_neg h2, if_neg h]
         by_cases h3 : S.n < i ∧ i < S.n + l.length
         ·rw [if_pos h3, if_pos ⟨Nat.le_of_lt h3.1, h3.2⟩]
         ·rw [if_neg h3, if_neg (by omega)]
      ·rw [St.skips_n, hP.n]; omega
     rw [e, hlen]
     exact h1 hk0
  ·have hf := entry_find he hb
   obtain ⟨p, hp⟩ : ∃ p, e.1 = V.int .i64 p := by
    have h2 : e.1 ∈ es.map (·.1) := List.mem_map.2 ⟨e, he, rfl⟩
    rw [hks] at h2
    obtain ⟨p, _, h3⟩ := List.mem_map.1 h2
    exact ⟨p, h3.symm⟩
   have hrs : (r = S.n) = False := eq_false (by omega)
   simp only [go_sem]
   refine wc_ite (b := true) (by simp only [go_sem] <;> rfl) (fun _ => ?_) (fun h => by cases h)
   simp only [go_sem, f11, hrs, hr1, hf, hp, List.getLast?_append, List.getLast?_singleton, Option.some_or, Option.bind_some, Option.map_some]
   obtain ⟨rest, h2, h3⟩ := hP.perm
   have hints : ∀ x ∈ es, ∃ p, x.1 = V.int .i64 p := fun x hx => by
    have h2 : x.1 ∈ es.map (·.1) := List.mem_map.2 ⟨x, hx, rfl⟩
    rw [hks] at h2
    obtain ⟨p, _, h3⟩ := List.mem_map.1 h2
    exact ⟨p, h3.symm⟩
   have h4 := ((seen_more he hb hne).map (·.1)).map toI
   rw [h2, toI_ints, List.map_cons, List.map_cons, hp] at h4
   have h5 : (l ++ [p] ++ ((es.filter fun y => !(seen ++ [e.2.2]).contains y.2.2).map (·.1)).map toI).Perm ks := by
    rw [List.append_assoc]
    exact ((List.Perm.append_left l h4).symm).trans h3
   have hl2 : l.length + 1 ≤ ks.length := by
    have := h5.length_eq
    simp only [List.length_append, List.length_cons, List.length_nil] at this
    omega
   refine wi_append1 (l := l.map (V.int .i64)) (y := V.int .i64 p) (o := S.n + l.length) ?_ (fun hl0 => ?_) ?_ ?_ ?_
   ·simp only [go_sem]
    rw [f3]
    simp
   ·unfold St.cells
    have hpos : 0 < l.length := by
     rcases l with _ | _
     ·exact absurd rfl hl0
     ·exact Nat.succ_pos _
    show (match (if S.n + l.length = S.n then _ else S1.hp (S.n + l.length)) with | some (.cells cs) => some cs | _ => none) = _
    rw [if_neg (by omega), hP.hp, if_neg (by omega), if_neg (by omega), if_pos rfl]
   ·simp only [go_sem] <;> rfl
   ·unfold roomOk
    simp
    omega
   ·simp only [go_sem]
    refine ⟨ks.length - (l ++ [p]).length, ?_, seen ++ [e.2.2], l ++ [p], rfl, ?_, ?_⟩
    ·rw [List.length_append]; simp only [List.length_cons, List.length_nil]; omega
    ·rw [List.length_append]; exact hl2
    ·have hSn : (if l.map (V.int .i64) = [] then S1.set S.n (.iter (some r) c (seen ++ [e.2.2]) c) else (S1.set S.n (.iter (some r) c (seen ++ [e.2.2]) c)).kill (S.n + l.length)).n = S1.n := by split <;> rfl
     have hn1 := hP.n
     refine ⟨?_, ?_, fun i => ?_, ⟨_, ints_of (es := es.filter fun y => !(seen ++ [e.2.2]).contains y.2.2) fun x hx => hints x (List.mem_filter.1 hx).1, h5⟩, ?_, ?_⟩
     ·rw [List.length_append, List.length_append, hP.len]; rfl
     ·show (if l.map (V.int .i64) = [] then _ else _ : St).n + 1 = _
      rw [hSn, hn1, List.length_append]; rfl
     ·show (if i = (if l.map (V.int .i64) = [] then _ else _ : St).n then some (AObj.cells (l.map (V.int .i64) ++ [V.int .i64 p])) else (if l.map (V.int .i64) = [] then _ else _ : St).hp i) = _
      rw [hSn, hn1, List.length_append, List.length_singleton, List.map_append, List.map_cons, List.map_nil]
      by_cases a1 : i = S.n + 1 + l.length
      ·rw [if_pos a1, if_neg (by omega), if_neg (by omega), if_pos (by omega)]
      ·rw [if_neg a1]
       by_cases a2 : l = []
       ·subst a2
        simp only [List.length_nil, List.map_nil, ↓reduceIte, Nat.add_zero] at a1 ⊢
        show (if i = S.n then _ else S1.hp i) = _
        by_cases a3 : i = S.n
        ·rw [if_pos a3, if_pos a3]
        ·rw [if_neg a3, if_neg a3, hP.hp, if_neg a3, if_neg (by simp only [List.length_nil]; omega), if_neg (by simpa using a3), if_neg (by omega), if_neg (by omega)]
       ·have a4 : 0 < l.length := List.length_pos_iff.2 a2
        have a5 : ¬ l.map (V.int .i64) = [] := by simpa using a2
        rw [if_neg a5]
        show (if i = S.n + l.length then none else if i = S.n then _ else S1.hp i) = _
        by_cases a3 : i = S.n
        ·rw [if_neg (by omega), if_pos a3, if_pos a3]
        ·rw [if_neg a3, if_neg a3, hP.hp, if_neg a3]
         by_cases a6 : i = S.n + l.length
         ·rw [if_pos a6, if_pos (by omega)]
         ·simp only [if_neg a6]
          by_cases a7 : S.n < i ∧ i < S.n + l.length
          ·rw [if_pos a7, if_pos (by omega)]
          ·rw [if_neg a7, if_neg (by omega), if_neg (by omega)]
     ·simp only [go_sem, List.append_eq_nil_iff, List.cons_ne_self, and_false, if_false, List.length_append, List.length_singleton, List.length_map, hn1, St.set]
      rw [show S.n + 1 + l.length = S.n + (l.length + 1) by omega]
     ·simp only [go_sem]
      exact f11
 ·refine ⟨[], [], rfl, Nat.zero_le _, rfl, rfl, fun i => ?_, ⟨ks, ?_, List.Perm.refl _⟩, by simp only [go_sem] <;> rfl, by simp only [go_sem] <;> rfl⟩
  ·show (if i = S.n then _ else _) = _
   by_cases h : i = S.n
   ·rw [if_pos h, if_pos h]
   ·rw [if_neg h, if_neg h, if_neg (by simp only [List.length_nil]; omega), if_neg (by simpa using h)]
  ·rw [List.filter_eq_self.2 (by simp), hks]
def CSt.skip (S : CSt) : CSt := ⟨S.hp.put none S.n, Nat.succ S.n⟩
def CSt.skips (S : CSt) : Nat → CSt
 | 0 => S
 | j + 1 => (S.skips j).skip
theorem CSt.skip_st {S : CSt} (h : small S.n = true) : S.skip.st = S.st.skip := by
 unfold CSt.skip CSt.st St.skip
 congr 1
 funext i
 exact Hp.get_put none S.hp S.n i h
theorem CSt.skips_n (S : CSt) : ∀ j, (S.skips j).n = S.n + j
 | 0 => rfl
 | j + 1 => by show (S.skips j).n + 1 = _; rw [CSt.skips_n S j]; rfl
theorem small_mono {i j : Nat} (h : small j = true) (hi : i ≤ j) : small i = true := by
 unfold small at *
 rw [Nat.blt_eq] at *
 omega
theorem CSt.skips_st {S : CSt} : ∀ {j : Nat}, small (S.n + j) = true → (S.skips j).st = S.st.skips j
 | 0, _ => rfl
 | j + 1, h => by
  have h1 : small (S.n + j) = true := small_mono h (by omega)
  show (S.skips j).skip.st = (S.st.skips j).skip
  rw [CSt.skip_st (by rw [CSt.skips_n]; exact h1), CSt.skips_st h1]
def intsE : List (V × V × Nat) → Option (List Int)
 | [] => some []
 | e :: r => match e.1, intsE r with
  | .int .i64 p, some l => some (p :: l)
  | _, _ => none
theorem intsE_ok : ∀ {es : List (V × V × Nat)} {ks : List Int}, intsE es = some ks → es.map (·.1) = ks.map (V.int .i64)
 | [], ks, h => by injection h with h; subst h; rfl
 | (x, y) :: r, ks, h => by
  unfold intsE at h
  split at h
  ·rename_i p l hp hl
   injection h with h
   subst h
   have hp : x = .int .i64 p := hp
   rw [List.map_cons, List.map_cons, intsE_ok hl, hp]
  ·cases h
def insI (x : Int) : List Int → List Int
 | [] => [x]
 | y :: r => cond (decide (x ≤ y)) (x :: y :: r) (y :: insI x r)
def isoI (l : List Int) : List Int := l.foldr insI []
theorem insI_perm (x : Int) : ∀ l, (insI x l).Perm (x :: l)
 | [] => List.Perm.refl _
 | y :: r => by
  unfold insI
  cases decide (x ≤ y) with
  | true => exact List.Perm.refl _
  | false => exact ((insI_perm x r).cons y).trans (List.Perm.swap x y r)
theorem isoI_perm : ∀ l, (isoI l).Perm l
 | [] => List.Perm.refl _
 | x :: r => (insI_perm x _).trans ((isoI_perm r).cons x)
def pairI : List Int → Bool
 | [] => true
 | x :: r => r.all (fun y => decide (x ≤ y)) && pairI r
theorem pairI_ok : ∀ {l}, pairI l = true → l.Pairwise fun a b => decide (a ≤ b) = true
 | [], _ => .nil
 | x :: r, h => by
  unfold pairI at h
  rw [Bool.and_eq_true, List.all_eq_true] at h
  exact .cons h.1 (pairI_ok h.2)
theorem isoI_eq {l : List Int} (h : pairI (isoI l) = true) : sortI l = isoI l := by
 rw [← sortI_perm (isoI_perm l)]
 exact List.mergeSort_of_pairwise (pairI_ok h)
def peersB (S : CSt) (r c : Nat) (es : List (V × V × Nat)) (ks : List Int) : Bool := Nat.blt r S.n && (small (S.n + ks.length) && (natNd (es.map (·.2.2)) && (es.all (fun e => Nat.blt e.2.2 c) && (Nat.ble ks.length 1000 && pairI (isoI ks)))))
def peersK (S : CSt) (k : KX) (ks : List Int) : Bool := match ks with
 | [] => k (.sl [] 0 1 .nil) S.skip
 | p :: l => k (.msl (S.n + (p :: l).length) 0 (p :: l).length 1) ((S.skips (p :: l).length).add (.cells ((isoI (p :: l)).map (V.int .i64))))
def peersN : List V → CSt → KX → Bool := fun args S k => match args with
 | [.ptr (some (o, 0))] => match S.hp.get o with
  | some (.cells (_ :: _ :: _ :: .map (some r) :: _)) => match S.hp.get r with
   | some (.map es c) => match intsE es with
    | some ks => cond (peersB S r c es ks) (peersK S k ks) false
    | none => false
   | _ => false
  | _ => false
 | _ => false
theorem peersN_ok {w0 : World} {args : List V} {S : CSt} {k : KX} {Q : AEnd → St → Prop} (h : peersN args S k = true) (hk : ∀ v S', k v S' = true → Q (.ret v) S'.st) : RSim Tryz.prog w0 n_prim_Prim_Peers args S.st Q := by
 unfold peersN at h
 split at h
 ·rename_i o
  split at h
  ·rename_i a0 a1 a2 r cs ho
   split at h
   ·rename_i es c hr
    split at h
    ·rename_i ks hks
     cases hB : peersB S r c es ks with
     | false => rw [hB] at h; cases h
     | true =>
      rw [hB] at h
      replace h : peersK S k ks = true := h
      unfold peersB at hB
      simp only [Bool.and_eq_true] at hB
      obtain ⟨b1, b2, b3, b4, b5, b6⟩ := hB
      have ho' : S.st.cells o = some (a0 :: a1 :: a2 :: .map (some r) :: cs) := by
       show (match S.hp.get o with | some (.cells cs) => some cs | _ => none) = _
       rw [ho]
      refine peers_runs ho' hr (by rwa [Nat.blt_eq] at b1) (intsE_ok hks) (natNd_ok b3) (fun e he => ?_) (Nat.le_of_ble_eq_true b5) (fun e => ?_) (fun hne => ?_)
      ·have := List.all_eq_true.1 b4 e he
       rwa [Nat.blt_eq] at this
      ·subst e
       have h2 := hk _ _ h
       rw [CSt.skip_st (small_mono b2 (by omega))] at h2
       exact h2
      ·cases ks with
       | nil => exact absurd rfl hne
       | cons p l =>
        have h2 := hk _ _ h
        rw [CSt.add_st (by rw [CSt.skips_n]; exact b2), CSt.skips_st b2] at h2
        rw [isoI_eq b6]
        exact h2
    ·cases h
   ·cases h
  ·cases h
 ·cases h
end Go.VM
namespace Go.VM
open Go Go.RowKit Go.Proofs
end Go.VM
namespace Go.VM
open Go Go.RowKit Go.Proofs
def nameB (b : UInt8) : Bool := (97 ≤ b && b ≤ 122) || (48 ≤ b && b ≤ 57) || b == 46 || b == 45
def nameOk (s : List UInt8) : Bool := s.all nameB && decide (1 ≤ s.length) && decide (s.length ≤ 32)
theorem u8_ge (b c : UInt8) : decide ((b.toNat : Int) ≥ (c.toNat : Int)) = decide (c ≤ b) := by
 simp only [UInt8.le_iff_toNat_le]; congr 1; simp
theorem u8_le (b c : UInt8) : decide ((b.toNat : Int) ≤ (c.toNat : Int)) = decide (b ≤ c) := by
 simp only [UInt8.le_iff_toNat_le]; congr 1; simp
theorem u8_eq (b c : UInt8) : ((b.toNat : Int) == (c.toNat : Int)) = (b == c) := by
 rw [Bool.eq_iff_iff]; simp [UInt8.toNat_inj, Int.ofNat_inj]
theorem diskName_body {w0 : World} {fr : Fr} {S : St} {Q : CPost} {s : List UInt8} {j : Nat} {b : UInt8} (f0 : fr 0 = .str (mkS s)) (f6 : fr 6 = .int .i64 j) (hb : s[j]? = some b)
  (hQ : ∀ fr', fr' 0 = fr 0 → fr' 5 = fr 5 → fr' 6 = fr 6 → fr' 2 = fr 2 → nameB b = true → Q .normal fr' S) (hQ' : ∀ fr', fr' 2 = .bool false → nameB b = false → Q .ret fr' S) : wCode (RSim Tryz.prog w0) k_disk_Name_0 fr S Q := by
 obtain ⟨c1, h1⟩ : ∃ c, decide (97 ≤ b) = c := ⟨_, rfl⟩
 obtain ⟨c2, h2⟩ : ∃ c, decide (b ≤ 122) = c := ⟨_, rfl⟩
 obtain ⟨c3, h3⟩ : ∃ c, decide (48 ≤ b) = c := ⟨_, rfl⟩
 obtain ⟨c4, h4⟩ : ∃ c, decide (b ≤ 57) = c := ⟨_, rfl⟩
 obtain ⟨c5, h5⟩ : ∃ c, (b == 46) = c := ⟨_, rfl⟩
 obtain ⟨c6, h6⟩ : ∃ c, (b == 45) = c := ⟨_, rfl⟩
 have hn : nameB b = (c1 && c2 || c3 && c4 || c5 || c6) := by simp only [nameB, h1, h2, h3, h4, h5, h6]
 have e1 : decide ((b.toNat : Int) ≥ 97) = c1 := (u8_ge b 97).trans h1
 have e2 : decide ((b.toNat : Int) ≤ 122) = c2 := (u8_le b 122).trans h2
 have e3 : decide ((b.toNat : Int) ≥ 48) = c3 := (u8_ge b 48).trans h3
 have e4 : decide ((b.toNat : Int) ≤ 57) = c4 := (u8_le b 57).trans h4
 have e5 : ((b.toNat : Int) == 46) = c5 := (u8_eq b 46).trans h5
 have e6 : ((b.toNat : Int) == 45) = c6 := (u8_eq b 45).trans h6
 rw [hn] at hQ hQ'
 clear hn h1 h2 h3 h4 h5 h6
 simp only [k_disk_Name_0, go_sem, f0, f6, hb, e1, e2, e3, e4, e5, e6]
 cases c1
 all_goals (try simp only [go_sem, f0, f6, hb, e1, e2, e3, e4, e5, e6])
 all_goals (try ((refine wc_ite (b := false) (by simp only [go_sem] <;> rfl) (fun h => by cases h) (fun _ => ?_); simp only [go_sem]; exact hQ _ (by simp only [go_sem]) (by simp only [go_sem]) (by simp only [go_sem, f6]) (by simp only [go_sem]) rfl); done))
 all_goals (try ((refine wc_ite (b := true) (by simp only [go_sem] <;> rfl) (fun _ => ?_) (fun h => by cases h); simp only [go_sem]; exact hQ' _ (by simp only [go_sem]) rfl); done))
 all_goals cases c2
 all_goals (try simp only [go_sem, f0, f6, hb, e1, e2, e3, e4, e5, e6])
 all_goals (try ((refine wc_ite (b := false) (by simp only [go_sem] <;> rfl) (fun h => by cases h) (fun _ => ?_); simp only [go_sem]; exact hQ _ (by simp only [go_sem]) (by simp only [go_sem]) (by simp only [go_sem, f6]) (by simp only [go_sem]) rfl); done))
 all_goals (try ((refine wc_ite (b := true) (by simp only [go_sem] <;> rfl) (fun _ => ?_) (fun h => by cases h); simp only [go_sem]; exact hQ' _ (by simp only [go_sem]) rfl); done))
 all_goals cases c3
 all_goals (try simp only [go_sem, f0, f6, hb, e1, e2, e3, e4, e5, e6])
 all_goals (try ((refine wc_ite (b := false) (by simp only [go_sem] <;> rfl) (fun h => by cases h) (fun _ => ?_); simp only [go_sem]; exact hQ _ (by simp only [go_sem]) (by simp only [go_sem]) (by simp only [go_sem, f6]) (by simp only [go_sem]) rfl); done))
 all_goals (try ((refine wc_ite (b := true) (by simp only [go_sem] <;> rfl) (fun _ => ?_) (fun h => by cases h); simp only [go_sem]; exact hQ' _ (by simp only [go_sem]) rfl); done))
 all_goals cases c4
 all_goals (try simp only [go_sem, f0, f6, hb, e1, e2, e3, e4, e5, e6])
 all_goals (try ((refine wc_ite (b := false) (by simp only [go_sem] <;> rfl) (fun h => by cases h) (fun _ => ?_); simp only [go_sem]; exact hQ _ (by simp only [go_sem]) (by simp only [go_sem]) (by simp only [go_sem, f6]) (by simp only [go_sem]) rfl); done))
 all_goals (try ((refine wc_ite (b := true) (by simp only [go_sem] <;> rfl) (fun _ => ?_) (fun h => by cases h); simp only [go_sem]; exact hQ' _ (by simp only [go_sem]) rfl); done))
 all_goals cases c5
 all_goals (try simp only [go_sem, f0, f6, hb, e1, e2, e3, e4, e5, e6])
 all_goals (try ((refine wc_ite (b := false) (by simp only [go_sem] <;> rfl) (fun h => by cases h) (fun _ => ?_); simp only [go_sem]; exact hQ _ (by simp only [go_sem]) (by simp only [go_sem]) (by simp only [go_sem, f6]) (by simp only [go_sem]) rfl); done))
 all_goals (try ((refine wc_ite (b := true) (by simp only [go_sem] <;> rfl) (fun _ => ?_) (fun h => by cases h); simp only [go_sem]; exact hQ' _ (by simp only [go_sem]) rfl); done))
 all_goals cases c6
 all_goals (try simp only [go_sem, f0, f6, hb, e1, e2, e3, e4, e5, e6])
 all_goals (try ((refine wc_ite (b := false) (by simp only [go_sem] <;> rfl) (fun h => by cases h) (fun _ => ?_); simp only [go_sem]; exact hQ _ (by simp only [go_sem]) (by simp only [go_sem]) (by simp only [go_sem, f6]) (by simp only [go_sem]) rfl); done))
 all_goals (try ((refine wc_ite (b := true) (by simp only [go_sem] <;> rfl) (fun _ => ?_) (fun h => by cases h); simp only [go_sem]; exact hQ' _ (by simp only [go_sem]) rfl); done))
theorem diskName_runs {w0 : World} {S : St} {Q : AEnd → St → Prop} {s : List UInt8} (hs : s.length ≤ 1000000000000000) (hQ : Q (.ret (.bool (nameOk s))) S) : RSim Tryz.prog w0 n_disk_Name [.str (mkS s)] S Q := by
 refine RSim.run mixed k_disk_Name ?_ (by simp)
 simp only [b_disk_Name, go_sem]
 refine loop_rule RSim.le (k := s.length) (fun m fr S1 => ∃ j : Nat, m = s.length - j ∧ j ≤ s.length ∧ S1 = S ∧ fr 0 = .str (mkS s) ∧ fr 5 = .int .i64 s.length ∧ fr 6 = .int .i64 j ∧ (s.take j).all nameB = true) ?_
  ⟨0, rfl, Nat.zero_le _, rfl, by simp only [go_sem], by simp only [go_sem], by simp only [go_sem, Int.natCast_zero], by simp⟩
 rintro m fr S1 ⟨j, hm, hj, hS, f0, f5, f6, ha⟩
 subst hm; subst hS
 simp only [l_disk_Name_0, go_sem, f5, f6]
 refine wc_ite (b := decide ((j : Int) < s.length)) (by simp only [go_sem]) (fun hc => ?_) (fun hc => ?_)
 ·have hj2 : j < s.length := by have := of_decide_eq_true hc; omega
  have hb : s[j]? = some (s[j]'hj2) := List.getElem?_eq_getElem hj2
  have hw : IntKind.i64.wrap ((j : Int) + 1) = ((j + 1 : Nat) : Int) := by rw [w64 (by omega) (by omega)]; omega
  simp only [go_sem]
  refine diskName_body (j := j) (s := s) (by simp only [go_sem]; exact f0) (by simp only [go_sem]; exact f6) hb (fun fr' g0 g5 g6 _ hn => ?_) (fun fr' g2 hn => ?_)
  ·simp only [go_sem] at g0 g5 g6
   simp only [go_sem, g6, f6, hw]
   refine ⟨_, by omega, j + 1, rfl, by omega, by simp only [go_sem, g0, f0], by simp only [go_sem, g5, f5], by simp only [go_sem], ?_⟩
   rw [List.take_add_one, List.all_append, ha, hb]
   simpa using hn
  ·simp only [go_sem, g2]
   have : nameOk s = false := by
    have : s.all nameB = false := by
     rw [Bool.eq_false_iff]
     intro h
     rw [List.all_eq_true] at h
     rw [h _ (List.getElem_mem hj2)] at hn
     cases hn
    simp [nameOk, this]
   rw [this] at hQ
   exact hQ
 ·have hje : j = s.length := by have := of_decide_eq_false hc; omega
  subst hje
  rw [List.take_length] at ha
  have e1 : decide ((s.length : Int) ≥ 1) = decide (1 ≤ s.length) := by congr 1; simp; omega
  have e2 : decide ((s.length : Int) ≤ 32) = decide (s.length ≤ 32) := by congr 1; simp; omega
  have e : nameOk s = (decide (1 ≤ s.length) && decide (s.length ≤ 32)) := by simp [nameOk, ha]
  rw [e] at hQ
  simp only [go_sem, s_disk_Name_0, go_sem, f0, e1, e2]
  cases h1 : decide (1 ≤ s.length) <;> simp only [go_sem, f0, e2] <;> simpa only [h1, Bool.false_and, Bool.true_and] using hQ
def nameZ (n : Nat) : Bool := cond (Nat.ble 97 n) (Nat.ble n 122) (cond (Nat.ble 48 n) (Nat.ble n 57) (cond (Nat.beq n 46) true (Nat.beq n 45)))
theorem nameZ_eq (b : UInt8) : nameZ b.toNat = nameB b := by
 have h1 : Nat.ble 97 b.toNat = decide (97 ≤ b) := by rw [Bool.eq_iff_iff, Nat.ble_eq, decide_eq_true_iff, UInt8.le_iff_toNat_le]; rfl
 have h2 : Nat.ble b.toNat 122 = decide (b ≤ 122) := by rw [Bool.eq_iff_iff, Nat.ble_eq, decide_eq_true_iff, UInt8.le_iff_toNat_le]; rfl
 have h3 : Nat.ble 48 b.toNat = decide (48 ≤ b) := by rw [Bool.eq_iff_iff, Nat.ble_eq, decide_eq_true_iff, UInt8.le_iff_toNat_le]; rfl
 have h4 : Nat.ble b.toNat 57 = decide (b ≤ 57) := by rw [Bool.eq_iff_iff, Nat.ble_eq, decide_eq_true_iff, UInt8.le_iff_toNat_le]; rfl
 have h5 : Nat.beq b.toNat 46 = (b == 46) := by rw [Bool.eq_iff_iff, Nat.beq_eq, beq_iff_eq, ← UInt8.toNat_inj]; rfl
 have h6 : Nat.beq b.toNat 45 = (b == 45) := by rw [Bool.eq_iff_iff, Nat.beq_eq, beq_iff_eq, ← UInt8.toNat_inj]; rfl
 unfold nameZ nameB
 rw [h1, h2, h3, h4, h5, h6]
 by_cases p : 97 ≤ b
 ·have q : (48 ≤ b) := by rw [UInt8.le_iff_toNat_le] at p ⊢; exact Nat.le_trans (by decide) p
  have q2 : ¬ b ≤ 57 := by rw [UInt8.le_iff_toNat_le] at p ⊢; intro h; exact absurd (Nat.le_trans p h) (by decide)
  have q3 : (b == 46) = false := by rw [beq_eq_false_iff_ne]; rintro rfl; exact absurd p (by decide)
  have q4 : (b == 45) = false := by rw [beq_eq_false_iff_ne]; rintro rfl; exact absurd p (by decide)
  simp [p, q, q2, q3, q4]
 ·by_cases q : 48 ≤ b
  ·have q3 : (b == 46) = false := by rw [beq_eq_false_iff_ne]; rintro rfl; exact absurd q (by decide)
   have q4 : (b == 45) = false := by rw [beq_eq_false_iff_ne]; rintro rfl; exact absurd q (by decide)
   simp [p, q, q3, q4]
  ·cases h : (b == 46) <;> simp [p, q]
noncomputable def allZ (l : List UInt8) : Bool := List.rec (motive := fun _ => Bool) true (fun b _ ih => cnd (nameZ b.toNat) ih false) l
theorem allZ_eq : ∀ l : List UInt8, allZ l = l.all nameB
 | [] => rfl
 | b :: r => by
  show cnd (nameZ b.toNat) (allZ r) false = _
  rw [nameZ_eq, allZ_eq r, List.all_cons]
  cases nameB b <;> rfl
noncomputable def nameN : List V → CSt → KX → Bool := fun args S k => match args with
 | [v] => asStr v fun s => cnd (Nat.ble (lenL (strL s)) 32) (cnd (Nat.ble 1 (lenL (strL s))) (cnd (allZ (strL s)) (k (.bool true) S) (k (.bool false) S)) (k (.bool false) S)) false
 | _ => false
theorem nameN_ok {w0 : World} {args : List V} {S : CSt} {k : KX} {Q : AEnd → St → Prop} (h : nameN args S k = true) (hk : ∀ v S', k v S' = true → Q (.ret v) S'.st) : RSim Tryz.prog w0 n_disk_Name args S.st Q := by
 unfold nameN at h
 split at h
 ·rename_i v
  replace h := asStr_ok h
  obtain ⟨s, rfl, h⟩ := h
  rw [lenL_eq, allZ_eq] at h
  have e : s = mkS (strL s) := (mkS_strL s).symm
  rw [e]
  generalize strL s = l at h
  replace h := cond_f h
  obtain ⟨h1, h⟩ := h
  have h1 := ble_n h1
  refine diskName_runs (by omega) ?_
  have key : ∀ b, k (.bool b) S = true → nameOk l = b → Q (.ret (.bool (nameOk l))) S.st := fun b h e => by rw [e]; exact hk _ _ h
  rcases cond_cases h with ⟨h2, h⟩ | ⟨h2, h⟩
  ·have h2 := ble_n h2
   rcases cond_cases h with ⟨h3, h⟩ | ⟨h3, h⟩
   ·exact key _ h (by simp [nameOk, h1, h2, h3])
   ·exact key _ h (by simp [nameOk, h3])
  ·refine key _ h ?_
   have : ¬ 1 ≤ l.length := fun q => by rw [Nat.ble_eq_true_of_le q] at h2; cases h2
   simp [nameOk, this]
 ·cases h
end Go.VM
namespace Go.VM
open Go Go.Proofs
noncomputable def primL : List (Nat × (List V → CSt → KX → Bool)) := [(n_disk_Name, nameN), (n_keysK, keysN), (n_sortedK, sortedN), (n_prim_Prim_Peers, peersN)]
noncomputable def primOf (l : List (Nat × (List V → CSt → KX → Bool))) : PrimX := fun f => List.rec (motive := fun _ => Option (List V → CSt → KX → Bool)) none (fun q _ ih => cond (Nat.beq f q.1) (some q.2) ih) l
theorem primOf_ok {P : Program} {w0 : World} : ∀ {l : List (Nat × (List V → CSt → KX → Bool))}, (∀ q ∈ l, ∀ args S k (Q : AEnd → St → Prop), q.2 args S k = true → (∀ v S', k v S' = true → Q (.ret v) S'.st) → RSim P w0 q.1 args S.st Q) → PrimOk P w0 (primOf l)
 | [], _ => fun f p hp => by cases hp
 | q :: l, h => fun f p hp => by
  have hp' : cond (Nat.beq f q.1) (some q.2) (primOf l f) = some p := hp
  cases hb : Nat.beq f q.1 <;> rw [hb] at hp'
  ·exact primOf_ok (fun x hx => h x (List.mem_cons_of_mem _ hx)) f p hp'
  ·injection hp' with hp'
   rw [beq_n hb, ← hp']
   exact h q (List.mem_cons_self ..)
theorem primL_ok {w0 : World} : ∀ q ∈ primL, ∀ args S k (Q : AEnd → St → Prop), q.2 args S k = true → (∀ v S', k v S' = true → Q (.ret v) S'.st) → RSim Tryz.prog w0 q.1 args S.st Q := by
 intro q hq
 unfold primL at hq
 simp only [List.mem_cons, List.not_mem_nil, or_false] at hq
 rcases hq with rfl | rfl | rfl | rfl
 ·exact fun args S k Q h hk => nameN_ok h hk
 ·exact fun args S k Q h hk => keysN_ok h hk
 ·exact fun args S k Q h hk => sortedN_ok h hk
 ·exact fun args S k Q h hk => peersN_ok h hk
noncomputable def primA : PrimX := primOf primL
theorem primA_ok (w0 : World) : PrimOk Tryz.prog w0 primA := primOf_ok primL_ok
end Go.VM
