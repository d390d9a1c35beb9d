/-
  Parts: VmTop, VmFin, VmSet, VmRow, VmSep, DCodes, PCodes, DLay, DSort, DName, DBase, DGet.
-/
import Derived.Test.YtemimcgomickoaaL03
import Derived.ProofKit
import Derived.SizedLaws
import Derived.Test.YtemimcgomickoaaRows
import Derived.Test.YtemimcgomickoaaProg
import Derived.KernelRfl
import Derived.Shelf.SlIter.Nil
import Derived.Shelf.SortM.Plain
import Derived.Shelf.SortM.SortNone
import Derived.Ground.GgzProg
import Derived.Ground.SlgmProg
set_option linter.unusedVariables false
set_option linter.unusedSimpArgs false
set_option maxRecDepth 20000
set_option maxRecDepth 100000
namespace Go.VM
open Go Go.RowKit
inductive Ty
 | bool | int (k : IntKind) | str | slice (sz bytes : Nat) (e : Ty) | fin | field (s : Nat) (a r : Ty)
def HasTy : Ty → List V → Prop
 | .bool, cs => ∃ b, cs = [.bool b]
 | .int k, cs => ∃ n, cs = [.int k n] ∧ k.min ≤ n ∧ n ≤ k.max
 | .str, cs => ∃ s, cs = [.str s] ∧ s.size ≤ reachBytes
 | .slice sz bytes e, cs => ∃ (L : List (List V)) (t : Tok), cs = [.sl L.flatten L.length sz t] ∧ (t = .nil ∧ L = [] ∨ t = .no) ∧ L.length * bytes ≤ reachBytes ∧ ∀ c ∈ L, c.length = sz ∧ HasTy e c
 | .fin, cs => cs = []
 | .field s a r, cs => ∃ x y, cs = x ++ y ∧ x.length = s ∧ HasTy a x ∧ HasTy r y
mutual
def tyIs (P : Program) : Ty → TypeId → Bool
 | .bool, t => match P.underlying t with | some .bool => true | _ => false
 | .int k, t => match P.underlying t with | some (.int k') => decide (k = k') | _ => false
 | .str, t => match P.underlying t with | some .string => true | _ => false
 | .slice sz bytes e, t => match P.underlying t with | some (.slice e') => decide (P.cellsOf e' = sz) && decide (P.bytesOf e' = bytes) && decide (sz ≠ 0) && tyIs P e e' | _ => false
 | .fin, _ => false
 | .field s a r, t => match P.underlying t with
  | some (.struct fs) => (match fs.toList with
   | f :: fr => decide (f.offset = 0) && decide (P.cellsOf f.type = s) && decide (0 + s ≤ P.cellsOf t) && tyIs P a f.type && fieldsIs P r fr (0 + s) (P.cellsOf t)
   | [] => false)
  | _ => false
def fieldsIs (P : Program) : Ty → List Field → Nat → Nat → Bool
 | .fin, [], off, tot => decide (off = tot)
 | .field s a r, f :: fs, off, tot => decide (f.offset = off) && decide (P.cellsOf f.type = s) && decide (off + s ≤ tot) && tyIs P a f.type && fieldsIs P r fs (off + s) tot
 | _, _, _, _ => false
end
def g0 (W : World) : G := { ice := fun b p => W.cell? ⟨b, p, none⟩, loc := fun _ => (0, 0), n := 0, bs := fun _ => 0, nb := W.heap.size }
theorem relW_start (W : World) : RelW W (g0 W) St.empty W := by
 refine ⟨Below.refl _ _, rfl, rfl, fun _ _ _ h => h, fun i x h => ?_, fun i j x y h => ?_⟩
 ·cases h
 ·cases h
section
variable {H : Type} {enc : TypeId × Value → H} {P : Program} {W : World}
theorem mapM_some {α β : Type} {f : α → Option β} : ∀ {l : List α} {r : List β}, l.mapM f = some r → r.length = l.length ∧ ∀ (i : Nat) (a : α), l[i]? = some a → f a = r[i]?
 | [], r, h => by simp at h; subst h; exact ⟨rfl, fun i a h => by simp at h⟩
 | a :: l, r, h => by
  rw [List.mapM_cons] at h
  obtain ⟨b, hb, h⟩ := Option.bind_eq_some_iff.1 h
  obtain ⟨r', hr, h⟩ := Option.bind_eq_some_iff.1 h
  injection h with h; subst h
  obtain ⟨h1, h2⟩ := mapM_some hr
  refine ⟨by simp [h1], fun i x hx => ?_⟩
  cases i with
  | zero => simp at hx; subst hx; simpa using hb
  | succ i => simpa using h2 i x (by simpa using hx)
theorem cells_read {base : Nat} {a : Addr} {n : Nat} {cs : List Value} (h : W.cells? base a n = some cs) : cs.length = n ∧ ∀ i, i < n → W.cell? (a.add i) = cs[i]? := by
 unfold World.cells? at h
 split at h
 ·obtain ⟨h1, h2⟩ := mapM_some h
  exact ⟨by simpa using h1, fun i hi => h2 i i (by simp [hi])⟩
 ·cases h
theorem weights_all {e : TypeId} : ∀ {l : List (DataW H)} {d : DataW H}, d ∈ l → ∀ m ∈ d.weights P e, m ∈ DataW.weightsAll P e l
 | d0 :: l, d, h, m, hm => by
  simp only [DataW.weightsAll, List.mem_append]
  rcases List.mem_cons.1 h with rfl | h
  ·exact .inl hm
  ·exact .inr (weights_all h m hm)
theorem rows_of {sz : Nat} {e : Ty} {b p : Nat} : ∀ (len : Nat) (K : ∀ i, i < len → ∃ cs vs, cs.length = sz ∧ (∀ j, j < sz → W.cell? ⟨b, p + i * sz + j, none⟩ = cs[j]?) ∧ RelL (g0 W) vs cs ∧ Ones cs ∧ HasTy e vs),
  ∃ (L : List (List V)) (us : List Value), L.length = len ∧ (∀ c ∈ L, c.length = sz ∧ HasTy e c) ∧ RelL (g0 W) L.flatten us ∧ Ones us ∧ us.length = len * sz ∧ ∀ j, j < len * sz → W.cell? ⟨b, p + j, none⟩ = us[j]?
 | 0, _ => ⟨[], [], rfl, fun _ h => (by cases h), rfl, fun _ h => (by cases h), by simp, fun j h => by omega⟩
 | len + 1, K => by
  obtain ⟨L, us, h1, h2, h3, h4, h5, h6⟩ := rows_of len fun i hi => K i (by omega)
  obtain ⟨cs, vs, k1, k2, k3, k4, k5⟩ := K len (by omega)
  refine ⟨L ++ [vs], us ++ cs, by simp [h1], fun c hc => ?_, ?_, h4.append k4, by rw [List.length_append, h5, k1, Nat.add_mul, Nat.one_mul], fun j hj => ?_⟩
  ·rcases List.mem_append.1 hc with hc | hc
   ·exact h2 c hc
   ·simp at hc; subst hc; exact ⟨by rw [k3.len, k1], k5⟩
  ·rw [List.flatten_append]
   simp only [List.flatten_cons, List.flatten_nil, List.append_nil]
   exact h3.append k3
  ·rcases Nat.lt_or_ge j (len * sz) with h | h
   ·rw [List.getElem?_append_left (by omega)]
    exact h6 j h
   ·rw [List.getElem?_append_right (by omega), h5]
    rw [Nat.add_mul, Nat.one_mul] at hj
    rw [← k2 (j - len * sz) (by omega)]
    congr 2; omega
mutual
theorem open_ty : ∀ (ty : Ty) {t : TypeId} {fuel : Nat} {cs : List Value} {x : DataW H × List MemPlace}, tyIs P ty t = true → DataW.trod enc P W 0 (fun _ => true) true fuel t cs = some x → (∀ n ∈ x.1.weights P t, n ≤ reachBytes) → ∃ vs, RelL (g0 W) vs cs ∧ Ones cs ∧ HasTy ty vs
 | .bool, t, fuel, cs, x, h, hx, hw => by
  simp only [tyIs] at h
  split at h <;> (try (cases h; done))
  rename_i ht
  obtain ⟨b, rfl, _⟩ := DataW.trod_bool ht hx
  exact ⟨[.bool b], ⟨_, _, rfl, rfl, rfl⟩, fun u hu => by simp at hu; subst hu; rfl, b, rfl⟩
 | .int k, t, fuel, cs, x, h, hx, hw => by
  simp only [tyIs] at h
  split at h <;> (try (cases h; done))
  rename_i k' ht
  have h := of_decide_eq_true h; subst h
  obtain ⟨n, rfl, _, hwf⟩ := DataW.trod_int ht hx
  refine ⟨[.int k n], ⟨_, _, rfl, rfl, rfl⟩, fun u hu => by simp at hu; subst hu; rfl, n, rfl, ?_⟩
  simpa [Lit.wf] using hwf
 | .str, t, fuel, cs, x, h, hx, hw => by
  simp only [tyIs] at h
  split at h <;> (try (cases h; done))
  rename_i ht
  obtain ⟨s, rfl, rfl, _⟩ := DataW.trod_string ht hx
  have hs : s.size ≤ reachBytes := by simpa [DataW.weights] using hw
  exact ⟨[.str s], ⟨_, _, rfl, rfl, rfl⟩, fun u hu => by simp at hu; subst hu; rfl, s, rfl, hs⟩
 | .slice sz bytes e, t, fuel, cs, x, h, hx, hw => by
  simp only [tyIs] at h
  split at h <;> (try (cases h; done))
  rename_i e' ht
  simp only [Bool.and_eq_true, decide_eq_true_eq] at h
  obtain ⟨⟨⟨hsz, hby⟩, h0⟩, he⟩ := h
  rcases DataW.trod_slice ht hx with ⟨rfl, _⟩ | ⟨a, len, cap, elems, rest, n, _, rfl, rfl, _, hlc, hm, hel, hat, hrest, _⟩
  ·exact ⟨[.sl [] 0 sz .nil], ⟨_, _, rfl, ⟨by simp, .inl ⟨rfl, rfl, rfl, rfl⟩⟩, rfl⟩, fun u hu => by simp at hu; subst hu; rfl, [], .nil, rfl, .inl ⟨rfl, rfl⟩, by simp, fun _ hc => by cases hc⟩
  ·simp only [DataW.weights, ht] at hw
   have hcap : len * bytes ≤ reachBytes := by
    have := hw _ List.mem_cons_self
    rw [List.length_map, List.length_map, hel, hby] at this
    exact Nat.le_trans (Nat.mul_le_mul_right _ (by omega)) this
   have hone : Ones [Value.slice (some a) len cap] := fun u hu => by simp at hu; subst hu; rfl
   rcases Nat.eq_zero_or_pos cap with hc | hc
   ·subst hc
    obtain rfl : len = 0 := by omega
    exact ⟨[.sl [] 0 sz .no], ⟨_, _, rfl, ⟨by simp, .inr (.inr ⟨.inl rfl, rfl, rfl, a, rfl⟩)⟩, rfl⟩, hone, [], .no, rfl, .inr rfl, by simp, fun _ hc => by cases hc⟩
   ·have hspot : a.spot = none := by
     have hall : ∃ y, (W.cells? 0 (a.add (0 * P.cellsOf e')) (P.cellsOf e')).bind (DataW.trod enc P W 0 (fun _ => true) true n e') = some y := by
      rcases Nat.eq_zero_or_pos len with hl | hl
      ·have := (hrest rfl).2 0 (by omega)
       rw [hl] at this
       rw [this]
       exact ⟨_, List.getElem?_eq_getElem (by have := (hrest rfl).1; omega)⟩
      ·rw [hat 0 hl]
       exact ⟨_, List.getElem?_eq_getElem (by omega)⟩
     obtain ⟨y, hy⟩ := hall
     obtain ⟨cs', h1, _⟩ := Option.bind_eq_some_iff.1 hy
     obtain ⟨h2, h3⟩ := cells_read h1
     have h4 := h3 0 (by omega)
     have h5 : cs'[0]? = some (cs'[0]'(by omega)) := List.getElem?_eq_getElem _
     rw [h5] at h4
     simp only [Nat.zero_mul, Addr.add, if_true] at h4
     unfold World.cell? at h4
     split at h4
     ·split at h4
      ·cases h4
      ·rename_i hs; simpa using hs
     ·cases h4
    obtain ⟨b, p, sp⟩ := a
    simp only at hspot; subst hspot
    obtain ⟨L, us, h1, h2, h3, h4, h5, h6⟩ := rows_of (W := W) (sz := sz) (e := e) (b := b) (p := p) len fun i hi => by
     have := hat i hi
     rw [List.getElem?_eq_getElem (by omega)] at this
     obtain ⟨cs', k1, k2⟩ := Option.bind_eq_some_iff.1 this
     obtain ⟨k3, k4⟩ := cells_read k1
     obtain ⟨vs, k5, k6, k7⟩ := open_ty e he k2 fun m hm => hw m (List.mem_cons_of_mem _ (List.mem_append_left _ (weights_all (List.mem_map.2 ⟨_, List.getElem_mem _, rfl⟩) m hm)))
     refine ⟨cs', vs, by omega, fun j hj => ?_, k5, k6, k7⟩
     rw [← k4 j (by omega), add_at, add_at, hsz]
    refine ⟨[.sl L.flatten len sz .no], ⟨_, _, rfl, ⟨by rw [h3.len, h5], .inr (.inl ⟨(by intro hh; cases hh), b, p, cap, us, rfl, hlc, h3, h4, fun j v hj => ?_, fun hh => (by cases hh), fun k hk => (by cases hk)⟩)⟩, rfl⟩, hone, L, .no, by rw [h1], .inr rfl, by rw [h1]; exact hcap, h2⟩
    show W.cell? ⟨b, p + j, none⟩ = some v
    rw [h6 j (by have := (List.getElem?_eq_some_iff.1 hj).1; omega)]; exact hj
 | .fin, t, fuel, cs, x, h, hx, hw => by simp [tyIs] at h
 | .field s a r, t, fuel, cs, x, h, hx, hw => by
  simp only [tyIs] at h
  split at h <;> (try (cases h; done))
  rename_i fs ht
  obtain ⟨xs, n, _, rfl, hl, hn, hat⟩ := DataW.trod_struct ht hx
  simp only [DataW.weights, ht] at hw
  have h : fieldsIs P (.field s a r) fs.toList 0 (P.cellsOf t) = true := by
   split at h
   ·rename_i f fr hfs
    rw [hfs]
    simpa only [fieldsIs] using h
   ·cases h
  obtain ⟨vs, h1, h2, h3⟩ := open_fields (.field s a r) (fs := fs.toList) (off := 0) (tot := P.cellsOf t) (cs := cs) (n := n) h hl fun f hf => by
   obtain ⟨i, hi⟩ := List.mem_iff_getElem?.1 hf
   have hi' : i < fs.size := by have := (List.getElem?_eq_some_iff.1 hi).1; simpa using this
   have := hat i f (by simpa using hi)
   rw [List.getElem?_eq_getElem (by omega)] at this
   refine ⟨_, this, fun m hm => hw m (DataW.weights_mem_each (j := i) (by simp [hi]) (by simp [List.getElem?_eq_getElem (show i < xs.length by omega)]) m hm)⟩
  exact ⟨vs, by simpa using h1, by simpa using h2, h3⟩
theorem open_fields : ∀ (ty : Ty) {fs : List Field} {off tot n : Nat} {cs : List Value}, fieldsIs P ty fs off tot = true → cs.length = tot →
  (∀ f ∈ fs, ∃ x, DataW.trod enc P W 0 (fun _ => true) true n f.type ((cs.drop f.offset).take (P.cellsOf f.type)) = some x ∧ ∀ m ∈ x.1.weights P f.type, m ≤ reachBytes) → ∃ vs, RelL (g0 W) vs (cs.drop off) ∧ Ones (cs.drop off) ∧ HasTy ty vs
 | .fin, [], off, tot, n, cs, h, hl, _ => by
  simp only [fieldsIs, decide_eq_true_eq] at h
  have : cs.drop off = [] := List.drop_of_length_le (by omega)
  rw [this]
  exact ⟨[], rfl, fun _ h => (by cases h), rfl⟩
 | .field s a r, f :: fs, off, tot, n, cs, h, hl, hf => by
  simp only [fieldsIs, Bool.and_eq_true, decide_eq_true_eq] at h
  obtain ⟨⟨⟨⟨h1, h2⟩, h3⟩, h4⟩, h5⟩ := h
  obtain ⟨x, hx, hw⟩ := hf f (by simp)
  rw [h1, h2] at hx
  obtain ⟨vs, k1, k2, k3⟩ := open_ty a h4 hx hw
  obtain ⟨ws, l1, l2, l3⟩ := open_fields r (cs := cs) h5 hl fun f' hf' => hf f' (by simp [hf'])
  have e : cs.drop off = (cs.drop off).take s ++ cs.drop (off + s) := by
   rw [← List.drop_drop, List.take_append_drop]
  rw [e]
  exact ⟨vs ++ ws, k1.append l1, k2.append l2, vs, ws, rfl, by rw [k1.len, List.length_take, List.length_drop]; omega, k3, l3⟩
 | .fin, _ :: _, _, _, _, _, h, _, _ => by simp [fieldsIs] at h
 | .field .., [], _, _, _, _, h, _, _ => by simp [fieldsIs] at h
 | .bool, _, _, _, _, _, h, _, _ => by simp [fieldsIs] at h
 | .int _, _, _, _, _, _, h, _, _ => by simp [fieldsIs] at h
 | .str, _, _, _, _, _, h, _, _ => by simp [fieldsIs] at h
 | .slice .., _, _, _, _, _, h, _, _ => by simp [fieldsIs] at h
end
end
section
variable {H : Type} {enc : TypeId × Value → H} {P : Program} {W W' : World}
def isField : Ty → Bool
 | .field .. => true
 | _ => false
def ArgTy (ty : Ty) (v : V) : Prop := if isField ty = true then ∃ cs, v = .agg cs ∧ HasTy ty cs else HasTy ty [v]
theorem open_arg {ty : Ty} {t : TypeId} {u : Value} {d : DataW H} {ps : List MemPlace} {base : Nat} (h : tyIs P ty t = true) (hok : Value.okWide P W .any base t u) (hd : DataW.Trod enc P W 0 (fun _ => true) true t u d ps)
  (hw : ∀ n ∈ d.weights P t, n ≤ reachBytes) : ∃ v, RelV (g0 W) v u ∧ ArgTy ty v := by
 obtain ⟨fuel, hd⟩ := hd
 obtain ⟨vs, h1, h2, h3⟩ := open_ty ty h hd hw
 cases hf : isField ty with
 | true =>
  refine ⟨.agg vs, ?_, by unfold ArgTy; rw [if_pos hf]; exact ⟨vs, rfl, h3⟩⟩
  cases ty <;> (try (cases hf; done))
  simp only [tyIs] at h
  split at h <;> (try (cases h; done))
  rename_i fs ht
  unfold Value.okWide at hok
  rw [ht] at hok
  obtain ⟨cs, rfl, _, _⟩ := hok
  exact ⟨cs.toList, by simp, by simpa [Value.cells] using h1, by simpa [Value.cells] using h2⟩
 | false =>
  have hns : u.cells = #[u] := by
   have hnagg : ∀ cs, u ≠ .agg cs := fun cs e => by
    subst e
    cases ty <;> (try (cases hf; done)) <;> simp only [tyIs] at h <;> (try (cases h; done)) <;> split at h <;> (try (cases h; done)) <;> rename_i ht <;> unfold Value.okWide at hok <;> rw [ht] at hok <;> simp [Cell.okWide, ht, Cell.ok] at hok
   cases u <;> first | rfl | exact absurd rfl (hnagg _)
  rw [hns] at h1 h2
  obtain ⟨v, hv⟩ : ∃ v, vs = [v] := by
   have := h1.len
   match vs, this with
   | [v], _ => exact ⟨v, rfl⟩
  subst hv
  obtain ⟨u', r, e, h4, h5⟩ := h1
  injection e with e1 e2
  subst e1
  exact ⟨v, h4, by unfold ArgTy; rw [if_neg (by rw [hf]; simp)]; exact h3⟩
theorem args_stay (hl : laidOutB P = true) (hb : Below W.heap.size W W') : ∀ {ts : List TypeId} {vs : List Value} {ds : List (DataW H)} {p : List MemPlace}, (∀ t ∈ ts, P.readableRec t = true ∧ t < P.types.size) → (∀ x ∈ p, x.block < W.heap.size) →
  DataW.TrodAll enc P W 0 (fun _ => true) true ts vs ds p → DataW.TrodAll enc P W' 0 (fun b => decide (b < W.heap.size)) true ts vs ds p
 | [], [], [], _, _, _, h => h
 | t :: ts, v :: vs, d :: ds, p, ht, hp, ⟨p1, p2, h1, h2, e⟩ => by
  subst e
  exact ⟨p1, p2, Below.trod hl (ht t (by simp)).1 (ht t (by simp)).2 h1 hb (fun x hx => hp x (by simp [hx])), args_stay hl hb (fun t' h' => ht t' (by simp [h'])) (fun x hx => hp x (by simp [hx])) h2, rfl⟩
theorem post_true {f : Func} {s : ChangeSpec} {apart fresh handsOn : Bool} {args : Array Value} {ds : List (DataW H)} {before : List MemPlace} {tb : TypeId} (hl : laidOutB P = true) (hr : f.resultTypes = #[tb]) (htb : P.underlying tb = some .bool)
  (hread0 : (f.params.toList.all fun t => P.readableRec t && decide (t < P.types.size)) = true) (hvars : s.vars = []) (hW : DataW.Whole enc P f.params.toList [] apart W args.toList ds [] before)
  (hfn : s.fn H ds = { results := [.lit (.bool true)], args := ds }) (hb : Below W.heap.size W W') : s.post enc P f apart fresh handsOn false W args (.bool true) W' := by
 have hread : ∀ t ∈ f.params.toList, P.readableRec t = true ∧ t < P.types.size := fun t ht => by
  have := List.all_eq_true.1 hread0 t ht
  simpa using this
 have hW' := hW
 obtain ⟨p, q, h1, h2, rfl, h3, h4⟩ := hW'
 obtain ⟨_, rfl⟩ := ChangeShapes.trodVars_none h2
 have hlt := hW.lt
 refine ⟨ds, [], p ++ [], [], p, [], by rw [hvars]; exact hW, ?_, ?_, ?_, World.keptBut_mono (fun x hx => ⟨hx, .inr (.inl (by simpa using hx))⟩) (hb.frame (· ∈ p ++ [])), fun h => by cases h⟩
 ·rw [List.append_nil, hfn, hr]
  exact ChangeShapes.trodAll_mk1 ⟨1, by simp [DataW.trod, htb, Value.cells]⟩
 ·rw [List.append_nil, hfn]
  exact args_stay hl hb hread (fun x hx => hlt x (by simp [hx])) h1
 ·rw [List.append_nil, hfn, hvars]
  rfl
theorem law_calls {f : FuncId} {vs : List V} {us : List Value} (h : RSim P W f vs St.empty (fun e _ => e = .ret (.bool true))) (hr : RelL (g0 W) vs us) : Calls P f us.toArray W fun e W' => e = .returned (.bool true) ∧ Below W.heap.size W W' :=
 (h.2 (g0 W) W us (relW_start W) hr).mono fun e W' ⟨g', S', e', _, hW, he, hq⟩ => by
  subst hq
  cases e with
  | returned u =>
   have : u = .bool true := he
   exact ⟨by rw [this], hW.below⟩
  | panicked c => exact he.elim
  | outgrown => exact he.elim
end
theorem bytes_ty {v : V} (h : HasTy (.slice 1 1 (.int .u8)) [v]) : ∃ bs, IsBytes v bs ∧ bs.length ≤ reachBytes := by
 obtain ⟨L, t, e, ht, hl, hL⟩ := h
 injection e with e _
 subst e
 have key : ∀ L : List (List V), (∀ c ∈ L, c.length = 1 ∧ HasTy (.int .u8) c) → ∃ bs : List UInt8, L.flatten = bs.map u8V ∧ bs.length = L.length := by
  intro L
  induction L with
  | nil => intro _; exact ⟨[], rfl, rfl⟩
  | cons c L ih =>
   intro h
   obtain ⟨bs, h1, h2⟩ := ih fun c hc => h c (by simp [hc])
   obtain ⟨_, n, rfl, h3, h4⟩ := h c (by simp)
   refine ⟨UInt8.ofNat n.toNat :: bs, ?_, by simp [h2]⟩
   have h3 : 0 ≤ n := h3
   have h4 : n ≤ 255 := h4
   simp only [List.flatten_cons, h1, List.map_cons, u8V, List.cons_append, List.nil_append]
   congr 2
   simp
   omega
 obtain ⟨bs, h1, h2⟩ := key L hL
 refine ⟨bs, ⟨t, by rw [h1, h2], fun e => ?_⟩, by omega⟩
 subst e
 rcases ht with ⟨_, rfl⟩ | ht
 ·exact List.eq_nil_of_length_eq_zero (by simpa using h2)
 ·cases ht
theorem slice_ty {α : Type} {R : List V → α → Prop} {B : α → Prop} {e : Ty} {sz bytes : Nat} {v : V} (hR : ∀ c, HasTy e c → ∃ x, R c x ∧ B x) (h : HasTy (.slice sz bytes e) [v]) :
  ∃ l t, IsSlice R sz v l t ∧ (∀ x ∈ l, B x) ∧ l.length * bytes ≤ reachBytes := by
 obtain ⟨L, t, ev, ht, hl, hL⟩ := h
 injection ev with ev _
 subst ev
 have key : ∀ L : List (List V), (∀ c ∈ L, c.length = sz ∧ HasTy e c) → ∃ l : List α, l.length = L.length ∧ (∀ x ∈ l, B x) ∧ ∀ (j : Nat) (c : List V) (x : α), L[j]? = some c → l[j]? = some x → R c x := by
  intro L
  induction L with
  | nil => intro _; exact ⟨[], rfl, fun _ h => (by cases h), fun j c x h => by simp at h⟩
  | cons c L ih =>
   intro h
   obtain ⟨l, h1, h2, h3⟩ := ih fun c hc => h c (by simp [hc])
   obtain ⟨x, h4, h5⟩ := hR c (h c (by simp)).2
   refine ⟨x :: l, by simp [h1], fun y hy => ?_, fun j c' y hc hy => ?_⟩
   ·rcases List.mem_cons.1 hy with rfl | hy
    ·exact h5
    ·exact h2 y hy
   ·cases j with
    | zero => simp at hc hy; subst hc; subst hy; exact h4
    | succ j => exact h3 j c' y (by simpa using hc) (by simpa using hy)
 obtain ⟨l, h1, h2, h3⟩ := key L hL
 refine ⟨l, t, ⟨L, by rw [h1], fun e => ?_, fun c hc => (hL c hc).1, h1.symm, h3⟩, h2, by rw [h1]; exact hl⟩
 subst e
 rcases ht with ⟨_, rfl⟩ | ht
 ·exact List.eq_nil_of_length_eq_zero (by simpa using h1)
 ·cases ht
end Go.VM
namespace Go.Proofs.Ytemimcgomickoaa
open Go.VM Go.ChangeShapes Go.WideShapes Go.ChangeAt Go.RowKit
theorem Try.own : ownKnob Try.prog.godebug = none := by kernel_rfl
theorem Try.laidOut : laidOutB Try.prog = true := by kernel_rfl
theorem int_arg {k : IntKind} {v : V} (h : ArgTy (.int k) v) : ∃ n : Int, v = .int k n ∧ k.min ≤ n ∧ n ≤ k.max := by
 obtain ⟨n, e, hn⟩ : ∃ n, [v] = [.int k n] ∧ k.min ≤ n ∧ n ≤ k.max := h
 injection e with e _
 exact ⟨n, e, hn⟩
theorem ints_ty {k : IntKind} {b : Nat} {v : V} (hb : 1 ≤ b) (h : HasTy (.slice 1 b (.int k)) [v]) : ∃ (l : List Int) (t : Tok), v = .sl (l.map (V.int k)) l.length 1 t ∧ (t = .nil → l = []) ∧ l.length ≤ 1000000000000000 ∧ ∀ n ∈ l, k.min ≤ n ∧ n ≤ k.max := by
 obtain ⟨L, t, e, ht, hl, hL⟩ := h
 injection e with e _
 subst e
 have key : ∀ L : List (List V), (∀ c ∈ L, c.length = 1 ∧ HasTy (.int k) c) → ∃ l : List Int, L.flatten = l.map (V.int k) ∧ l.length = L.length ∧ ∀ n ∈ l, k.min ≤ n ∧ n ≤ k.max := by
  intro L
  induction L with
  | nil => intro _; exact ⟨[], rfl, rfl, fun _ h => by cases h⟩
  | cons c L ih =>
   intro h
   obtain ⟨l, h1, h2, h3⟩ := ih fun c hc => h c (by simp [hc])
   obtain ⟨_, n, rfl, h4⟩ := h c (by simp)
   refine ⟨n :: l, by simp [h1], by simp [h2], fun m hm => ?_⟩
   rcases List.mem_cons.1 hm with rfl | hm
   ·exact h4
   ·exact h3 m hm
 obtain ⟨l, h1, h2, h3⟩ := key L hL
 have hr : reachBytes ≤ 1000000000000000 := by decide
 have : L.length * 1 ≤ L.length * b := Nat.mul_le_mul_left _ hb
 refine ⟨l, t, by rw [h1, h2], fun e => ?_, by omega, h3⟩
 subst e
 rcases ht with ⟨_, rfl⟩ | ht
 ·exact List.eq_nil_of_length_eq_zero (by simpa using h2)
 ·cases ht
end Go.Proofs.Ytemimcgomickoaa
namespace Go.VM
open Go Go.RowKit
attribute [go_sem] some_ite frame0_0 frame0_1 frame0_2 frame0_3 frame0_4 frame0_5 fi ei st wi_nil wi_f wi_fgt wi_fgf wi_alloc wi_box wi_store wi_bs0 wi_bs2 wi_chk wi_chkt wi_chkf wi_egt wi_egf wc_skip wc_reg wc_seq wc_blk wc_exit wc_ret wanted aF Arg.ev put_some put_none seqQ_normal seqQ_ret seqQ_exit seqQ_panic thenQ_normal thenQ_ret thenQ_exit thenQ_panic blkQ_normal blkQ_ret blkQ_exit blkQ_panic resQ_normal resQ_ret resQ_panic retQ_ret retQ_pan readRes_0 readRes_1 readRes_2 readRes_3 readRV fr00_at fillV V.bin binInt V.un V.idx V.eq eqA eqLs_nil eqLs_int eqLs_str eqLs_bool sliceV_sl sliceV_msl bounds_no bounds_hi bounds_lo bounds_lh Option.isSome_none Option.isSome_some List.getElem?_cons_zero List.getElem?_cons_succ List.map_cons List.map_nil List.length_cons List.length_nil Int.natCast_nonneg Int.toNat_natCast Nat.zero_add Nat.add_zero Nat.le_refl and_true true_and Option.bind_some Option.map_some Bool.not_true Bool.not_false Bool.false_eq_true beq_tf beq_ft beq_tt beq_ff eq_self beq_self_eq_true decide_true decide_false ne_eq not_true_eq_false not_false_eq_true false_and and_false implies_true if_true if_false cells_addc cells_addt cells_setc St.add_hp St.set_hp St.kill_hp St.add_n St.set_n St.kill_n V.cells_agg V.cells_bool V.cells_int V.cells_str V.cells_ptr V.cells_sl V.cells_msl V.cells_map V.one_bool V.one_int V.one_str V.one_ptr V.one_sl V.one_msl V.one_eptr V.one_map V.one_iface takeC_false takeC_true List.all_cons List.all_nil Bool.and_true Bool.true_and Bool.and_self splice List.take_succ_cons List.take_zero List.take_nil List.drop_succ_cons List.drop_zero List.drop_nil List.cons_append List.nil_append List.append_nil List.head?_cons Nat.add_eq_left Nat.left_eq_add Nat.add_right_cancel_iff Nat.add_left_cancel_iff Nat.succ_ne_self St.set_set Option.isNone_none Option.isNone_some Option.some.injEq isKey_str isKey_int isKey_bool mkS_size mkS_get mkS_toList str_eql str_neq str_lss
attribute [go_sem_proc] Nat.reduceEqDiff Nat.reduceAdd Nat.reduceMul Nat.reduceSub Nat.reduceLeDiff Int.reduceBEq Int.reduceBNe Int.reduceLT Int.reduceLE Int.reduceGT Int.reduceGE Int.reduceEq reduceCtorEq
attribute [go_sem_proc ↓] reduceIte
end Go.VM
namespace Go.VM
open Go Go.RowKit
section
variable {α β : Type} {cell : α → List β} {sz : Nat}
end
def RowAt (S : St) (v : V) (cs : List V) (n sz o : Nat) : Prop := (n = 0 ∧ v = .sl [] 0 sz .nil ∧ cs = []) ∨ (n ≠ 0 ∧ v = .msl o 0 n sz ∧ S.cells o = some cs ∧ cs.length = n * sz ∧ o < S.n)
theorem RowAt.nil (S : St) (sz o : Nat) : RowAt S (.sl [] 0 sz .nil) [] 0 sz o := .inl ⟨rfl, rfl, rfl⟩
theorem RowAt.keep {S S' : St} {v : V} {cs : List V} {n sz o : Nat} {p : Nat → Prop} (h : RowAt S v cs n sz o) (k : Keeps p S S') (hp : n ≠ 0 → ¬ p o) : RowAt S' v cs n sz o := by
 rcases h with h | ⟨h0, h1, h2, h3, h4⟩
 ·exact .inl h
 ·exact .inr ⟨h0, h1, k.cells h2 h4 (hp h0), h3, k.lt h4⟩
theorem RowAt.elems {S : St} {v : V} {cs : List V} {n sz o : Nat} (h : RowAt S v cs n sz o) : v.elems S sz = some (n, cs) := by
 rcases h with ⟨rfl, rfl, rfl⟩ | ⟨h0, rfl, h2, h3, h4⟩
 ·simp [V.elems]
 ·simp only [V.elems, if_true, h2, Option.bind_some, Nat.zero_add, h3, Nat.le_refl, List.drop_zero, Option.some.injEq, Prod.mk.injEq, true_and]
  exact List.take_of_length_le (by omega)
theorem RowAt.one {S : St} {v : V} {cs : List V} {n sz o : Nat} (h : RowAt S v cs n sz o) : v.one = true := by
 rcases h with ⟨rfl, rfl, rfl⟩ | ⟨h0, rfl, h2, h3, h4⟩ <;> rfl
theorem RowAt.own {S : St} {v : V} {cs : List V} {n sz o : Nat} (h : RowAt S v cs n sz o) : v.cells = [v] := cells_one h.one
theorem wi_append_row {cl : Cl} {fr : Fr} {S : St} {K : Fr → St → Prop} {Kp : V → St → Prop} {dst : Option Nat} {sz bytes : Nat} {s x : Arg} {r : List Item} {v : V} {cs xs : List V} {n m o : Nat}
  (hs : s.ev fr = v) (hv : RowAt S v cs n sz o) (hx : (x.ev fr).elems S sz = some (m, xs)) (hl : xs.length = m * sz) (hr : roomOk (n + m) bytes = true)
  (hK : ∀ v' S' o', RowAt S' v' (cs ++ xs) (n + m) sz o' → (n + m ≠ 0 → S.n ≤ o') → Keeps (fun j => n ≠ 0 ∧ j = o) S S' → wItems cl r (fr.put dst v') S' K Kp) :
  wItems cl (.run ⟨dst, none, .e (.append sz bytes true s x)⟩ :: r) fr S K Kp := by
 refine wi_e ?_
 rcases hv with ⟨rfl, rfl, rfl⟩ | ⟨h0, rfl, h2, h3, h4⟩
 ·simp only [Nat.zero_add] at hr hK
  by_cases hm : m = 0
  ·subst hm
   have : xs = [] := List.eq_nil_of_length_eq_zero (by simpa using hl)
   subst this
   simp only [wE, hx, hs, appendTo, hl, hr, ne_eq, not_true_eq_false, false_and, Nat.zero_add, Bool.true_eq_false, or_self, ↓reduceIte]
   exact hK _ S 0 (RowAt.nil _ _ _) (fun h => absurd rfl h) ((Keeps.refl (fun _ => False) S).mono fun _ _ h => h.elim)
  ·simp only [wE, hx, hs, appendTo, hl, hr, ne_eq, not_true_eq_false, false_and, Nat.zero_add, Bool.true_eq_false, or_self, ↓reduceIte, hm, grown, List.nil_append]
   refine hK _ _ S.n (.inr ⟨hm, rfl, by rw [cells_addc, if_pos rfl, List.nil_append], by simpa using hl, by simp [St.add_n]⟩) (fun _ => Nat.le_refl _) ((Keeps.refl _ S).add _)
 ·have hb : n * sz ≤ cs.length := by omega
  have ht : cs.take (n * sz) = cs := List.take_of_length_le (by omega)
  simp only [wE, hx, hs, appendTo, hl, hr, h2, ne_eq, not_true_eq_false, Bool.true_eq_false, or_self, ↓reduceIte, Option.bind_some, Nat.zero_add, hb, grown, List.drop_zero, ht]
  refine hK _ _ S.n (.inr ⟨by omega, rfl, by rw [cells_addc]; simp [St.kill], by rw [List.length_append, h3, hl, Nat.add_mul], by simp [St.add, St.kill]⟩) (fun _ => Nat.le_refl _) ?_
  exact ((Keeps.refl _ S).kill (.inl ⟨h0, rfl⟩)).add _
end Go.VM
namespace Go.VM
open Go Go.RowKit
structure Res where
 P : St → Prop
 own : Nat → Prop
 keep : ∀ {S S' : St} {o : Nat → Prop}, P S → Keeps o S S' → (∀ j, own j → ¬ o j) → P S'
 lt : ∀ {S : St} {j : Nat}, P S → own j → j < S.n
def Hold : St → List Res → Prop
 | _, [] => True
 | S, x :: l => x.P S ∧ (∀ y ∈ l, ∀ j, x.own j → ¬ y.own j) ∧ Hold S l
structure Aft (S : St) (x : Res) (S' : St) (y : Res) : Prop where
 p : y.P S'
 k : Keeps x.own S S'
 o : ∀ j, y.own j → x.own j ∨ S.n ≤ j
theorem Aft.refl {S : St} {x : Res} (h : x.P S) : Aft S x S x := ⟨h, Keeps.refl _ _, fun _ h => .inl h⟩
theorem Aft.trans {S S1 S2 : St} {x y z : Res} (h : Aft S x S1 y) (h' : Aft S1 y S2 z) : Aft S x S2 z :=
 ⟨h'.p, h.k.trans h'.k fun j hj ho => (h.o j ho).elim id fun h => by omega, fun j hj => (h'.o j hj).elim (h.o j) fun h1 => .inr (Nat.le_trans h.k.n h1)⟩
theorem Aft.new {S S' : St} {x : Res} (h : x.P S) (k : Keeps (fun _ => False) S S') : Aft S x S' x := ⟨x.keep h k fun _ _ => id, k.mono fun _ _ h => h.elim, fun _ h => .inl h⟩
theorem Hold.mem {S : St} : ∀ {l : List Res}, Hold S l → ∀ x ∈ l, x.P S
 | x :: l, ⟨h1, _, h3⟩, y, hy => by
  rcases List.mem_cons.1 hy with rfl | hy
  ·exact h1
  ·exact Hold.mem h3 y hy
theorem Hold.keep {S S' : St} {o : Nat → Prop} : ∀ {l : List Res}, Hold S l → Keeps o S S' → (∀ x ∈ l, ∀ j, x.own j → ¬ o j) → Hold S' l
 | [], _, _, _ => trivial
 | x :: l, ⟨h1, h2, h3⟩, k, ho => ⟨x.keep h1 k (ho x (by simp)), h2, Hold.keep h3 k fun y hy => ho y (List.mem_cons_of_mem _ hy)⟩
theorem Hold.stay {S S' : St} {l : List Res} (h : Hold S l) (k : Keeps (fun _ => False) S S') : Hold S' l := h.keep k fun _ _ _ _ => id
theorem Hold.step {S S' : St} {x y : Res} {l : List Res} (h : Hold S (x :: l)) (a : Aft S x S' y) : Hold S' (y :: l) := by
 obtain ⟨h1, h2, h3⟩ := h
 refine ⟨a.p, fun z hz j hj hzj => ?_, h3.keep a.k fun z hz j hj ho => h2 z hz j ho hj⟩
 rcases a.o j hj with h | h
 ·exact h2 z hz j h hzj
 ·have := z.lt (Hold.mem h3 z hz) hzj; omega
theorem Hold.perm {S : St} {l l' : List Res} (p : l.Perm l') (h : Hold S l) : Hold S l' := by
 induction p with
 | nil => exact h
 | cons x p ih =>
  obtain ⟨h1, h2, h3⟩ := h
  exact ⟨h1, fun y hy => h2 y (p.mem_iff.2 hy), ih h3⟩
 | swap x y l =>
  obtain ⟨h1, h2, h3, h4, h5⟩ := h
  refine ⟨h3, fun z hz => ?_, h1, fun z hz => h2 z (List.mem_cons_of_mem _ hz), h5⟩
  rcases List.mem_cons.1 hz with rfl | hz
  ·exact fun j hj hy => h2 x (by simp) j hy hj
  ·exact h4 z hz
 | trans _ _ ih1 ih2 => exact ih2 (ih1 h)
theorem Hold.swap {S : St} {x y : Res} {l : List Res} (h : Hold S (x :: y :: l)) : Hold S (y :: x :: l) := h.perm (List.Perm.swap y x l)
theorem Hold.add {S S' : St} {x : Res} {l : List Res} (h : Hold S l) (k : Keeps (fun _ => False) S S') (hx : x.P S') (hn : ∀ j, x.own j → S.n ≤ j) : Hold S' (x :: l) :=
 ⟨hx, fun y hy j hj hyj => by have := y.lt (Hold.mem h y hy) hyj; have := hn j hj; omega, h.stay k⟩
theorem Hold.tail {S : St} {x : Res} {l : List Res} (h : Hold S (x :: l)) : Hold S l := h.2.2
theorem Hold.head {S : St} {x : Res} {l : List Res} (h : Hold S (x :: l)) : x.P S := h.1
def Res.all (l : List Res) : Res where
 P S := Hold S l
 own j := ∃ x ∈ l, x.own j
 keep h k ho := Hold.keep h k fun x hx j hj => ho j ⟨x, hx, hj⟩
 lt h hj := by obtain ⟨x, hx, hj⟩ := hj; exact x.lt (Hold.mem h x hx) hj
theorem Aft.part {S S' : St} {x y : Res} {l l' m : List Res} (h : Hold S l) (p : l.Perm (x :: m)) (a : Aft S x S' y) (p' : l'.Perm (y :: m)) : Aft S (Res.all l) S' (Res.all l') := by
 refine ⟨((h.perm p).step a).perm p'.symm, a.k.mono fun j _ hj => ⟨x, p.mem_iff.2 (by simp), hj⟩, fun j hj => ?_⟩
 obtain ⟨z, hz, hj⟩ := hj
 rcases List.mem_cons.1 (p'.mem_iff.1 hz) with rfl | hz
 ·rcases a.o j hj with h | h
  ·exact .inl ⟨x, p.mem_iff.2 (by simp), h⟩
  ·exact .inr h
 ·exact .inl ⟨z, p.mem_iff.2 (List.mem_cons_of_mem _ hz), hj⟩
def Res.cells (r : Nat) (cs : List V) : Res where
 P S := S.cells r = some cs ∧ r < S.n
 own j := j = r
 keep h k ho := ⟨k.cells h.1 h.2 (ho r rfl), k.lt h.2⟩
 lt h hj := by subst hj; exact h.2
theorem Aft.set {S : St} {r : Nat} {cs cs' : List V} (h : (Res.cells r cs).P S) : Aft S (Res.cells r cs) (S.set r (.cells cs')) (Res.cells r cs') :=
 ⟨⟨by rw [cells_setc, if_pos rfl], h.2⟩, Keeps.set1 _ _ _, fun _ h => .inl h⟩
theorem Res.cells_new (S : St) (cs : List V) : (Res.cells S.n cs).P (S.add (.cells cs)) := ⟨by rw [cells_addc, if_pos rfl], by rw [St.add_n]; omega⟩
def Res.tok (t : Tok) : Res where
 P S := TokOk S t
 own j := t = .at j
 keep h k ho := TokOk.keep h k ho
 lt h hj := by subst hj; exact h.lt
end Go.VM
namespace Go.VM
open Go Go.Proofs
theorem mixed : Try.prog.follows .mixedOrders = true := by kernel_rfl
abbrev n_disk_Disk_Append : Nat := 71
def b_disk_Disk_Append : Cd := (.seq (.reg [] [fi 6 (.mv (.c (.int .i64 0)))])
 (.seq (.reg [] [fi 7 (.mv (.t 0)),
  fi 8 (.mv (.t 1)),
  fi 9 (.mv (.t 2)),
  ei 10 (.call 80 [(.t 7), (.t 8), (.t 9), (.c (.bool false))]),
  fi 6 (.mv (.t 10))])
 .ret))
theorem k_disk_Disk_Append : chkFn Try.prog n_disk_Disk_Append ⟨b_disk_Disk_Append, [.tmp 6], 11⟩ = true := by kernel_rfl
abbrev n_disk_Disk_Arm : Nat := 21
def b_disk_Disk_Arm : Cd := (.seq (.reg [] [fi 4 (.mv (.c (.int .i64 0)))])
 (.seq (.seq (.reg [] [fi 5 (.mv (.t 0)),
  fi 6 (.eq false .ptr (.t 5) (.c (.ptr none)))])
 (.ite (.t 6)
 (.seq (.reg [] [fi 4 (.mv (.c (.int .i64 8)))])
 .ret)
 .skip))
 (.seq (.seq (.reg [] [fi 7 (.mv (.t 1)),
  fi 8 (.bin .lss (.t 7) (.c (.int .i64 0)))])
 (.ite (.t 8)
 (.seq (.reg [] [fi 4 (.mv (.c (.int .i64 1)))])
 .ret)
 .skip))
 (.seq (.reg [] [fi 9 (.mv (.t 0)),
  fi 10 (.mv (.t 1)),
  fi 11 (.nilCheck (.t 9)),
  fi 12 (.fieldAddr 4 (.t 11)),
  st (.store 1 (.t 12) (.t 10))])
 (.seq (.reg [] [fi 4 (.mv (.c (.int .i64 0)))])
 .ret)))))
theorem k_disk_Disk_Arm : chkFn Try.prog n_disk_Disk_Arm ⟨b_disk_Disk_Arm, [.tmp 4], 13⟩ = true := by kernel_rfl
abbrev n_disk_Disk_Names : Nat := 37
def b_disk_Disk_Names : Cd := (.seq (.reg [] [fi 2 (.mv (.c (.sl [] 0 1 .nil)))])
 (.seq (.seq (.reg [] [fi 3 (.mv (.t 0)),
  fi 4 (.eq false .ptr (.t 3) (.c (.ptr none)))])
 (.ite (.t 4)
 (.seq (.reg [] [fi 2 (.mv (.c (.sl [] 0 1 .nil)))])
 .ret)
 .skip))
 (.seq (.reg [] [fi 5 (.mv (.t 0)),
  fi 6 (.nilCheck (.t 5)),
  fi 7 (.fieldAddr 0 (.t 6)),
  fi 8 (.load false 1 (.t 7)),
  ei 9 (.call 62 [(.t 8)]),
  ei 10 (.call 61 [(.t 9)]),
  fi 2 (.mv (.t 10))])
 .ret)))
theorem k_disk_Disk_Names : chkFn Try.prog n_disk_Disk_Names ⟨b_disk_Disk_Names, [.tmp 2], 11⟩ = true := by kernel_rfl
abbrev n_disk_Disk_On : Nat := 38
def b_disk_Disk_On : Cd := (.seq (.reg [] [fi 2 (.mv (.c (.bool false)))])
 (.seq (.reg [] [fi 3 (.mv (.t 0)),
  fi 4 (.eq true .ptr (.t 3) (.c (.ptr none))),
  fi 5 (.mv (.t 4)),
  .run ⟨(some 6), (some (5, true)), .f (.mv (.t 0))⟩,
  .run ⟨(some 7), (some (5, true)), .f (.nilCheck (.t 6))⟩,
  .run ⟨(some 8), (some (5, true)), .f (.fieldAddr 5 (.t 7))⟩,
  .run ⟨(some 9), (some (5, true)), .f (.load false 1 (.t 8))⟩,
  .run ⟨(some 10), (some (5, true)), .f (.un .not (.t 9))⟩,
  fi 11 (.pick (.t 5) (.t 10) (.c (.bool false))),
  fi 2 (.mv (.t 11))])
 .ret))
theorem k_disk_Disk_On : chkFn Try.prog n_disk_Disk_On ⟨b_disk_Disk_On, [.tmp 2], 12⟩ = true := by kernel_rfl
abbrev n_disk_Disk_Put : Nat := 68
def b_disk_Disk_Put : Cd := (.seq (.reg [] [fi 6 (.mv (.c (.int .i64 0)))])
 (.seq (.reg [] [fi 7 (.mv (.t 0)),
  fi 8 (.mv (.t 1)),
  fi 9 (.mv (.t 2)),
  ei 10 (.call 80 [(.t 7), (.t 8), (.t 9), (.c (.bool true))]),
  fi 6 (.mv (.t 10))])
 .ret))
theorem k_disk_Disk_Put : chkFn Try.prog n_disk_Disk_Put ⟨b_disk_Disk_Put, [.tmp 6], 11⟩ = true := by kernel_rfl
abbrev n_disk_Disk_Read : Nat := 44
def b_disk_Disk_Read : Cd := (.seq (.reg [] [fi 4 (.mv (.c (.sl [] 0 1 .nil))),
  fi 5 (.mv (.c (.int .i64 0)))])
 (.seq (.seq (.reg [] [fi 8 (.mv (.t 0)),
  fi 9 (.mv (.t 1)),
  ei 10 (.buildSlice 1 1 0 [(.str (mkS []))] [(0, 1, (.t 9))]),
  ei 11 (.call 65 [(.t 8), (.t 10)]),
  fi 6 (.mv (.t 11))])
 (.seq (.reg [] [fi 12 (.mv (.t 6)),
  fi 13 (.bin .neq (.t 12) (.c (.int .i64 0)))])
 (.ite (.t 13)
 (.seq (.reg [] [fi 14 (.mv (.t 6)),
  fi 4 (.mv (.c (.sl [] 0 1 .nil))),
  fi 5 (.mv (.t 14))])
 .ret)
 .skip)))
 (.seq (.seq (.reg [] [fi 15 (.mv (.t 0)),
  fi 16 (.nilCheck (.t 15)),
  fi 17 (.fieldAddr 5 (.t 16)),
  fi 18 (.load false 1 (.t 17))])
 (.ite (.t 18)
 (.seq (.reg [] [fi 4 (.mv (.c (.sl [] 0 1 .nil))),
  fi 5 (.mv (.c (.int .i64 10)))])
 .ret)
 .skip))
 (.seq (.reg [] [fi 19 (.mv (.t 0)),
  fi 20 (.nilCheck (.t 19)),
  fi 21 (.fieldAddr 0 (.t 20)),
  fi 22 (.load false 1 (.t 21)),
  fi 23 (.mv (.t 1)),
  fi 24 (.lookup .str false (.ptr none) (.t 22) (.t 23)),
  fi 7 (.mv (.t 24))])
 (.seq (.seq (.reg [] [fi 25 (.mv (.t 7)),
  fi 26 (.eq false .ptr (.t 25) (.c (.ptr none)))])
 (.ite (.t 26)
 (.seq (.reg [] [fi 4 (.mv (.c (.sl [] 0 1 .nil))),
  fi 5 (.mv (.c (.int .i64 8)))])
 .ret)
 .skip))
 (.seq (.reg [] [fi 27 (.mv (.t 7)),
  fi 28 (.nilCheck (.t 27)),
  fi 29 (.fieldAddr 0 (.t 28)),
  fi 30 (.load false 1 (.t 29)),
  ei 31 (.append 1 1 false (.c (.sl [] 0 1 .nil)) (.t 30)),
  fi 4 (.mv (.t 31)),
  fi 5 (.mv (.c (.int .i64 0)))])
 .ret))))))
theorem k_disk_Disk_Read : chkFn Try.prog n_disk_Disk_Read ⟨b_disk_Disk_Read, [.tmp 4, .tmp 5], 32⟩ = true := by kernel_rfl
abbrev n_disk_Disk_Remove : Nat := 43
def b_disk_Disk_Remove : Cd := (.seq (.reg [] [ei 2 (.box (.t 0)),
  ei 3 (.box (.t 1)),
  fi 4 (.mv (.c (.int .i64 0)))])
 (.seq (.reg [] [fi 5 (.load false 1 (.t 2)),
  fi 6 (.load false 1 (.t 3)),
  fi 7 (.mkFunc 64 [] [(.t 2), (.t 3)]),
  ei 8 (.call 63 [(.t 5), (.t 6), (.t 7)]),
  fi 4 (.mv (.t 8))])
 .ret))
theorem k_disk_Disk_Remove : chkFn Try.prog n_disk_Disk_Remove ⟨b_disk_Disk_Remove, [.tmp 4], 9⟩ = true := by kernel_rfl
abbrev n_disk_Disk_Remove_1 : Nat := 64
def b_disk_Disk_Remove_1 : Cd := (.seq (.reg [0, 1, 2, 3, 4, 5, 6, 7, 8, 9, 10, 11, 12] [fi 4 (.load false 1 (.t 1)),
  fi 5 (.nilCheck (.t 4)),
  fi 6 (.fieldAddr 2 (.t 5)),
  fi 7 (.load false 1 (.t 6)),
  fi 8 (.mv (.t 0)),
  fi 9 (.nilCheck (.t 8)),
  fi 10 (.fieldAddr 0 (.t 9)),
  fi 11 (.load false 1 (.t 10)),
  fi 12 (.len .sl (.t 11)),
  fi 13 (.bin .sub (.t 7) (.t 12)),
  fi 14 (.nilCheck (.t 4)),
  fi 15 (.fieldAddr 2 (.t 14)),
  st (.store 1 (.t 15) (.t 13))])
 (.reg [0, 1, 2, 3, 4, 5] [fi 16 (.load false 1 (.t 1)),
  fi 17 (.nilCheck (.t 16)),
  fi 18 (.fieldAddr 0 (.t 17)),
  fi 19 (.load false 1 (.t 18)),
  fi 20 (.load false 1 (.t 2)),
  st (.delete .str (.t 19) (.t 20))]))
theorem k_disk_Disk_Remove_1 : chkFn Try.prog n_disk_Disk_Remove_1 ⟨b_disk_Disk_Remove_1, [], 21⟩ = true := by kernel_rfl
abbrev n_disk_Disk_Rename : Nat := 70
def b_disk_Disk_Rename : Cd := (.seq (.reg [] [ei 3 (.box (.t 0)),
  ei 4 (.box (.t 1)),
  ei 5 (.box (.t 2)),
  fi 6 (.mv (.c (.int .i64 0)))])
 (.seq (.seq (.reg [] [fi 9 (.load false 1 (.t 3)),
  fi 10 (.load false 1 (.t 4)),
  fi 11 (.load false 1 (.t 5)),
  ei 12 (.buildSlice 2 1 0 [(.str (mkS [])), (.str (mkS []))] [(0, 1, (.t 10)), (1, 1, (.t 11))]),
  ei 13 (.call 65 [(.t 9), (.t 12)]),
  fi 7 (.mv (.t 13))])
 (.seq (.reg [] [fi 14 (.mv (.t 7)),
  fi 15 (.bin .neq (.t 14) (.c (.int .i64 0)))])
 (.ite (.t 15)
 (.seq (.reg [] [fi 16 (.mv (.t 7)),
  fi 6 (.mv (.t 16))])
 .ret)
 .skip)))
 (.seq (.seq (.reg [] [fi 17 (.load false 1 (.t 4)),
  fi 18 (.load false 1 (.t 5)),
  fi 19 (.bin .eql (.t 17) (.t 18))])
 (.ite (.t 19)
 (.seq (.reg [] [fi 6 (.mv (.c (.int .i64 1)))])
 .ret)
 .skip))
 (.seq (.seq (.reg [0, 1, 2, 3, 4, 5, 6] [fi 20 (.load false 1 (.t 3)),
  fi 21 (.nilCheck (.t 20)),
  fi 22 (.fieldAddr 0 (.t 21)),
  fi 23 (.load false 1 (.t 22)),
  fi 24 (.load false 1 (.t 4)),
  fi 25 (.lookup .str false (.ptr none) (.t 23) (.t 24)),
  fi 8 (.mv (.t 25))])
 (.seq (.reg [0, 1, 2, 3, 4, 5, 6, 7, 8, 9, 10, 11, 12, 13, 14, 15, 16, 17, 18, 19, 20] [fi 26 (.load false 1 (.t 3)),
  fi 27 (.nilCheck (.t 26)),
  fi 28 (.fieldAddr 5 (.t 27)),
  fi 29 (.load false 1 (.t 28)),
  fi 30 (.un .not (.t 29)),
  fi 31 (.mv (.t 30)),
  .run ⟨(some 32), (some (31, true)), .f (.mv (.t 8))⟩,
  .run ⟨(some 33), (some (31, true)), .f (.eq true .ptr (.t 32) (.c (.ptr none)))⟩,
  fi 34 (.pick (.t 31) (.t 33) (.c (.bool false))),
  fi 35 (.mv (.t 34)),
  .run ⟨(some 36), (some (35, true)), .f (.mv (.t 8))⟩,
  .run ⟨(some 37), (some (35, true)), .f (.nilCheck (.t 36))⟩,
  .run ⟨(some 38), (some (35, true)), .f (.fieldAddr 1 (.t 37))⟩,
  .run ⟨(some 39), (some (35, true)), .f (.load false 1 (.t 38))⟩,
  .run ⟨(some 40), (some (35, true)), .f (.mv (.t 8))⟩,
  .run ⟨(some 41), (some (35, true)), .f (.nilCheck (.t 40))⟩,
  .run ⟨(some 42), (some (35, true)), .f (.fieldAddr 0 (.t 41))⟩,
  .run ⟨(some 43), (some (35, true)), .f (.load false 1 (.t 42))⟩,
  .run ⟨(some 44), (some (35, true)), .f (.len .sl (.t 43))⟩,
  .run ⟨(some 45), (some (35, true)), .f (.bin .lss (.t 39) (.t 44))⟩,
  fi 46 (.pick (.t 35) (.t 45) (.c (.bool false)))])
 (.ite (.t 46)
 (.seq (.reg [] [fi 6 (.mv (.c (.int .i64 12)))])
 .ret)
 .skip)))
 (.seq (.reg [] [fi 47 (.load false 1 (.t 3)),
  fi 48 (.load false 1 (.t 4)),
  fi 49 (.mkFunc 82 [] [(.t 3), (.t 4), (.t 5)]),
  ei 50 (.call 63 [(.t 47), (.t 48), (.t 49)]),
  fi 6 (.mv (.t 50))])
 .ret)))))
theorem k_disk_Disk_Rename : chkFn Try.prog n_disk_Disk_Rename ⟨b_disk_Disk_Rename, [.tmp 6], 51⟩ = true := by kernel_rfl
abbrev n_disk_Disk_Rename_1 : Nat := 82
def b_disk_Disk_Rename_1 : Cd := (.seq (.reg [0, 1, 2, 3, 4, 5] [fi 6 (.load false 1 (.t 1)),
  fi 7 (.nilCheck (.t 6)),
  fi 8 (.fieldAddr 0 (.t 7)),
  fi 9 (.load false 1 (.t 8)),
  fi 10 (.load false 1 (.t 2)),
  st (.delete .str (.t 9) (.t 10))])
 (.seq (.seq (.reg [0, 1, 2, 3, 4, 5, 6] [fi 11 (.load false 1 (.t 1)),
  fi 12 (.nilCheck (.t 11)),
  fi 13 (.fieldAddr 0 (.t 12)),
  fi 14 (.load false 1 (.t 13)),
  fi 15 (.load false 1 (.t 3)),
  fi 16 (.lookup .str false (.ptr none) (.t 14) (.t 15)),
  fi 5 (.mv (.t 16))])
 (.seq (.reg [] [fi 17 (.mv (.t 5)),
  fi 18 (.eq true .ptr (.t 17) (.c (.ptr none)))])
 (.ite (.t 18)
 (.reg [0, 1, 2, 3, 4, 5, 6, 7, 8, 9, 10, 11, 12] [fi 19 (.load false 1 (.t 1)),
  fi 20 (.nilCheck (.t 19)),
  fi 21 (.fieldAddr 2 (.t 20)),
  fi 22 (.load false 1 (.t 21)),
  fi 23 (.mv (.t 5)),
  fi 24 (.nilCheck (.t 23)),
  fi 25 (.fieldAddr 0 (.t 24)),
  fi 26 (.load false 1 (.t 25)),
  fi 27 (.len .sl (.t 26)),
  fi 28 (.bin .sub (.t 22) (.t 27)),
  fi 29 (.nilCheck (.t 19)),
  fi 30 (.fieldAddr 2 (.t 29)),
  st (.store 1 (.t 30) (.t 28))])
 .skip)))
 (.reg [0, 1, 2, 3, 4, 5, 6] [fi 31 (.load false 1 (.t 1)),
  fi 32 (.nilCheck (.t 31)),
  fi 33 (.fieldAddr 0 (.t 32)),
  fi 34 (.load false 1 (.t 33)),
  fi 35 (.load false 1 (.t 3)),
  fi 36 (.mv (.t 0)),
  st (.mapSet .str (.t 34) (.t 35) (.t 36))])))
theorem k_disk_Disk_Rename_1 : chkFn Try.prog n_disk_Disk_Rename_1 ⟨b_disk_Disk_Rename_1, [], 37⟩ = true := by kernel_rfl
abbrev n_disk_Disk_Restart : Nat := 20
def r_disk_Disk_Restart_0 : Cd := (.seq (.reg [0, 1, 2, 3, 4, 5, 6, 7, 8, 9, 10, 11, 12, 13, 14, 15, 16, 17, 18, 19] [fi 45 (.mv (.t 0)),
  fi 46 (.nilCheck (.t 45)),
  fi 47 (.fieldAddr 2 (.t 46)),
  fi 48 (.load false 1 (.t 47)),
  fi 49 (.mv (.t 7)),
  fi 50 (.nilCheck (.t 49)),
  fi 51 (.fieldAddr 0 (.t 50)),
  fi 52 (.load false 1 (.t 51)),
  fi 53 (.len .sl (.t 52)),
  fi 54 (.mv (.t 7)),
  fi 55 (.nilCheck (.t 54)),
  fi 56 (.fieldAddr 1 (.t 55)),
  fi 57 (.load false 1 (.t 56)),
  fi 58 (.bin .sub (.t 53) (.t 57)),
  fi 59 (.mv (.t 8)),
  fi 60 (.bin .sub (.t 58) (.t 59)),
  fi 61 (.bin .sub (.t 48) (.t 60)),
  fi 62 (.nilCheck (.t 45)),
  fi 63 (.fieldAddr 2 (.t 62)),
  st (.store 1 (.t 63) (.t 61))])
 (.seq (.reg [0, 1, 2, 3, 4, 5, 6, 7, 8, 9, 10, 11, 12, 13, 14, 15] [fi 64 (.mv (.t 7)),
  fi 65 (.mv (.t 7)),
  fi 66 (.nilCheck (.t 65)),
  fi 67 (.fieldAddr 0 (.t 66)),
  fi 68 (.load false 1 (.t 67)),
  fi 69 (.mv (.t 7)),
  fi 70 (.nilCheck (.t 69)),
  fi 71 (.fieldAddr 1 (.t 70)),
  fi 72 (.load false 1 (.t 71)),
  fi 73 (.mv (.t 8)),
  fi 74 (.bin .add (.t 72) (.t 73)),
  fi 75 (.slice 1 (.t 68) none (some (.t 74)) none),
  ei 76 (.append 1 1 false (.c (.sl [] 0 1 .nil)) (.t 75)),
  fi 77 (.nilCheck (.t 64)),
  fi 78 (.fieldAddr 0 (.t 77)),
  st (.store 1 (.t 78) (.t 76))])
 (.reg [] [fi 79 (.mv (.t 7)),
  fi 80 (.mv (.t 7)),
  fi 81 (.nilCheck (.t 80)),
  fi 82 (.fieldAddr 0 (.t 81)),
  fi 83 (.load false 1 (.t 82)),
  fi 84 (.len .sl (.t 83)),
  fi 85 (.nilCheck (.t 79)),
  fi 86 (.fieldAddr 1 (.t 85)),
  st (.store 1 (.t 86) (.t 84))])))
def k_disk_Disk_Restart_0 : Cd := (.seq (.reg [] [fi 16 (.mv (.t 14)),
  fi 17 (.indexAddr 1 (.t 12) (.t 14)),
  fi 18 (.load false 1 (.t 17)),
  fi 5 (.mv (.t 16)),
  fi 6 (.mv (.t 18))])
 (.seq (.reg [] [fi 19 (.mv (.t 0)),
  fi 20 (.nilCheck (.t 19)),
  fi 21 (.fieldAddr 0 (.t 20)),
  fi 22 (.load false 1 (.t 21)),
  fi 23 (.mv (.t 6)),
  fi 24 (.lookup .str false (.ptr none) (.t 22) (.t 23)),
  fi 7 (.mv (.t 24)),
  fi 8 (.mv (.c (.int .i64 0)))])
 (.seq (.seq (.reg [] [fi 25 (.mv (.t 5)),
  fi 26 (.mv (.t 1)),
  fi 27 (.len .sl (.t 26)),
  fi 28 (.bin .lss (.t 25) (.t 27))])
 (.ite (.t 28)
 (.reg [0, 1, 2, 3, 4, 5, 6, 7, 8, 9, 10, 11, 12, 13, 14, 15, 16] [fi 29 (.mv (.t 1)),
  fi 30 (.mv (.t 5)),
  fi 31 (.indexAddr 1 (.t 29) (.t 30)),
  fi 32 (.load false 1 (.t 31)),
  fi 33 (.mv (.t 7)),
  fi 34 (.nilCheck (.t 33)),
  fi 35 (.fieldAddr 0 (.t 34)),
  fi 36 (.load false 1 (.t 35)),
  fi 37 (.len .sl (.t 36)),
  fi 38 (.mv (.t 7)),
  fi 39 (.nilCheck (.t 38)),
  fi 40 (.fieldAddr 1 (.t 39)),
  fi 41 (.load false 1 (.t 40)),
  fi 42 (.bin .sub (.t 37) (.t 41)),
  fi 43 (.minmax false [(.t 32), (.t 42)]),
  fi 44 (.minmax true [(.c (.int .i64 0)), (.t 43)]),
  fi 8 (.mv (.t 44))])
 .skip))
 r_disk_Disk_Restart_0)))
def l_disk_Disk_Restart_0 : Cd := (.seq (.reg [] [fi 15 (.bin .lss (.t 14) (.t 13))])
 (.seq (.ite (.t 15)
 .skip
 (.exit 0))
 (.seq (.blk 1 k_disk_Disk_Restart_0)
 (.reg [] [fi 87 (.bin .add (.t 14) (.c (.int .i64 1))),
  fi 14 (.mv (.t 87))]))))
def s_disk_Disk_Restart_0 : Cd := (.seq (.reg [] [fi 88 (.mv (.t 0)),
  fi 89 (.mv (.t 0)),
  fi 90 (.nilCheck (.t 88)),
  fi 91 (.fieldAddr 5 (.t 90)),
  st (.store 1 (.t 91) (.c (.bool false))),
  fi 92 (.nilCheck (.t 89)),
  fi 93 (.fieldAddr 4 (.t 92)),
  st (.store 1 (.t 93) (.c (.int .i64 0)))])
 (.seq (.reg [] [fi 4 (.mv (.c (.int .i64 0)))])
 .ret))
def b_disk_Disk_Restart : Cd := (.seq (.reg [] [fi 4 (.mv (.c (.int .i64 0)))])
 (.seq (.seq (.reg [] [fi 9 (.mv (.t 0)),
  fi 10 (.eq false .ptr (.t 9) (.c (.ptr none)))])
 (.ite (.t 10)
 (.seq (.reg [] [fi 4 (.mv (.c (.int .i64 8)))])
 .ret)
 .skip))
 (.seq (.seq (.reg [] [fi 11 (.mv (.t 0)),
  ei 12 (.call 37 [(.t 11)]),
  fi 13 (.len .sl (.t 12)),
  fi 14 (.mv (.c (.int .i64 0)))])
 (.blk 0 (.loop l_disk_Disk_Restart_0)))
 s_disk_Disk_Restart_0)))
theorem k_disk_Disk_Restart : chkFn Try.prog n_disk_Disk_Restart ⟨b_disk_Disk_Restart, [.tmp 4], 94⟩ = true := by kernel_rfl
abbrev n_disk_Disk_Sync : Nat := 69
def b_disk_Disk_Sync : Cd := (.seq (.reg [] [fi 4 (.mv (.c (.int .i64 0)))])
 (.seq (.reg [] [fi 5 (.mv (.t 0)),
  fi 6 (.mv (.t 1)),
  ei 7 (.call 63 [(.t 5), (.t 6), (.c (.func 81 [] []))]),
  fi 4 (.mv (.t 7))])
 .ret))
theorem k_disk_Disk_Sync : chkFn Try.prog n_disk_Disk_Sync ⟨b_disk_Disk_Sync, [.tmp 4], 8⟩ = true := by kernel_rfl
abbrev n_disk_Disk_Sync_1 : Nat := 81
def b_disk_Disk_Sync_1 : Cd := (.reg [] [fi 2 (.mv (.t 0)),
  fi 3 (.mv (.t 0)),
  fi 4 (.nilCheck (.t 3)),
  fi 5 (.fieldAddr 0 (.t 4)),
  fi 6 (.load false 1 (.t 5)),
  fi 7 (.len .sl (.t 6)),
  fi 8 (.nilCheck (.t 2)),
  fi 9 (.fieldAddr 1 (.t 8)),
  st (.store 1 (.t 9) (.t 7))])
theorem k_disk_Disk_Sync_1 : chkFn Try.prog n_disk_Disk_Sync_1 ⟨b_disk_Disk_Sync_1, [], 10⟩ = true := by kernel_rfl
abbrev n_disk_Disk_begin : Nat := 77
def b_disk_Disk_begin : Cd := (.seq (.reg [] [fi 2 (.mv (.c (.bool false))),
  fi 3 (.mv (.c (.int .i64 0)))])
 (.seq (.seq (.reg [] [fi 4 (.mv (.t 0)),
  fi 5 (.nilCheck (.t 4)),
  fi 6 (.fieldAddr 5 (.t 5)),
  fi 7 (.load false 1 (.t 6))])
 (.ite (.t 7)
 (.seq (.reg [] [fi 2 (.mv (.c (.bool false))),
  fi 3 (.mv (.c (.int .i64 10)))])
 .ret)
 .skip))
 (.seq (.reg [] [fi 8 (.mv (.t 0)),
  fi 9 (.nilCheck (.t 8)),
  fi 10 (.fieldAddr 3 (.t 9)),
  fi 11 (.load false 1 (.t 10)),
  fi 12 (.bin .add (.t 11) (.c (.int .i64 1))),
  fi 13 (.nilCheck (.t 8)),
  fi 14 (.fieldAddr 3 (.t 13)),
  st (.store 1 (.t 14) (.t 12))])
 (.seq (.seq (.reg [] [fi 15 (.mv (.t 0)),
  fi 16 (.nilCheck (.t 15)),
  fi 17 (.fieldAddr 4 (.t 16)),
  fi 18 (.load false 1 (.t 17)),
  fi 19 (.bin .gtr (.t 18) (.c (.int .i64 0)))])
 (.ite (.t 19)
 (.seq (.reg [] [fi 20 (.mv (.t 0)),
  fi 21 (.nilCheck (.t 20)),
  fi 22 (.fieldAddr 4 (.t 21)),
  fi 23 (.load false 1 (.t 22)),
  fi 24 (.bin .sub (.t 23) (.c (.int .i64 1))),
  fi 25 (.nilCheck (.t 20)),
  fi 26 (.fieldAddr 4 (.t 25)),
  st (.store 1 (.t 26) (.t 24))])
 (.reg [] [fi 27 (.mv (.t 0)),
  fi 28 (.mv (.t 0)),
  fi 29 (.nilCheck (.t 28)),
  fi 30 (.fieldAddr 4 (.t 29)),
  fi 31 (.load false 1 (.t 30)),
  fi 32 (.bin .eql (.t 31) (.c (.int .i64 0))),
  fi 33 (.nilCheck (.t 27)),
  fi 34 (.fieldAddr 5 (.t 33)),
  st (.store 1 (.t 34) (.t 32))]))
 .skip))
 (.seq (.reg [] [fi 35 (.mv (.t 0)),
  fi 36 (.nilCheck (.t 35)),
  fi 37 (.fieldAddr 5 (.t 36)),
  fi 38 (.load false 1 (.t 37)),
  fi 2 (.mv (.t 38)),
  fi 3 (.mv (.c (.int .i64 0)))])
 .ret)))))
theorem k_disk_Disk_begin : chkFn Try.prog n_disk_Disk_begin ⟨b_disk_Disk_begin, [.tmp 2, .tmp 3], 39⟩ = true := by kernel_rfl
abbrev n_disk_Disk_change : Nat := 63
def b_disk_Disk_change : Cd := (.seq (.reg [] [fi 6 (.mv (.c (.int .i64 0)))])
 (.seq (.seq (.reg [] [fi 11 (.mv (.t 0)),
  fi 12 (.mv (.t 1)),
  ei 13 (.buildSlice 1 1 0 [(.str (mkS []))] [(0, 1, (.t 12))]),
  ei 14 (.call 65 [(.t 11), (.t 13)]),
  fi 7 (.mv (.t 14))])
 (.seq (.reg [] [fi 15 (.mv (.t 7)),
  fi 16 (.bin .neq (.t 15) (.c (.int .i64 0)))])
 (.ite (.t 16)
 (.seq (.reg [] [fi 17 (.mv (.t 7)),
  fi 6 (.mv (.t 17))])
 .ret)
 .skip)))
 (.seq (.seq (.reg [] [fi 18 (.mv (.t 0)),
  fi 19 (.nilCheck (.t 18)),
  fi 20 (.fieldAddr 5 (.t 19)),
  fi 21 (.load false 1 (.t 20))])
 (.ite (.t 21)
 (.seq (.reg [] [fi 6 (.mv (.c (.int .i64 10)))])
 .ret)
 .skip))
 (.seq (.reg [] [fi 22 (.mv (.t 0)),
  fi 23 (.nilCheck (.t 22)),
  fi 24 (.fieldAddr 0 (.t 23)),
  fi 25 (.load false 1 (.t 24)),
  fi 26 (.mv (.t 1)),
  fi 27 (.lookup .str false (.ptr none) (.t 25) (.t 26)),
  fi 8 (.mv (.t 27))])
 (.seq (.seq (.reg [] [fi 28 (.mv (.t 8)),
  fi 29 (.eq false .ptr (.t 28) (.c (.ptr none)))])
 (.ite (.t 29)
 (.seq (.reg [] [fi 6 (.mv (.c (.int .i64 8)))])
 .ret)
 .skip))
 (.seq (.seq (.reg [] [fi 31 (.mv (.t 0)),
  ei 32 (.call 77 [(.t 31)]),
  fi 30 (.mv (.t 32)),
  fi 33 (.extract (.t 30) 0),
  fi 34 (.extract (.t 30) 1),
  fi 9 (.mv (.t 33)),
  fi 10 (.mv (.t 34))])
 (.seq (.reg [] [fi 35 (.mv (.t 9))])
 (.ite (.t 35)
 (.seq (.reg [] [fi 6 (.mv (.c (.int .i64 10)))])
 .ret)
 .skip)))
 (.seq (.reg [] [fi 36 (.mv (.t 2)),
  fi 37 (.mv (.t 8)),
  ei 38 (.callV (.t 36) [(.t 37)])])
 (.seq (.reg [] [fi 6 (.mv (.c (.int .i64 0)))])
 .ret))))))))
theorem k_disk_Disk_change : chkFn Try.prog n_disk_Disk_change ⟨b_disk_Disk_change, [.tmp 6], 39⟩ = true := by kernel_rfl
abbrev n_disk_Disk_grow : Nat := 80
def k_disk_Disk_grow_0 : Cd := (.seq (.reg [] [fi 27 (.mv (.t 0)),
  fi 28 (.nilCheck (.t 27)),
  fi 29 (.fieldAddr 5 (.t 28)),
  fi 30 (.load false 1 (.t 29)),
  fi 26 (.mv (.t 30))])
 (.ite (.t 26)
 (.seq (.reg [] [fi 8 (.mv (.c (.int .i64 10)))])
 .ret)
 (.seq (.reg [] [fi 32 (.mv (.t 3)),
  fi 33 (.mv (.t 32)),
  .run ⟨(some 34), (some (33, true)), .f (.mv (.t 10))⟩,
  .run ⟨(some 35), (some (33, true)), .f (.eq true .ptr (.t 34) (.c (.ptr none)))⟩,
  fi 36 (.pick (.t 33) (.t 35) (.c (.bool false))),
  fi 31 (.mv (.t 36))])
 (.ite (.t 31)
 (.seq (.reg [] [fi 8 (.mv (.c (.int .i64 9)))])
 .ret)
 (.seq (.reg [0, 1, 2, 3, 4, 5, 6, 7, 8, 9, 10, 11, 12] [fi 38 (.mv (.t 2)),
  fi 39 (.len .sl (.t 38)),
  fi 40 (.mv (.t 0)),
  fi 41 (.nilCheck (.t 40)),
  fi 42 (.fieldAddr 1 (.t 41)),
  fi 43 (.load false 1 (.t 42)),
  fi 44 (.mv (.t 0)),
  fi 45 (.nilCheck (.t 44)),
  fi 46 (.fieldAddr 2 (.t 45)),
  fi 47 (.load false 1 (.t 46)),
  fi 48 (.bin .sub (.t 43) (.t 47)),
  fi 49 (.bin .gtr (.t 39) (.t 48)),
  fi 37 (.mv (.t 49))])
 (.ite (.t 37)
 (.seq (.reg [] [fi 8 (.mv (.c (.int .i64 11)))])
 .ret)
 .skip))))))
def s_disk_Disk_grow_0 : Cd := (.seq (.reg [] [fi 51 (.mv (.t 0)),
  ei 52 (.call 77 [(.t 51)]),
  fi 50 (.mv (.t 52)),
  fi 53 (.extract (.t 50) 0),
  fi 54 (.extract (.t 50) 1),
  fi 11 (.mv (.t 53)),
  fi 12 (.mv (.t 54))])
 (.seq (.seq (.reg [] [fi 55 (.mv (.t 12)),
  fi 56 (.bin .neq (.t 55) (.c (.int .i64 0)))])
 (.ite (.t 56)
 (.seq (.reg [] [fi 57 (.mv (.t 12)),
  fi 8 (.mv (.t 57))])
 .ret)
 .skip))
 (.seq (.seq (.reg [] [fi 58 (.mv (.t 10)),
  fi 59 (.eq false .ptr (.t 58) (.c (.ptr none)))])
 (.ite (.t 59)
 (.seq (.reg [] [fi 60 (.build [(.sl [] 0 1 .nil), (.int .i64 0)] []),
  ei 61 (.box (.t 60)),
  fi 10 (.mv (.t 61))])
 (.reg [] [fi 62 (.mv (.t 0)),
  fi 63 (.nilCheck (.t 62)),
  fi 64 (.fieldAddr 0 (.t 63)),
  fi 65 (.load false 1 (.t 64)),
  fi 66 (.mv (.t 1)),
  fi 67 (.mv (.t 10)),
  st (.mapSet .str (.t 65) (.t 66) (.t 67))]))
 .skip))
 (.seq (.reg [] [fi 68 (.mv (.t 10)),
  fi 69 (.mv (.t 10)),
  fi 70 (.nilCheck (.t 69)),
  fi 71 (.fieldAddr 0 (.t 70)),
  fi 72 (.load false 1 (.t 71)),
  fi 73 (.mv (.t 2)),
  ei 74 (.append 1 1 false (.t 72) (.t 73)),
  fi 75 (.nilCheck (.t 68)),
  fi 76 (.fieldAddr 0 (.t 75)),
  st (.store 1 (.t 76) (.t 74))])
 (.seq (.reg [] [fi 77 (.mv (.t 0)),
  fi 78 (.nilCheck (.t 77)),
  fi 79 (.fieldAddr 2 (.t 78)),
  fi 80 (.load false 1 (.t 79)),
  fi 81 (.mv (.t 2)),
  fi 82 (.len .sl (.t 81)),
  fi 83 (.bin .add (.t 80) (.t 82)),
  fi 84 (.nilCheck (.t 77)),
  fi 85 (.fieldAddr 2 (.t 84)),
  st (.store 1 (.t 85) (.t 83))])
 (.seq (.seq (.reg [] [fi 86 (.mv (.t 11))])
 (.ite (.t 86)
 (.seq (.reg [] [fi 8 (.mv (.c (.int .i64 10)))])
 .ret)
 .skip))
 (.seq (.reg [] [fi 8 (.mv (.c (.int .i64 0)))])
 .ret)))))))
def b_disk_Disk_grow : Cd := (.seq (.reg [] [fi 8 (.mv (.c (.int .i64 0)))])
 (.seq (.seq (.reg [] [fi 13 (.mv (.t 0)),
  fi 14 (.mv (.t 1)),
  ei 15 (.buildSlice 1 1 0 [(.str (mkS []))] [(0, 1, (.t 14))]),
  ei 16 (.call 65 [(.t 13), (.t 15)]),
  fi 9 (.mv (.t 16))])
 (.seq (.reg [] [fi 17 (.mv (.t 9)),
  fi 18 (.bin .neq (.t 17) (.c (.int .i64 0)))])
 (.ite (.t 18)
 (.seq (.reg [] [fi 19 (.mv (.t 9)),
  fi 8 (.mv (.t 19))])
 .ret)
 .skip)))
 (.seq (.reg [] [fi 20 (.mv (.t 0)),
  fi 21 (.nilCheck (.t 20)),
  fi 22 (.fieldAddr 0 (.t 21)),
  fi 23 (.load false 1 (.t 22)),
  fi 24 (.mv (.t 1)),
  fi 25 (.lookup .str false (.ptr none) (.t 23) (.t 24)),
  fi 10 (.mv (.t 25))])
 (.seq (.blk 0 k_disk_Disk_grow_0)
 s_disk_Disk_grow_0))))
theorem k_disk_Disk_grow : chkFn Try.prog n_disk_Disk_grow ⟨b_disk_Disk_grow, [.tmp 8], 87⟩ = true := by kernel_rfl
abbrev n_disk_Disk_look : Nat := 65
def l_disk_Disk_look_0 : Cd := (.seq (.reg [] [fi 12 (.bin .lss (.t 11) (.t 10))])
 (.seq (.ite (.t 12)
 .skip
 (.exit 0))
 (.seq (.blk 1 (.seq (.reg [] [fi 13 (.indexAddr 1 (.t 9) (.t 11)),
  fi 14 (.load false 1 (.t 13)),
  fi 6 (.mv (.t 14))])
 (.seq (.reg [] [fi 15 (.mv (.t 6)),
  ei 16 (.call 42 [(.t 15)]),
  fi 17 (.un .not (.t 16))])
 (.ite (.t 17)
 (.seq (.reg [] [fi 4 (.mv (.c (.int .i64 1)))])
 .ret)
 .skip))))
 (.reg [] [fi 18 (.bin .add (.t 11) (.c (.int .i64 1))),
  fi 11 (.mv (.t 18))]))))
def b_disk_Disk_look : Cd := (.seq (.reg [] [fi 4 (.mv (.c (.int .i64 0)))])
 (.seq (.seq (.reg [] [fi 7 (.mv (.t 0)),
  fi 8 (.eq false .ptr (.t 7) (.c (.ptr none)))])
 (.ite (.t 8)
 (.seq (.reg [] [fi 4 (.mv (.c (.int .i64 8)))])
 .ret)
 .skip))
 (.seq (.seq (.reg [] [fi 9 (.mv (.t 1)),
  fi 10 (.len .sl (.t 9)),
  fi 11 (.mv (.c (.int .i64 0)))])
 (.blk 0 (.loop l_disk_Disk_look_0)))
 (.seq (.reg [] [fi 4 (.mv (.c (.int .i64 0)))])
 .ret))))
theorem k_disk_Disk_look : chkFn Try.prog n_disk_Disk_look ⟨b_disk_Disk_look, [.tmp 4], 19⟩ = true := by kernel_rfl
abbrev n_disk_Name : Nat := 42
def k_disk_Name_0 : Cd := (.seq (.reg [] [fi 8 (.mv (.t 6)),
  fi 3 (.mv (.t 8))])
 (.seq (.reg [] [fi 9 (.mv (.t 0)),
  fi 10 (.mv (.t 3)),
  fi 11 (.indexS (.t 9) (.t 10)),
  fi 12 (.bin .geq (.t 11) (.c (.int .u8 97))),
  fi 13 (.mv (.t 12)),
  .run ⟨(some 14), (some (13, true)), .f (.mv (.t 0))⟩,
  .run ⟨(some 15), (some (13, true)), .f (.mv (.t 3))⟩,
  .run ⟨(some 16), (some (13, true)), .f (.indexS (.t 14) (.t 15))⟩,
  .run ⟨(some 17), (some (13, true)), .f (.bin .leq (.t 16) (.c (.int .u8 122)))⟩,
  fi 18 (.pick (.t 13) (.t 17) (.c (.bool false))),
  fi 19 (.mv (.t 18)),
  .run ⟨(some 20), (some (19, false)), .f (.mv (.t 0))⟩,
  .run ⟨(some 21), (some (19, false)), .f (.mv (.t 3))⟩,
  .run ⟨(some 22), (some (19, false)), .f (.indexS (.t 20) (.t 21))⟩,
  .run ⟨(some 23), (some (19, false)), .f (.bin .geq (.t 22) (.c (.int .u8 48)))⟩,
  .run ⟨(some 24), (some (19, false)), .f (.mv (.t 23))⟩,
  .run ⟨(some 25), (some (24, true)), .f (.mv (.t 0))⟩,
  .run ⟨(some 26), (some (24, true)), .f (.mv (.t 3))⟩,
  .run ⟨(some 27), (some (24, true)), .f (.indexS (.t 25) (.t 26))⟩,
  .run ⟨(some 28), (some (24, true)), .f (.bin .leq (.t 27) (.c (.int .u8 57)))⟩,
  .run ⟨(some 29), (some (19, false)), .f (.pick (.t 24) (.t 28) (.c (.bool false)))⟩,
  fi 30 (.pick (.t 19) (.c (.bool true)) (.t 29)),
  fi 31 (.mv (.t 30)),
  .run ⟨(some 32), (some (31, false)), .f (.mv (.t 0))⟩,
  .run ⟨(some 33), (some (31, false)), .f (.mv (.t 3))⟩,
  .run ⟨(some 34), (some (31, false)), .f (.indexS (.t 32) (.t 33))⟩,
  .run ⟨(some 35), (some (31, false)), .f (.bin .eql (.t 34) (.c (.int .u8 46)))⟩,
  fi 36 (.pick (.t 31) (.c (.bool true)) (.t 35)),
  fi 37 (.mv (.t 36)),
  .run ⟨(some 38), (some (37, false)), .f (.mv (.t 0))⟩,
  .run ⟨(some 39), (some (37, false)), .f (.mv (.t 3))⟩,
  .run ⟨(some 40), (some (37, false)), .f (.indexS (.t 38) (.t 39))⟩,
  .run ⟨(some 41), (some (37, false)), .f (.bin .eql (.t 40) (.c (.int .u8 45)))⟩,
  fi 42 (.pick (.t 37) (.c (.bool true)) (.t 41)),
  fi 43 (.un .not (.t 42))])
 (.ite (.t 43)
 (.seq (.reg [] [fi 2 (.mv (.c (.bool false)))])
 .ret)
 .skip)))
def l_disk_Name_0 : Cd := (.seq (.reg [] [fi 7 (.bin .lss (.t 6) (.t 5))])
 (.seq (.ite (.t 7)
 .skip
 (.exit 0))
 (.seq (.blk 1 k_disk_Name_0)
 (.reg [] [fi 44 (.bin .add (.t 6) (.c (.int .i64 1))),
  fi 6 (.mv (.t 44))]))))
def s_disk_Name_0 : Cd := (.seq (.reg [] [fi 45 (.mv (.t 0)),
  fi 46 (.len .str (.t 45)),
  fi 47 (.bin .geq (.t 46) (.c (.int .i64 1))),
  fi 48 (.mv (.t 47)),
  .run ⟨(some 49), (some (48, true)), .f (.mv (.t 0))⟩,
  .run ⟨(some 50), (some (48, true)), .f (.len .str (.t 49))⟩,
  .run ⟨(some 51), (some (48, true)), .f (.bin .leq (.t 50) (.c (.int .i64 32)))⟩,
  fi 52 (.pick (.t 48) (.t 51) (.c (.bool false))),
  fi 2 (.mv (.t 52))])
 .ret)
def b_disk_Name : Cd := (.seq (.reg [] [fi 2 (.mv (.c (.bool false)))])
 (.seq (.seq (.reg [] [fi 4 (.mv (.t 0)),
  fi 5 (.len .str (.t 4)),
  fi 6 (.mv (.c (.int .i64 0)))])
 (.blk 0 (.loop l_disk_Name_0)))
 s_disk_Name_0))
theorem k_disk_Name : chkFn Try.prog n_disk_Name ⟨b_disk_Name, [.tmp 2], 53⟩ = true := by kernel_rfl
abbrev n_disk_New : Nat := 9
def b_disk_New : Cd := (.seq (.reg [] [fi 2 (.mv (.c (.ptr none))),
  fi 3 (.mv (.c (.int .i64 0)))])
 (.seq (.seq (.reg [] [fi 4 (.mv (.t 0)),
  fi 5 (.bin .lss (.t 4) (.c (.int .i64 0))),
  fi 6 (.mv (.t 5)),
  .run ⟨(some 7), (some (6, false)), .f (.mv (.t 0))⟩,
  .run ⟨(some 8), (some (6, false)), .f (.bin .gtr (.t 7) (.c (.int .i64 67108864)))⟩,
  fi 9 (.pick (.t 6) (.c (.bool true)) (.t 8))])
 (.ite (.t 9)
 (.seq (.reg [] [fi 2 (.mv (.c (.ptr none))),
  fi 3 (.mv (.c (.int .i64 1)))])
 .ret)
 .skip))
 (.seq (.reg [] [ei 10 (.makeMap),
  fi 11 (.mv (.t 0)),
  fi 12 (.build [(.map none), (.int .i64 0), (.int .i64 0), (.int .i64 0), (.int .i64 0), (.bool false)] [(0, 1, (.t 10)), (1, 1, (.t 11))]),
  ei 13 (.box (.t 12)),
  fi 2 (.mv (.t 13)),
  fi 3 (.mv (.c (.int .i64 0)))])
 .ret)))
theorem k_disk_New : chkFn Try.prog n_disk_New ⟨b_disk_New, [.tmp 2, .tmp 3], 14⟩ = true := by kernel_rfl
end Go.VM
namespace Go.VM
open Go Go.Proofs
abbrev n_pack_Frame : Nat := 67
def b_pack_Frame : Cd := (.seq (.reg [] [fi 2 (.mv (.c (.sl [] 0 1 .nil))),
  fi 3 (.mv (.c (.int .i64 0)))])
 (.seq (.seq (.reg [] [fi 5 (.mv (.t 0)),
  fi 6 (.len .sl (.t 5)),
  fi 7 (.bin .gtr (.t 6) (.c (.int .i64 65535)))])
 (.ite (.t 7)
 (.seq (.reg [] [fi 2 (.mv (.c (.sl [] 0 1 .nil))),
  fi 3 (.mv (.c (.int .i64 2)))])
 .ret)
 .skip))
 (.seq (.reg [] [ei 8 (.buildSlice 1 1 0 [(.int .u8 0)] [(0, 1, (.c (.int .u8 241)))]),
  fi 9 (.mv (.t 0)),
  fi 10 (.len .sl (.t 9)),
  fi 11 (.conv (.int .u64) (.t 10)),
  ei 12 (.call 52 [(.t 11)]),
  ei 13 (.append 1 1 false (.t 8) (.t 12)),
  fi 4 (.mv (.t 13))])
 (.seq (.reg [] [fi 14 (.mv (.t 4)),
  fi 15 (.mv (.t 0)),
  ei 16 (.call 79 [(.t 15)]),
  ei 17 (.call 78 [(.t 16)]),
  ei 18 (.append 1 1 false (.t 14) (.t 17)),
  fi 4 (.mv (.t 18))])
 (.seq (.reg [] [fi 19 (.mv (.t 4)),
  fi 20 (.mv (.t 0)),
  ei 21 (.append 1 1 false (.t 19) (.t 20)),
  fi 4 (.mv (.t 21))])
 (.seq (.reg [] [fi 22 (.mv (.t 4)),
  ei 23 (.buildSlice 1 1 0 [(.int .u8 0)] [(0, 1, (.c (.int .u8 31)))]),
  ei 24 (.append 1 1 false (.t 22) (.t 23)),
  fi 2 (.mv (.t 24)),
  fi 3 (.mv (.c (.int .i64 0)))])
 .ret))))))
theorem k_pack_Frame : chkFn Try.prog n_pack_Frame ⟨b_pack_Frame, [.tmp 2, .tmp 3], 25⟩ = true := by kernel_rfl
abbrev n_pack_ReadFrame : Nat := 66
def b_pack_ReadFrame : Cd := (.seq (.reg [] [fi 4 (.mv (.c (.sl [] 0 1 .nil))),
  fi 5 (.mv (.c (.int .i64 0))),
  fi 6 (.mv (.c (.int .i64 0)))])
 (.seq (.seq (.reg [] [fi 11 (.mv (.t 1)),
  fi 12 (.bin .lss (.t 11) (.c (.int .i64 0))),
  fi 13 (.mv (.t 12)),
  .run ⟨(some 14), (some (13, false)), .f (.mv (.t 1))⟩,
  .run ⟨(some 15), (some (13, false)), .f (.mv (.t 0))⟩,
  .run ⟨(some 16), (some (13, false)), .f (.len .sl (.t 15))⟩,
  .run ⟨(some 17), (some (13, false)), .f (.bin .gtr (.t 14) (.t 16))⟩,
  fi 18 (.pick (.t 13) (.c (.bool true)) (.t 17))])
 (.ite (.t 18)
 (.seq (.reg [] [fi 4 (.mv (.c (.sl [] 0 1 .nil))),
  fi 5 (.mv (.c (.int .i64 0))),
  fi 6 (.mv (.c (.int .i64 1)))])
 .ret)
 .skip))
 (.seq (.seq (.reg [] [fi 19 (.mv (.t 1)),
  fi 20 (.mv (.t 0)),
  fi 21 (.len .sl (.t 20)),
  fi 22 (.bin .eql (.t 19) (.t 21))])
 (.ite (.t 22)
 (.seq (.reg [] [fi 4 (.mv (.c (.sl [] 0 1 .nil))),
  fi 5 (.mv (.c (.int .i64 0))),
  fi 6 (.mv (.c (.int .i64 8)))])
 .ret)
 .skip))
 (.seq (.reg [] [fi 24 (.mv (.t 0)),
  fi 25 (.mv (.t 1)),
  fi 26 (.bin .add (.t 25) (.c (.int .i64 1))),
  ei 27 (.call 47 [(.t 24), (.t 26)]),
  fi 23 (.mv (.t 27)),
  fi 28 (.extract (.t 23) 0),
  fi 29 (.extract (.t 23) 1),
  fi 30 (.extract (.t 23) 2),
  fi 7 (.mv (.t 28)),
  fi 8 (.mv (.t 29)),
  fi 9 (.mv (.t 30))])
 (.seq (.seq (.reg [] [fi 31 (.mv (.t 0)),
  fi 32 (.mv (.t 1)),
  fi 33 (.indexAddr 1 (.t 31) (.t 32)),
  fi 34 (.load false 1 (.t 33)),
  fi 35 (.bin .neq (.t 34) (.c (.int .u8 241))),
  fi 36 (.mv (.t 35)),
  .run ⟨(some 37), (some (36, false)), .f (.mv (.t 9))⟩,
  .run ⟨(some 38), (some (36, false)), .f (.bin .neq (.t 37) (.c (.int .i64 0)))⟩,
  fi 39 (.pick (.t 36) (.c (.bool true)) (.t 38)),
  fi 40 (.mv (.t 39)),
  .run ⟨(some 41), (some (40, false)), .f (.mv (.t 7))⟩,
  .run ⟨(some 42), (some (40, false)), .f (.bin .gtr (.t 41) (.c (.int .u64 65535)))⟩,
  fi 43 (.pick (.t 40) (.c (.bool true)) (.t 42)),
  fi 44 (.mv (.t 43)),
  .run ⟨(some 45), (some (44, false)), .f (.mv (.t 7))⟩,
  .run ⟨(some 46), (some (44, false)), .f (.conv (.int .i64) (.t 45))⟩,
  .run ⟨(some 47), (some (44, false)), .f (.mv (.t 0))⟩,
  .run ⟨(some 48), (some (44, false)), .f (.len .sl (.t 47))⟩,
  .run ⟨(some 49), (some (44, false)), .f (.mv (.t 8))⟩,
  .run ⟨(some 50), (some (44, false)), .f (.bin .sub (.t 48) (.t 49))⟩,
  .run ⟨(some 51), (some (44, false)), .f (.bin .sub (.t 50) (.c (.int .i64 5)))⟩,
  .run ⟨(some 52), (some (44, false)), .f (.bin .gtr (.t 46) (.t 51))⟩,
  fi 53 (.pick (.t 44) (.c (.bool true)) (.t 52)),
  fi 54 (.mv (.t 53)),
  .run ⟨(some 55), (some (54, false)), .f (.mv (.t 0))⟩,
  .run ⟨(some 56), (some (54, false)), .f (.mv (.t 8))⟩,
  .run ⟨(some 57), (some (54, false)), .f (.bin .add (.t 56) (.c (.int .i64 4)))⟩,
  .run ⟨(some 58), (some (54, false)), .f (.mv (.t 7))⟩,
  .run ⟨(some 59), (some (54, false)), .f (.conv (.int .i64) (.t 58))⟩,
  .run ⟨(some 60), (some (54, false)), .f (.bin .add (.t 57) (.t 59))⟩,
  .run ⟨(some 61), (some (54, false)), .f (.indexAddr 1 (.t 55) (.t 60))⟩,
  .run ⟨(some 62), (some (54, false)), .f (.load false 1 (.t 61))⟩,
  .run ⟨(some 63), (some (54, false)), .f (.bin .neq (.t 62) (.c (.int .u8 31)))⟩,
  fi 64 (.pick (.t 54) (.c (.bool true)) (.t 63))])
 (.ite (.t 64)
 (.seq (.reg [] [fi 4 (.mv (.c (.sl [] 0 1 .nil))),
  fi 5 (.mv (.c (.int .i64 0))),
  fi 6 (.mv (.c (.int .i64 3)))])
 .ret)
 .skip))
 (.seq (.reg [] [fi 65 (.mv (.t 0)),
  fi 66 (.mv (.t 8)),
  fi 67 (.bin .add (.t 66) (.c (.int .i64 4))),
  fi 68 (.mv (.t 8)),
  fi 69 (.bin .add (.t 68) (.c (.int .i64 4))),
  fi 70 (.mv (.t 7)),
  fi 71 (.conv (.int .i64) (.t 70)),
  fi 72 (.bin .add (.t 69) (.t 71)),
  fi 73 (.slice 1 (.t 65) (some (.t 67)) (some (.t 72)) none),
  ei 74 (.append 1 1 false (.c (.sl [] 0 1 .nil)) (.t 73)),
  fi 10 (.mv (.t 74))])
 (.seq (.seq (.reg [0, 1, 2, 3, 4, 5, 6, 7, 5, 8, 5, 9, 10] [fi 75 (.mv (.t 0)),
  fi 76 (.mv (.t 8)),
  fi 77 (.mv (.t 8)),
  fi 78 (.bin .add (.t 77) (.c (.int .i64 4))),
  fi 79 (.slice 1 (.t 75) (some (.t 76)) (some (.t 78)) none),
  fi 80 (.conv .bytesStr (.t 79)),
  fi 81 (.mv (.t 10)),
  ei 82 (.call 79 [(.t 81)]),
  .chk 80 none (.conv .bytesStr (.t 79)),
  ei 83 (.call 78 [(.t 82)]),
  .chk 80 none (.conv .bytesStr (.t 79)),
  fi 84 (.conv .bytesStr (.t 83)),
  fi 85 (.bin .neq (.t 80) (.t 84))])
 (.ite (.t 85)
 (.seq (.reg [] [fi 4 (.mv (.c (.sl [] 0 1 .nil))),
  fi 5 (.mv (.c (.int .i64 0))),
  fi 6 (.mv (.c (.int .i64 5)))])
 .ret)
 .skip))
 (.seq (.reg [] [fi 86 (.mv (.t 10)),
  fi 87 (.mv (.t 8)),
  fi 88 (.bin .add (.t 87) (.c (.int .i64 5))),
  fi 89 (.mv (.t 7)),
  fi 90 (.conv (.int .i64) (.t 89)),
  fi 91 (.bin .add (.t 88) (.t 90)),
  fi 4 (.mv (.t 86)),
  fi 5 (.mv (.t 91)),
  fi 6 (.mv (.c (.int .i64 0)))])
 .ret))))))))
theorem k_pack_ReadFrame : chkFn Try.prog n_pack_ReadFrame ⟨b_pack_ReadFrame, [.tmp 4, .tmp 5, .tmp 6], 92⟩ = true := by kernel_rfl
abbrev n_pack_ReadText : Nat := 73
def k_pack_ReadText_0 : Cd := (.seq (.reg [] [fi 20 (.mv (.t 11)),
  fi 21 (.bin .neq (.t 20) (.c (.int .i64 0))),
  fi 19 (.mv (.t 21))])
 (.ite (.t 19)
 (.seq (.reg [] [fi 22 (.mv (.t 11)),
  fi 6 (.mv (.c (.str (mkS [])))),
  fi 7 (.mv (.c (.int .i64 0))),
  fi 8 (.mv (.t 22))])
 .ret)
 (.seq (.reg [] [fi 24 (.mv (.t 9)),
  fi 25 (.mv (.t 0)),
  fi 26 (.len .sl (.t 25)),
  fi 27 (.mv (.t 10)),
  fi 28 (.bin .sub (.t 26) (.t 27)),
  fi 29 (.conv (.int .u64) (.t 28)),
  fi 30 (.bin .gtr (.t 24) (.t 29)),
  fi 23 (.mv (.t 30))])
 (.ite (.t 23)
 (.seq (.reg [] [fi 6 (.mv (.c (.str (mkS [])))),
  fi 7 (.mv (.c (.int .i64 0))),
  fi 8 (.mv (.c (.int .i64 3)))])
 .ret)
 (.seq (.reg [] [fi 32 (.mv (.t 2)),
  fi 33 (.bin .lss (.t 32) (.c (.int .i64 0))),
  fi 34 (.mv (.t 33)),
  .run ⟨(some 35), (some (34, false)), .f (.mv (.t 9))⟩,
  .run ⟨(some 36), (some (34, false)), .f (.mv (.t 2))⟩,
  .run ⟨(some 37), (some (34, false)), .f (.conv (.int .u64) (.t 36))⟩,
  .run ⟨(some 38), (some (34, false)), .f (.bin .gtr (.t 35) (.t 37))⟩,
  fi 39 (.pick (.t 34) (.c (.bool true)) (.t 38)),
  fi 31 (.mv (.t 39))])
 (.ite (.t 31)
 (.seq (.reg [] [fi 6 (.mv (.c (.str (mkS [])))),
  fi 7 (.mv (.c (.int .i64 0))),
  fi 8 (.mv (.c (.int .i64 2)))])
 .ret)
 .skip))))))
def s_pack_ReadText_0 : Cd := (.seq (.reg [] [fi 40 (.mv (.t 0)),
  fi 41 (.mv (.t 10)),
  fi 42 (.mv (.t 10)),
  fi 43 (.mv (.t 9)),
  fi 44 (.conv (.int .i64) (.t 43)),
  fi 45 (.bin .add (.t 42) (.t 44)),
  fi 46 (.slice 1 (.t 40) (some (.t 41)) (some (.t 45)) none),
  fi 47 (.conv .bytesStr (.t 46)),
  fi 48 (.mv (.t 10)),
  fi 49 (.mv (.t 9)),
  fi 50 (.conv (.int .i64) (.t 49)),
  fi 51 (.bin .add (.t 48) (.t 50)),
  fi 6 (.mv (.t 47)),
  fi 7 (.mv (.t 51)),
  fi 8 (.mv (.c (.int .i64 0)))])
 .ret)
def b_pack_ReadText : Cd := (.seq (.reg [] [fi 6 (.mv (.c (.str (mkS [])))),
  fi 7 (.mv (.c (.int .i64 0))),
  fi 8 (.mv (.c (.int .i64 0)))])
 (.seq (.reg [] [fi 13 (.mv (.t 0)),
  fi 14 (.mv (.t 1)),
  ei 15 (.call 47 [(.t 13), (.t 14)]),
  fi 12 (.mv (.t 15)),
  fi 16 (.extract (.t 12) 0),
  fi 17 (.extract (.t 12) 1),
  fi 18 (.extract (.t 12) 2),
  fi 9 (.mv (.t 16)),
  fi 10 (.mv (.t 17)),
  fi 11 (.mv (.t 18))])
 (.seq (.blk 0 k_pack_ReadText_0)
 s_pack_ReadText_0)))
theorem k_pack_ReadText : chkFn Try.prog n_pack_ReadText ⟨b_pack_ReadText, [.tmp 6, .tmp 7, .tmp 8], 52⟩ = true := by kernel_rfl
abbrev n_pack_ReadUvarint : Nat := 47
def k_pack_ReadUvarint_0 : Cd := (.seq (.reg [] [fi 26 (.mv (.t 8)),
  fi 27 (.mv (.t 1)),
  fi 28 (.bin .sub (.t 26) (.t 27)),
  fi 9 (.mv (.t 28))])
 (.seq (.reg [] [fi 29 (.mv (.t 0)),
  fi 30 (.mv (.t 8)),
  fi 31 (.indexAddr 1 (.t 29) (.t 30)),
  fi 32 (.load false 1 (.t 31)),
  fi 10 (.mv (.t 32))])
 (.seq (.seq (.reg [] [fi 33 (.mv (.t 9)),
  fi 34 (.bin .eql (.t 33) (.c (.int .i64 9))),
  fi 35 (.mv (.t 34)),
  .run ⟨(some 36), (some (35, true)), .f (.mv (.t 10))⟩,
  .run ⟨(some 37), (some (35, true)), .f (.bin .gtr (.t 36) (.c (.int .u8 1)))⟩,
  fi 38 (.pick (.t 35) (.t 37) (.c (.bool false))),
  fi 39 (.mv (.t 38)),
  .run ⟨(some 40), (some (39, false)), .f (.mv (.t 10))⟩,
  .run ⟨(some 41), (some (39, false)), .f (.bin .eql (.t 40) (.c (.int .u8 0)))⟩,
  .run ⟨(some 42), (some (39, false)), .f (.mv (.t 41))⟩,
  .run ⟨(some 43), (some (42, true)), .f (.mv (.t 9))⟩,
  .run ⟨(some 44), (some (42, true)), .f (.bin .gtr (.t 43) (.c (.int .i64 0)))⟩,
  .run ⟨(some 45), (some (39, false)), .f (.pick (.t 42) (.t 44) (.c (.bool false)))⟩,
  fi 46 (.pick (.t 39) (.c (.bool true)) (.t 45))])
 (.ite (.t 46)
 (.seq (.reg [] [fi 4 (.mv (.c (.int .u64 0))),
  fi 5 (.mv (.c (.int .i64 0))),
  fi 6 (.mv (.c (.int .i64 3)))])
 .ret)
 .skip))
 (.seq (.reg [] [fi 47 (.mv (.t 7)),
  fi 48 (.mv (.t 10)),
  fi 49 (.bin .and (.t 48) (.c (.int .u8 127))),
  fi 50 (.conv (.int .u64) (.t 49)),
  fi 51 (.mv (.t 9)),
  fi 52 (.bin .mul (.c (.int .i64 7)) (.t 51)),
  fi 53 (.bin .shl (.t 50) (.t 52)),
  fi 54 (.bin .or (.t 47) (.t 53)),
  fi 7 (.mv (.t 54))])
 (.seq (.reg [] [fi 55 (.mv (.t 10)),
  fi 56 (.bin .lss (.t 55) (.c (.int .u8 128)))])
 (.ite (.t 56)
 (.seq (.reg [] [fi 57 (.mv (.t 7)),
  fi 58 (.mv (.t 8)),
  fi 59 (.bin .add (.t 58) (.c (.int .i64 1))),
  fi 4 (.mv (.t 57)),
  fi 5 (.mv (.t 59)),
  fi 6 (.mv (.c (.int .i64 0)))])
 .ret)
 .skip))))))
def l_pack_ReadUvarint_0 : Cd := (.seq (.seq (.reg [] [fi 20 (.mv (.t 8)),
  fi 21 (.mv (.t 0)),
  fi 22 (.len .sl (.t 21)),
  fi 23 (.bin .lss (.t 20) (.t 22))])
 (.ite (.t 23)
 .skip
 (.exit 0)))
 (.seq (.blk 1 k_pack_ReadUvarint_0)
 (.reg [] [fi 24 (.mv (.t 8)),
  fi 25 (.bin .add (.t 24) (.c (.int .i64 1))),
  fi 8 (.mv (.t 25))])))
def b_pack_ReadUvarint : Cd := (.seq (.reg [] [fi 4 (.mv (.c (.int .u64 0))),
  fi 5 (.mv (.c (.int .i64 0))),
  fi 6 (.mv (.c (.int .i64 0)))])
 (.seq (.seq (.reg [] [fi 11 (.mv (.t 1)),
  fi 12 (.bin .lss (.t 11) (.c (.int .i64 0))),
  fi 13 (.mv (.t 12)),
  .run ⟨(some 14), (some (13, false)), .f (.mv (.t 1))⟩,
  .run ⟨(some 15), (some (13, false)), .f (.mv (.t 0))⟩,
  .run ⟨(some 16), (some (13, false)), .f (.len .sl (.t 15))⟩,
  .run ⟨(some 17), (some (13, false)), .f (.bin .gtr (.t 14) (.t 16))⟩,
  fi 18 (.pick (.t 13) (.c (.bool true)) (.t 17))])
 (.ite (.t 18)
 (.seq (.reg [] [fi 4 (.mv (.c (.int .u64 0))),
  fi 5 (.mv (.c (.int .i64 0))),
  fi 6 (.mv (.c (.int .i64 1)))])
 .ret)
 .skip))
 (.seq (.reg [] [fi 7 (.mv (.c (.int .u64 0)))])
 (.seq (.seq (.reg [] [fi 19 (.mv (.t 1)),
  fi 8 (.mv (.t 19))])
 (.blk 0 (.loop l_pack_ReadUvarint_0)))
 (.seq (.reg [] [fi 4 (.mv (.c (.int .u64 0))),
  fi 5 (.mv (.c (.int .i64 0))),
  fi 6 (.mv (.c (.int .i64 3)))])
 .ret)))))
theorem k_pack_ReadUvarint : chkFn Try.prog n_pack_ReadUvarint ⟨b_pack_ReadUvarint, [.tmp 4, .tmp 5, .tmp 6], 60⟩ = true := by kernel_rfl
abbrev n_pack_Sum : Nat := 79
def l_pack_Sum_0 : Cd := (.seq (.reg [] [fi 17 (.bin .lss (.t 16) (.c (.int .i64 8)))])
 (.seq (.ite (.t 17)
 .skip
 (.exit 2))
 (.seq (.blk 3 (.seq (.reg [] [fi 18 (.mv (.t 3)),
  fi 19 (.bin .and (.t 18) (.c (.int .u32 1))),
  fi 20 (.bin .eql (.t 19) (.c (.int .u32 1)))])
 (.ite (.t 20)
 (.reg [] [fi 21 (.mv (.t 3)),
  fi 22 (.bin .shr (.t 21) (.c (.int .u64 1))),
  fi 23 (.bin .xor (.t 22) (.c (.int .u32 3988292384))),
  fi 3 (.mv (.t 23))])
 (.reg [] [fi 24 (.mv (.t 3)),
  fi 25 (.bin .shr (.t 24) (.c (.int .u64 1))),
  fi 3 (.mv (.t 25))]))))
 (.reg [] [fi 26 (.bin .add (.t 16) (.c (.int .i64 1))),
  fi 16 (.mv (.t 26))]))))
def l_pack_Sum_1 : Cd := (.seq (.reg [] [fi 9 (.bin .lss (.t 8) (.t 7))])
 (.seq (.ite (.t 9)
 .skip
 (.exit 0))
 (.seq (.blk 1 (.seq (.reg [] [fi 10 (.indexAddr 1 (.t 6) (.t 8)),
  fi 11 (.load false 1 (.t 10)),
  fi 5 (.mv (.t 11))])
 (.seq (.reg [] [fi 12 (.mv (.t 3)),
  fi 13 (.mv (.t 5)),
  fi 14 (.conv (.int .u32) (.t 13)),
  fi 15 (.bin .xor (.t 12) (.t 14)),
  fi 3 (.mv (.t 15))])
 (.seq (.reg [] [fi 16 (.mv (.c (.int .i64 0)))])
 (.blk 2 (.loop l_pack_Sum_0))))))
 (.reg [] [fi 27 (.bin .add (.t 8) (.c (.int .i64 1))),
  fi 8 (.mv (.t 27))]))))
def b_pack_Sum : Cd := (.seq (.reg [] [fi 2 (.mv (.c (.int .u32 0)))])
 (.seq (.reg [] [fi 3 (.mv (.c (.int .u32 4294967295)))])
 (.seq (.seq (.reg [] [fi 6 (.mv (.t 0)),
  fi 7 (.len .sl (.t 6)),
  fi 8 (.mv (.c (.int .i64 0)))])
 (.blk 0 (.loop l_pack_Sum_1)))
 (.seq (.reg [] [fi 28 (.mv (.t 3)),
  fi 29 (.un .xor (.t 28)),
  fi 2 (.mv (.t 29))])
 .ret))))
theorem k_pack_Sum : chkFn Try.prog n_pack_Sum ⟨b_pack_Sum, [.tmp 2], 30⟩ = true := by kernel_rfl
abbrev n_pack_Text : Nat := 72
def b_pack_Text : Cd := (.seq (.reg [] [fi 2 (.mv (.c (.sl [] 0 1 .nil)))])
 (.seq (.reg [] [fi 3 (.mv (.t 0)),
  fi 4 (.len .str (.t 3)),
  fi 5 (.conv (.int .u64) (.t 4)),
  ei 6 (.call 52 [(.t 5)]),
  fi 7 (.mv (.t 0)),
  ei 8 (.append 1 1 false (.t 6) (.t 7)),
  fi 2 (.mv (.t 8))])
 .ret))
theorem k_pack_Text : chkFn Try.prog n_pack_Text ⟨b_pack_Text, [.tmp 2], 9⟩ = true := by kernel_rfl
abbrev n_pack_Uvarint : Nat := 52
def l_pack_Uvarint_0 : Cd := (.seq (.seq (.reg [] [fi 4 (.mv (.t 0)),
  fi 5 (.bin .geq (.t 4) (.c (.int .u64 128)))])
 (.ite (.t 5)
 .skip
 (.exit 0)))
 (.seq (.blk 1 (.reg [] [fi 8 (.mv (.t 3)),
  fi 9 (.mv (.t 0)),
  fi 10 (.conv (.int .u8) (.t 9)),
  fi 11 (.bin .or (.t 10) (.c (.int .u8 128))),
  ei 12 (.buildSlice 1 1 0 [(.int .u8 0)] [(0, 1, (.t 11))]),
  ei 13 (.append 1 1 false (.t 8) (.t 12)),
  fi 3 (.mv (.t 13))]))
 (.reg [] [fi 6 (.mv (.t 0)),
  fi 7 (.bin .shr (.t 6) (.c (.int .u64 7))),
  fi 0 (.mv (.t 7))])))
def b_pack_Uvarint : Cd := (.seq (.reg [] [fi 2 (.mv (.c (.sl [] 0 1 .nil)))])
 (.seq (.reg [] [fi 3 (.mv (.c (.sl [] 0 1 .nil)))])
 (.seq (.blk 0 (.loop l_pack_Uvarint_0))
 (.seq (.reg [] [fi 14 (.mv (.t 3)),
  fi 15 (.mv (.t 0)),
  fi 16 (.conv (.int .u8) (.t 15)),
  ei 17 (.buildSlice 1 1 0 [(.int .u8 0)] [(0, 1, (.t 16))]),
  ei 18 (.append 1 1 false (.t 14) (.t 17)),
  fi 2 (.mv (.t 18))])
 .ret))))
theorem k_pack_Uvarint : chkFn Try.prog n_pack_Uvarint ⟨b_pack_Uvarint, [.tmp 2], 19⟩ = true := by kernel_rfl
abbrev n_pack_four : Nat := 78
def b_pack_four : Cd := (.seq (.reg [] [fi 2 (.mv (.c (.sl [] 0 1 .nil)))])
 (.seq (.reg [] [fi 3 (.mv (.t 0)),
  fi 4 (.bin .shr (.t 3) (.c (.int .u64 24))),
  fi 5 (.conv (.int .u8) (.t 4)),
  fi 6 (.mv (.t 0)),
  fi 7 (.bin .shr (.t 6) (.c (.int .u64 16))),
  fi 8 (.conv (.int .u8) (.t 7)),
  fi 9 (.mv (.t 0)),
  fi 10 (.bin .shr (.t 9) (.c (.int .u64 8))),
  fi 11 (.conv (.int .u8) (.t 10)),
  fi 12 (.mv (.t 0)),
  fi 13 (.conv (.int .u8) (.t 12)),
  ei 14 (.buildSlice 4 1 0 [(.int .u8 0), (.int .u8 0), (.int .u8 0), (.int .u8 0)] [(0, 1, (.t 5)), (1, 1, (.t 8)), (2, 1, (.t 11)), (3, 1, (.t 13))]),
  fi 2 (.mv (.t 14))])
 .ret))
theorem k_pack_four : chkFn Try.prog n_pack_four ⟨b_pack_four, [.tmp 2], 15⟩ = true := by kernel_rfl
end Go.VM
namespace Go.Proofs
open Go.Shelf
def Try.keysD_ren : Go.Shelf.Ren := ⟨fun | 7 => 62 | 10 => 76 | n => n, fun | 23 => 60 | 26 => 9 | 3 => 85 | 28 => 110 | 0 => 0 | 27 => 109 | 33 => 89 | 4 => 4 | n => n, fun | n => n⟩
theorem Try.keysD : Go.Proofs.SlLaysZ.n7 Try.prog Try.keysD_ren := {
 mixed := by kernel_rfl
 f7 := ⟨Try.f62.name, by decide, Try.func62.trans (congrArg some (by kernel_rfl))⟩
 f10 := ⟨Try.f76.name, by decide, Try.func76.trans (congrArg some (by kernel_rfl))⟩
 t0 := Try.underlying0
 a0 := Try.isAgg0
 z0 := Try.sizeOf0
 v0 := Try.zeroValue0
 t4 := Try.underlying4
 a4 := Try.isAgg4
 z4 := Try.sizeOf4
 v4 := Try.zeroValue4
 t23 := Try.underlying60
 a23 := Try.isAgg60
 z23 := Try.sizeOf60
 v23 := Try.zeroValue60
 t26 := Try.underlying9
 a26 := Try.isAgg9
 z26 := Try.sizeOf9
 v26 := Try.zeroValue9
 t27 := Try.underlying109
 a27 := Try.isAgg109
 z27 := Try.sizeOf109
 v27 := Try.zeroValue109
 t28 := Try.underlying110
 a28 := Try.isAgg110
 z28 := Try.sizeOf110
 v28 := Try.zeroValue110
 t33 := Try.underlying89
 a33 := Try.isAgg89
 z33 := Try.sizeOf89
 v33 := Try.zeroValue89 }
def Try.sortedD_ren : Go.Shelf.Ren := ⟨fun | 6 => 61 | 8 => 74 | 9 => 75 | 11 => 83 | 13 => 85 | 12 => 84 | 23 => 95 | 24 => 96 | 14 => 86 | 15 => 87 | 16 => 88 | 17 => 89 | 18 => 90 | 19 => 91 | 20 => 92 | 21 => 93 | 22 => 94 | 25 => 97 | 26 => 98 | 27 => 99 | 28 => 100 | 29 => 101 | 30 => 102 | 31 => 103 | n => n, fun | 26 => 9 | 28 => 110 | 24 => 29 | 0 => 0 | 3 => 3 | 37 => 120 | 48 => 130 | 50 => 36 | 4 => 4 | 40 => 138 | 39 => 137 | 45 => 143 | 5 => 5 | 9 => 9 | 51 => 147 | 55 => 150 | 57 => 152 | 58 => 153 | 33 => 89 | n => n, fun | n => n⟩
theorem Try.sortedD : Go.Proofs.SlLaysZ.n6 Try.prog Try.sortedD_ren := {
 mixed := by kernel_rfl
 f6 := ⟨Try.f61.name, by decide, Try.func61.trans (congrArg some (by kernel_rfl))⟩
 f8 := ⟨Try.f74.name, by decide, Try.func74.trans (congrArg some (by kernel_rfl))⟩
 f11 := ⟨Try.f83.name, by decide, Try.func83.trans (congrArg some (by kernel_rfl))⟩
 t0 := Try.underlying0
 a0 := Try.isAgg0
 z0 := Try.sizeOf0
 v0 := Try.zeroValue0
 t24 := Try.underlying29
 a24 := Try.isAgg29
 z24 := Try.sizeOf29
 v24 := Try.zeroValue29
 t26 := Try.underlying9
 a26 := Try.isAgg9
 z26 := Try.sizeOf9
 v26 := Try.zeroValue9
 t28 := Try.underlying110
 a28 := Try.isAgg110
 z28 := Try.sizeOf110
 v28 := Try.zeroValue110
 i26 := by kernel_rfl }
def Try.sortD_ren : Go.Shelf.Ren := ⟨fun | 6 => 75 | 8 => 85 | 9 => 84 | 19 => 95 | 20 => 96 | 21 => 86 | 22 => 87 | 23 => 88 | 24 => 89 | 25 => 90 | 26 => 91 | 27 => 92 | 28 => 93 | 29 => 94 | 36 => 97 | 31 => 98 | 32 => 99 | 37 => 100 | 38 => 101 | 39 => 102 | 41 => 103 | n => n, fun | 27 => 29 | 29 => 9 | 3 => 3 | 32 => 120 | 26 => 29 | 0 => 0 | 44 => 130 | 46 => 36 | 4 => 4 | 36 => 138 | 35 => 137 | 41 => 143 | 5 => 5 | 9 => 9 | 53 => 147 | 57 => 150 | 63 => 152 | 64 => 153 | n => n, fun | n => n⟩
theorem Try.sortD : Go.Proofs.SlLaysM.n6 Try.prog Try.sortD_ren := {
 mixed := by kernel_rfl
 f6 := ⟨Try.f75.name, by decide, Try.func75.trans (congrArg some (by kernel_rfl))⟩
 f8 := Try.func85.trans (congrArg some (by kernel_rfl))
 f9 := ⟨Try.f84.name, by decide, Try.func84.trans (congrArg some (by kernel_rfl))⟩
 f19 := Try.func95.trans (congrArg some (by kernel_rfl))
 f20 := Try.func96.trans (congrArg some (by kernel_rfl))
 f21 := ⟨Try.f86.name, by decide, Try.func86.trans (congrArg some (by kernel_rfl))⟩
 f22 := ⟨Try.f87.name, by decide, Try.func87.trans (congrArg some (by kernel_rfl))⟩
 f23 := ⟨Try.f88.name, by decide, Try.func88.trans (congrArg some (by kernel_rfl))⟩
 f24 := ⟨Try.f89.name, by decide, Try.func89.trans (congrArg some (by kernel_rfl))⟩
 f25 := ⟨Try.f90.name, by decide, Try.func90.trans (congrArg some (by kernel_rfl))⟩
 f26 := ⟨Try.f91.name, by decide, Try.func91.trans (congrArg some (by kernel_rfl))⟩
 f27 := ⟨Try.f92.name, by decide, Try.func92.trans (congrArg some (by kernel_rfl))⟩
 f28 := ⟨Try.f93.name, by decide, Try.func93.trans (congrArg some (by kernel_rfl))⟩
 f29 := ⟨Try.f94.name, by decide, Try.func94.trans (congrArg some (by kernel_rfl))⟩
 f31 := Try.func98.trans (congrArg some (by kernel_rfl))
 f32 := Try.func99.trans (congrArg some (by kernel_rfl))
 f36 := ⟨Try.f97.name, by decide, Try.func97.trans (congrArg some (by kernel_rfl))⟩
 f37 := ⟨Try.f100.name, by decide, Try.func100.trans (congrArg some (by kernel_rfl))⟩
 f38 := ⟨Try.f101.name, by decide, Try.func101.trans (congrArg some (by kernel_rfl))⟩
 f39 := ⟨Try.f102.name, by decide, Try.func102.trans (congrArg some (by kernel_rfl))⟩
 f41 := ⟨Try.f103.name, by decide, Try.func103.trans (congrArg some (by kernel_rfl))⟩
 t0 := Try.underlying0
 a0 := Try.isAgg0
 z0 := Try.sizeOf0
 v0 := Try.zeroValue0
 t3 := Try.underlying3
 a3 := Try.isAgg3
 z3 := Try.sizeOf3
 v3 := Try.zeroValue3
 t4 := Try.underlying4
 a4 := Try.isAgg4
 z4 := Try.sizeOf4
 v4 := Try.zeroValue4
 t5 := Try.underlying5
 a5 := Try.isAgg5
 z5 := Try.sizeOf5
 v5 := Try.zeroValue5
 t9 := Try.underlying9
 a9 := Try.isAgg9
 z9 := Try.sizeOf9
 v9 := Try.zeroValue9
 t26 := Try.underlying29
 a26 := Try.isAgg29
 z26 := Try.sizeOf29
 v26 := Try.zeroValue29
 t27 := Try.underlying29
 a27 := Try.isAgg29
 z27 := Try.sizeOf29
 v27 := Try.zeroValue29
 t29 := Try.underlying9
 a29 := Try.isAgg9
 z29 := Try.sizeOf9
 v29 := Try.zeroValue9
 t32 := Try.underlying120
 a32 := Try.isAgg120
 z32 := Try.sizeOf120
 v32 := Try.zeroValue120
 t35 := Try.underlying137
 a35 := Try.isAgg137
 z35 := Try.sizeOf137
 v35 := Try.zeroValue137
 t36 := Try.underlying138
 a36 := Try.isAgg138
 z36 := Try.sizeOf138
 v36 := Try.zeroValue138
 t41 := Try.underlying143
 a41 := Try.isAgg143
 z41 := Try.sizeOf143
 v41 := Try.zeroValue143
 t44 := Try.underlying130
 a44 := Try.isAgg130
 z44 := Try.sizeOf130
 v44 := Try.zeroValue130
 t46 := Try.underlying36
 a46 := Try.isAgg36
 z46 := Try.sizeOf36
 v46 := Try.zeroValue36
 t53 := Try.underlying147
 a53 := Try.isAgg147
 z53 := Try.sizeOf147
 v53 := Try.zeroValue147
 t57 := Try.underlying150
 a57 := Try.isAgg150
 z57 := Try.sizeOf150
 v57 := Try.zeroValue150
 t63 := Try.underlying152
 a63 := Try.isAgg152
 z63 := Try.sizeOf152
 v63 := Try.zeroValue152
 t64 := Try.underlying153
 a64 := Try.isAgg153
 z64 := Try.sizeOf153
 v64 := Try.zeroValue153 }
end Go.Proofs
namespace Go.VM
open Go Go.RowKit Go.Proofs Go.Maps Go.Sort Go.Shelf
theorem insert_perm {H : Type} (x : Lit × DataW H) : ∀ l, (DataW.insert x l).Perm (x :: l)
 | [] => List.Perm.refl _
 | y :: r => by
  unfold DataW.insert
  split
  ·exact List.Perm.refl _
  ·exact ((insert_perm x r).cons y).trans (List.Perm.swap x y r)
theorem foldr_insert_perm {H : Type} : ∀ l : List (Lit × DataW H), (l.foldr DataW.insert []).Perm l
 | [] => List.Perm.refl _
 | x :: r => (insert_perm x _).trans ((foldr_insert_perm r).cons x)
def G.grown (g : G) (w : World) : G := { g with nb := w.heap.size, bs := fun b => if b < g.nb then g.bs b else match w.heap[b]? with | some (.cells us _ _) => us.size | _ => 0 }
theorem le_grown {w0 w w' : World} {g : G} {S : St} (h : RelW w0 g S w) (hB : Below w.heap.size w w') : g.le (g.grown w') :=
 ⟨fun _ _ _ h => h, Nat.le_refl _, fun _ _ => rfl, by rw [h.nb]; exact hB.size, fun b hb => by simp only [G.grown]; rw [if_pos hb]⟩
theorem RelW.grown {w0 w w' : World} {g : G} {S : St} (h : RelW w0 g S w) (hB : Below w.heap.size w w') : RelW w0 (g.grown w') S w' := by
 have hle := le_grown h hB
 refine ⟨h.below.trans (hB.mono h.below.size), rfl, h.n, fun b p u hu => ?_, fun i x hx => ?_, h.sep⟩
 ·have hlt := h.iceLt hu
  rw [← h.ice b p u hu]
  exact World.cell?_of_block (hB.block b hlt)
 ·obtain ⟨h1, h2, o, h3, h4⟩ := h.hp i x hx
  refine ⟨h1, h2, o, ?_, h4.mono hle (by rw [h.nb]; exact h.lt hx) (fun _ => rfl)⟩
  show w'.heap[(g.loc i).1]? = _
  rw [hB.block _ (h.lt hx)]; exact h3
theorem RelW.strings {w0 w w' : World} {g : G} {S : St} (h : RelW w0 g S w) (hB : Below w.heap.size w w') {e : TypeId} {v : Value} {ss : List (List UInt8)} (hv : w'.ownsRow w.heap.size e 1 v ss.length (ss.map encStr)) (hn : v = .slice none 0 0 ↔ ss = []) :
  ∃ g', g.le g' ∧ RelW w0 g' S w' ∧ RelV g' (.sl (ss.map fun s => .str (mkS s)) ss.length 1 (if ss = [] then .nil else .no)) v := by
 have h1 := h.grown hB
 have l1 := le_grown h hB
 by_cases he : ss = []
 ·subst he
  obtain rfl := hn.2 rfl
  exact ⟨_, l1, h1, by rw [if_pos rfl]; exact ⟨by simp, .inl ⟨rfl, rfl, rfl, rfl⟩⟩⟩
 ·obtain ⟨_, hv⟩ := hv
  rcases hv with ⟨hv, _⟩ | ⟨gb, cap, cur, rfl, hg, hb, hc, _, _, ht⟩
  ·exact absurd (hn.1 hv) he
  ·have hxs : ∀ i u, (ss.map encStr)[i]? = some u → w'.cell? ⟨gb, i, none⟩ = some u := fun i u hu => by
    rw [cell_of_row _ _ _ _ _ _ hb]
    rw [← ht, List.getElem?_take] at hu
    split at hu
    ·simpa using hu
    ·cases hu
   have hold : ∀ i v, (g.grown w').ice gb i = some v → (ss.map encStr)[i]? = some v := fun i v hi => by
    have := h.iceLt (b := gb) (p := i) (u := v) hi
    omega
   refine ⟨(g.grown w').ices gb fun i => (ss.map encStr)[i]?, l1.trans (le_ices _ _ _ hold), h1.ices (fun i y hy => ?_) hold h1.below rfl (fun _ _ _ => rfl) (fun i v hi => hxs i v hi), ?_⟩
   ·have := h.lt hy
    show (g.loc i).1 ≠ gb
    omega
   ·rw [if_neg he]
    refine ⟨by simp, .inr (.inl ⟨(by intro hh; cases hh), gb, 0, cap, ss.map encStr, rfl, hc, ?_, ?_, fun j v hj => ?_, fun hh => (by cases hh), fun k hk => (by cases hk)⟩)⟩
    ·refine RelL_iff.2 ⟨by simp, fun j c u hc hu => ?_⟩
     simp only [List.getElem?_map, Option.map_eq_some_iff] at hc hu
     obtain ⟨s, hs, rfl⟩ := hc
     obtain ⟨s', hs', rfl⟩ := hu
     rw [hs] at hs'
     injection hs' with hs'
     subst hs'
     rfl
    ·intro u hu
     simp only [List.mem_map] at hu
     obtain ⟨s, _, rfl⟩ := hu
     rfl
    ·show (if gb = gb then _ else _) = _
     rw [if_pos rfl, Nat.zero_add]; exact hj
structure StrMap (es : List (V × V × Nat)) (c : Nat) (ks : List (List UInt8)) : Prop where
 keys : es.map (·.1) = ks.map fun k => V.str (mkS k)
 nodup : ks.Nodup
 short : ∀ k ∈ ks, k.length ≤ maxLen
 born : (es.map (·.2.2)).Nodup
 clock : ∀ e ∈ es, e.2.2 < c
def sortS (ks : List (List UInt8)) : List (List UInt8) := ks.mergeSort leB
theorem RelW.fixed {w0 w : World} {g : G} {S : St} (h : RelW w0 g S w) {us : List Value} {cs : List V} {ty : TypeId} (hr : RelL g cs us) :
  ∃ g', g.le g' ∧ RelW w0 g' (S.add (.fix cs)) (w.alloc (.cells us.toArray ty)) ∧ g'.loc S.n = (w.heap.size, 0) ∧ S.n < g'.n := by
 have l1 := le_block h us.toArray 0
 have h1 := h.block us.toArray ty (0, 0) 0
 have hlt : ∀ i y, S.hp i = some y → ((g.block us.toArray 0).loc i).1 ≠ w.heap.size := fun i y hy => by
  have := h.lt hy
  show (g.loc i).1 ≠ _
  omega
 refine ⟨(g.block us.toArray 0).obj w.heap.size 0, l1.trans (le_obj _ _ _), h1.obj (o := .cells us.toArray ty (0, 0)) ?_ h.below.size hlt ⟨rfl, us.toArray, ty, (0, 0), us, rfl, RelL_mono (l1.trans (le_obj _ _ _)) _ _ hr, fun j v hj => by simpa using hj⟩, ?_, ?_⟩
 ·exact heap_alloc_new w _
 ·simp [G.obj, G.block, h.n]
 ·simp [G.obj, G.block, h.n]
abbrev n_keys : Nat := 62
abbrev n_keysIt : Nat := 76
abbrev n_sorted : Nat := 61
theorem mapsKeys_runs {w0 : World} {S : St} {Q : AEnd → St → Prop} {r : Nat} (hQ : Q (.ret (.func n_keysIt [] [.ptr (some (S.n, 0))])) (S.add (.fix [.map (some r)]))) : RSim Try.prog w0 n_keys [.map (some r)] S Q := by
 refine ⟨⟨_, Try.func62, by kernel_rfl, by kernel_rfl⟩, fun g w us hW hr => ?_⟩
 obtain ⟨u, us', rfl, h1, h2⟩ := hr
 have : us' = [] := h2
 subst this
 obtain ⟨hrn, rfl⟩ : r < g.n ∧ u = .map (some (g.loc r).1) := h1
 have c := callsIn_wide.1 (AnyZ.keys_in Try.keysD Fence.wide 5 trivial rfl (some (g.loc r).1) w)
 refine Calls.mono c fun e w' ⟨he, hw⟩ => ?_
 subst he; subst hw
 obtain ⟨g', a1, a2, a3, a4⟩ := hW.fixed (us := [.map (some (g.loc r).1)]) (cs := [.map (some r)]) (ty := 60) ⟨_, _, rfl, ⟨hrn, rfl⟩, rfl⟩
 refine ⟨g', _, .ret (.func n_keysIt [] [.ptr (some (S.n, 0))]), a1, a2, ?_, hQ⟩
 refine ⟨[], [.pointer (some ⟨w.heap.size, 0, none⟩)], rfl, rfl, _, _, rfl, ⟨a4, by rw [a3]⟩, rfl⟩
theorem sorts (m : Nat) : AnyZ.SortsIn Try.prog Try.sortedD_ren Fence.wide m :=
  ⟨fun blk off cap ss W hH hblk hsz => callsIn_wide.2 (AnyM.slices_Sort_string Try.sortD blk off cap ss W hH hblk hsz),
   fun p cap W => callsIn_wide.2 (AnyM.slices_Sort_string_none Try.sortD p cap W)⟩
theorem sortedKeys_runs {w0 : World} {S : St} {Q : AEnd → St → Prop} {b r c : Nat} {es : List (V × V × Nat)} {ks : List (List UInt8)} (hb : S.hp b = some (.fix [.map (some r)])) (hr : S.hp r = some (.map es c)) (hm : StrMap es c ks) (hn : ks.length ≤ 1000000000000)
  (hQ : Q (.ret (.sl ((sortS ks).map fun s => .str (mkS s)) ks.length 1 (if ks = [] then .nil else .no))) S) : RSim Try.prog w0 n_sorted [.func n_keysIt [] [.ptr (some (b, 0))]] S Q := by
 refine ⟨⟨_, Try.func61, by kernel_rfl, by kernel_rfl⟩, fun g w us hW hrel => ?_⟩
 obtain ⟨u, us', rfl, h1, h2⟩ := hrel
 have : us' = [] := h2
 subst this
 obtain ⟨ps, cs, rfl, hps, hcs⟩ := h1
 have : ps = [] := hps
 subst this
 obtain ⟨pb, ps, rfl, ⟨hbn, rfl⟩, hps⟩ := hcs
 have : ps = [] := hps
 subst this
 obtain ⟨_, hb1, o, ho, hq, usb, tyb, frb, xs, rfl, hx1, hx2⟩ := hW.hp b _ hb
 obtain ⟨_, hr1, o', ho', ms, rfl, hM⟩ := hW.hp r _ hr
 obtain ⟨xm, xr, rfl, ⟨hrn, rfl⟩, hxr⟩ := hx1
 have hloc : g.loc b = ((g.loc b).1, 0) := by rw [← hq]
 have hcell : w.cell? ⟨(g.loc b).1, 0, none⟩ = some (.map (some (g.loc r).1)) := by
  rw [cell_of_row _ _ _ _ _ _ ho]
  exact hx2 0 _ rfl
 have hlen : es.length = ks.length := by have := congrArg List.length hm.keys; simpa using this
 have hkeyEq : ms.toList.map (·.key) = ks.map encStr := by
  apply List.ext_getElem?
  intro j
  simp only [List.getElem?_map]
  cases hj : ms.toList[j]? with
  | none =>
   have h1 := List.getElem?_eq_none_iff.1 hj
   rw [List.getElem?_eq_none (by have := hM.1; omega)]; rfl
  | some m =>
   have h1 := (List.getElem?_eq_some_iff.1 hj).1
   have he : es[j]? = some (es[j]'(by have := hM.1; omega)) := List.getElem?_eq_getElem _
   obtain ⟨hk, _⟩ := hM.2 j _ m he hj
   have hk2 : ks[j]? = some (ks[j]'(by have := hM.1; omega)) := List.getElem?_eq_getElem _
   rw [hk2]
   have h3 : (es.map (·.1))[j]? = (ks.map fun k => V.str (mkS k))[j]? := by rw [hm.keys]
   simp only [List.getElem?_map, he, hk2, Option.map_some, Option.some.injEq] at h3
   rw [h3] at hk
   simp only [Option.map_some, Option.some.injEq]
   exact hk
 have hbornEq : ms.toList.map (·.born) = es.map (·.2.2) := by
  apply List.ext_getElem?
  intro j
  simp only [List.getElem?_map]
  cases hj : ms.toList[j]? with
  | none =>
   have h1 := List.getElem?_eq_none_iff.1 hj
   rw [List.getElem?_eq_none (by have := hM.1; omega)]; rfl
  | some m =>
   have h1 := (List.getElem?_eq_some_iff.1 hj).1
   have he : es[j]? = some (es[j]'(by have := hM.1; omega)) := List.getElem?_eq_getElem _
   obtain ⟨_, _, hk, _⟩ := hM.2 j _ m he hj
   rw [he]
   simp only [Option.map_some, Option.some.injEq]
   exact hk
 have hinj : ∀ {a b : List UInt8}, encStr a = encStr b → a = b := fun h => encStr_inj h
 have hSt : MapKept.Stamped ms c := by
  refine ⟨fun x hx => ?_, by rw [hbornEq]; exact hm.born, by rw [hkeyEq]; exact hm.nodup.map _ (fun a b hab e => hab (hinj e))⟩
  have h1 : x.born ∈ ms.toList.map (·.born) := List.mem_map.2 ⟨x, hx, rfl⟩
  rw [hbornEq] at h1
  obtain ⟨e, he, h2⟩ := List.mem_map.1 h1
  rw [← h2]; exact hm.clock e he
 let R : Value → Option (DataW Nat × List MemPlace) := fun _ => some (.nil, [])
 have hU : Try.prog.underlying 9 = some .string := by kernel_rfl
 have hrd : ∀ (x : MapEntry) (k : List UInt8), x.key = encStr k → k.length ≤ maxLen → WideElems.rd Try.prog 9 R x = some (.string k, .nil) := fun x k h2 hs => by
  have : keyOf Try.prog 9 (encStr k) = some (.string k) := by
   simp [keyOf, hU, encStr, mapKey, ByteArray.size]
   exact hs
  simp only [WideElems.rd, h2, R, this]
  rfl
 have hkey : ∀ x ∈ ms.toList, ∃ k ∈ ks, x.key = encStr k := fun x hx => by
  have h1 : x.key ∈ ms.toList.map (·.key) := List.mem_map.2 ⟨x, hx, rfl⟩
  rw [hkeyEq] at h1
  obtain ⟨k, hk, h2⟩ := List.mem_map.1 h1
  exact ⟨k, hk, h2.symm⟩
 have hrg : ms.toList.map (WideElems.rg Try.prog 9 R) = ks.map fun k => (.string k, .nil) := by
  apply List.ext_getElem?
  intro j
  have h3 : (ms.toList.map (·.key))[j]? = (ks.map encStr)[j]? := by rw [hkeyEq]
  simp only [List.getElem?_map] at h3 ⊢
  cases hj : ms.toList[j]? with
  | none =>
   rw [hj] at h3
   cases hk : ks[j]? with
   | none => rfl
   | some k => rw [hk] at h3; cases h3
  | some m =>
   rw [hj] at h3
   cases hk : ks[j]? with
   | none => rw [hk] at h3; cases h3
   | some k =>
    rw [hk] at h3
    simp only [Option.map_some, Option.some.injEq] at h3 ⊢
    rw [WideElems.rg, hrd m k h3 (hm.short k (List.mem_of_getElem? hk))]
    rfl
 generalize hD : (.map ((ms.toList.map (WideElems.rg Try.prog 9 R)).foldr DataW.insert []) : DataW Nat) = D0
 have hown : w.ownsMap Try.prog 9 R (g.loc r).1 ms.size D0 :=
  ⟨ms, c, ho', ⟨by have := hM.1; simp at this; unfold maxLen; omega, hSt, fun x hx => by obtain ⟨k, h4, h5⟩ := hkey x hx; exact ⟨_, hrd x k h5 (hm.short k h4)⟩⟩, Nat.le_refl _, hD.symm⟩
 have hDp : (strKeys D0).Perm ks := by
  rw [← hD, hrg]
  have := (foldr_insert_perm (H := Nat) (ks.map fun k => (Lit.string k, DataW.nil))).map fun p => strOf p.1
  rw [List.map_map] at this
  have e : (ks.map ((fun p : Lit × DataW Nat => strOf p.1) ∘ fun k => (Lit.string k, DataW.nil))) = ks := by
   rw [show ((fun p : Lit × DataW Nat => strOf p.1) ∘ fun k => (Lit.string k, DataW.nil)) = id from by funext k; rfl, List.map_id]
  rw [e] at this
  exact this
 have hDs : Maps.size D0 = ks.length := by
  have := hDp.length_eq
  rw [← hD] at this ⊢
  simpa [strKeys, Maps.size_eq] using this
 have hseq : SeqGives Fence.wide 2 Try.prog n_keysIt #[.pointer (some ⟨(g.loc b).1, 0, none⟩)] encStr (fun ss => ss.Perm (strKeys D0)) (Maps.size D0) w :=
  AnyZ.keys_gives (ρ := Try.keysD_ren) { Try.keysD with } Fence.wide _ trivial rfl (by omega) (g.loc b).1 (g.loc r).1 ms.size D0 w (hW.lt hb) hcell hown
 have cS := AnyZ.sorted_in Try.sortedD Fence.wide 5 trivial trivial trivial trivial rfl (by omega) (sorts _) (enters_of Try.func75 (by kernel_rfl) rfl) n_keysIt #[.pointer (some ⟨(g.loc b).1, 0, none⟩)] trivial
  (enters_of Try.func76 (by kernel_rfl) rfl) _ _ (by rw [hDs]; unfold maxLen; omega) (by rw [hDs]; omega) _ hseq
 have hl : Value.func (.func n_keysIt) [].toArray [Value.pointer (some ⟨(g.loc b).1, (g.loc b).2 + 0, none⟩)].toArray = .func (.func n_keysIt) #[] #[.pointer (some ⟨(g.loc b).1, 0, none⟩)] := by
  rw [hloc]
 have hx := callsIn_wide.1 cS
 rw [show [Value.func (.func n_keysIt) [].toArray [Value.pointer (some ⟨(g.loc b).1, (g.loc b).2 + 0, none⟩)].toArray].toArray = #[.func (.func n_keysIt) #[] #[.pointer (some ⟨(g.loc b).1, 0, none⟩)]] from by rw [hl]]
 refine Calls.mono hx fun e w' ⟨v, ss, he, hS, hrow, hnil, hB⟩ => ?_
 subst he
 have hp : ss.Perm ks := hS.trans hDp
 have hsort : ss.mergeSort leB = sortS ks := mergeSort_of_perm hp
 have hlen2 : ss.length = ks.length := hp.length_eq
 have hlen3 : (sortS ks).length = ks.length := List.length_mergeSort ks
 have hrow' : w'.ownsRow w.heap.size 9 1 v (sortS ks).length ((sortS ks).map encStr) := by
  have h6 : w'.ownsRow w.heap.size 9 1 v ss.length ((ss.mergeSort leB).map encStr) := hrow
  rw [hsort] at h6
  rw [hlen3, ← hlen2]; exact h6
 have hnil' : v = .slice none 0 0 ↔ sortS ks = [] := by
  rw [hnil]
  constructor
  ·rintro rfl
   exact List.eq_nil_of_length_eq_zero (by rw [hlen3, ← hlen2]; rfl)
  ·intro h
   exact List.eq_nil_of_length_eq_zero (by rw [hlen2, ← hlen3, h]; rfl)
 obtain ⟨g', a1, a2, a3⟩ := hW.strings hB hrow' hnil'
 refine ⟨g', S, .ret (.sl ((sortS ks).map fun s => .str (mkS s)) (sortS ks).length 1 (if sortS ks = [] then .nil else .no)), a1, a2, a3, ?_⟩
 have he : sortS ks = [] ↔ ks = [] := by
  rw [← List.length_eq_zero_iff, hlen3, List.length_eq_zero_iff]
 rw [hlen3]
 simpa only [he] using hQ
end Go.VM
namespace Go.VM
open Go Go.RowKit Go.Proofs
def nameB (b : UInt8) : Bool := (97 ≤ b && b ≤ 122) || (48 ≤ b && b ≤ 57) || b == 46 || b == 45
def nameOk (s : List UInt8) : Bool := s.all nameB && decide (1 ≤ s.length) && decide (s.length ≤ 32)
theorem u8_ge (b c : UInt8) : decide ((b.toNat : Int) ≥ (c.toNat : Int)) = decide (c ≤ b) := by
 simp only [UInt8.le_iff_toNat_le]; congr 1; simp
theorem u8_le (b c : UInt8) : decide ((b.toNat : Int) ≤ (c.toNat : Int)) = decide (b ≤ c) := by
 simp only [UInt8.le_iff_toNat_le]; congr 1; simp
theorem u8_eq (b c : UInt8) : ((b.toNat : Int) == (c.toNat : Int)) = (b == c) := by
 rw [Bool.eq_iff_iff]; simp [UInt8.toNat_inj, Int.ofNat_inj]
theorem diskName_body {w0 : World} {fr : Fr} {S : St} {Q : CPost} {s : List UInt8} {j : Nat} {b : UInt8} (f0 : fr 0 = .str (mkS s)) (f6 : fr 6 = .int .i64 j) (hb : s[j]? = some b)
  (hQ : ∀ fr', fr' 0 = fr 0 → fr' 5 = fr 5 → fr' 6 = fr 6 → fr' 2 = fr 2 → nameB b = true → Q .normal fr' S) (hQ' : ∀ fr', fr' 2 = .bool false → nameB b = false → Q .ret fr' S) : wCode (RSim Try.prog w0) k_disk_Name_0 fr S Q := by
 obtain ⟨c1, h1⟩ : ∃ c, decide (97 ≤ b) = c := ⟨_, rfl⟩
 obtain ⟨c2, h2⟩ : ∃ c, decide (b ≤ 122) = c := ⟨_, rfl⟩
 obtain ⟨c3, h3⟩ : ∃ c, decide (48 ≤ b) = c := ⟨_, rfl⟩
 obtain ⟨c4, h4⟩ : ∃ c, decide (b ≤ 57) = c := ⟨_, rfl⟩
 obtain ⟨c5, h5⟩ : ∃ c, (b == 46) = c := ⟨_, rfl⟩
 obtain ⟨c6, h6⟩ : ∃ c, (b == 45) = c := ⟨_, rfl⟩
 have hn : nameB b = (c1 && c2 || c3 && c4 || c5 || c6) := by simp only [nameB, h1, h2, h3, h4, h5, h6]
 have e1 : decide ((b.toNat : Int) ≥ 97) = c1 := (u8_ge b 97).trans h1
 have e2 : decide ((b.toNat : Int) ≤ 122) = c2 := (u8_le b 122).trans h2
 have e3 : decide ((b.toNat : Int) ≥ 48) = c3 := (u8_ge b 48).trans h3
 have e4 : decide ((b.toNat : Int) ≤ 57) = c4 := (u8_le b 57).trans h4
 have e5 : ((b.toNat : Int) == 46) = c5 := (u8_eq b 46).trans h5
 have e6 : ((b.toNat : Int) == 45) = c6 := (u8_eq b 45).trans h6
 rw [hn] at hQ hQ'
 clear hn h1 h2 h3 h4 h5 h6
 simp only [k_disk_Name_0, go_sem, f0, f6, hb, e1, e2, e3, e4, e5, e6]
 cases c1
 all_goals (try simp only [go_sem, f0, f6, hb, e1, e2, e3, e4, e5, e6])
 all_goals (try ((refine wc_ite (b := false) (by simp only [go_sem] <;> rfl) (fun h => by cases h) (fun _ => ?_); simp only [go_sem]; exact hQ _ (by simp only [go_sem]) (by simp only [go_sem]) (by simp only [go_sem, f6]) (by simp only [go_sem]) rfl); done))
 all_goals (try ((refine wc_ite (b := true) (by simp only [go_sem] <;> rfl) (fun _ => ?_) (fun h => by cases h); simp only [go_sem]; exact hQ' _ (by simp only [go_sem]) rfl); done))
 all_goals cases c2
 all_goals (try simp only [go_sem, f0, f6, hb, e1, e2, e3, e4, e5, e6])
 all_goals (try ((refine wc_ite (b := false) (by simp only [go_sem] <;> rfl) (fun h => by cases h) (fun _ => ?_); simp only [go_sem]; exact hQ _ (by simp only [go_sem]) (by simp only [go_sem]) (by simp only [go_sem, f6]) (by simp only [go_sem]) rfl); done))
 all_goals (try ((refine wc_ite (b := true) (by simp only [go_sem] <;> rfl) (fun _ => ?_) (fun h => by cases h); simp only [go_sem]; exact hQ' _ (by simp only [go_sem]) rfl); done))
 all_goals cases c3
 all_goals (try simp only [go_sem, f0, f6, hb, e1, e2, e3, e4, e5, e6])
 all_goals (try ((refine wc_ite (b := false) (by simp only [go_sem] <;> rfl) (fun h => by cases h) (fun _ => ?_); simp only [go_sem]; exact hQ _ (by simp only [go_sem]) (by simp only [go_sem]) (by simp only [go_sem, f6]) (by simp only [go_sem]) rfl); done))
 all_goals (try ((refine wc_ite (b := true) (by simp only [go_sem] <;> rfl) (fun _ => ?_) (fun h => by cases h); simp only [go_sem]; exact hQ' _ (by simp only [go_sem]) rfl); done))
 all_goals cases c4
 all_goals (try simp only [go_sem, f0, f6, hb, e1, e2, e3, e4, e5, e6])
 all_goals (try ((refine wc_ite (b := false) (by simp only [go_sem] <;> rfl) (fun h => by cases h) (fun _ => ?_); simp only [go_sem]; exact hQ _ (by simp only [go_sem]) (by simp only [go_sem]) (by simp only [go_sem, f6]) (by simp only [go_sem]) rfl); done))
 all_goals (try ((refine wc_ite (b := true) (by simp only [go_sem] <;> rfl) (fun _ => ?_) (fun h => by cases h); simp only [go_sem]; exact hQ' _ (by simp only [go_sem]) rfl); done))
 all_goals cases c5
 all_goals (try simp only [go_sem, f0, f6, hb, e1, e2, e3, e4, e5, e6])
 all_goals (try ((refine wc_ite (b := false) (by simp only [go_sem] <;> rfl) (fun h => by cases h) (fun _ => ?_); simp only [go_sem]; exact hQ _ (by simp only [go_sem]) (by simp only [go_sem]) (by simp only [go_sem, f6]) (by simp only [go_sem]) rfl); done))
 all_goals (try ((refine wc_ite (b := true) (by simp only [go_sem] <;> rfl) (fun _ => ?_) (fun h => by cases h); simp only [go_sem]; exact hQ' _ (by simp only [go_sem]) rfl); done))
 all_goals cases c6
 all_goals (try simp only [go_sem, f0, f6, hb, e1, e2, e3, e4, e5, e6])
 all_goals (try ((refine wc_ite (b := false) (by simp only [go_sem] <;> rfl) (fun h => by cases h) (fun _ => ?_); simp only [go_sem]; exact hQ _ (by simp only [go_sem]) (by simp only [go_sem]) (by simp only [go_sem, f6]) (by simp only [go_sem]) rfl); done))
 all_goals (try ((refine wc_ite (b := true) (by simp only [go_sem] <;> rfl) (fun _ => ?_) (fun h => by cases h); simp only [go_sem]; exact hQ' _ (by simp only [go_sem]) rfl); done))
theorem diskName_runs {w0 : World} {S : St} {Q : AEnd → St → Prop} {s : List UInt8} (hs : s.length ≤ 1000000000000000) (hQ : Q (.ret (.bool (nameOk s))) S) : RSim Try.prog w0 n_disk_Name [.str (mkS s)] S Q := by
 refine RSim.run mixed k_disk_Name ?_ (by simp)
 simp only [b_disk_Name, go_sem]
 refine loop_rule RSim.le (k := s.length) (fun m fr S1 => ∃ j : Nat, m = s.length - j ∧ j ≤ s.length ∧ S1 = S ∧ fr 0 = .str (mkS s) ∧ fr 5 = .int .i64 s.length ∧ fr 6 = .int .i64 j ∧ (s.take j).all nameB = true) ?_
  ⟨0, rfl, Nat.zero_le _, rfl, by simp only [go_sem], by simp only [go_sem], by simp only [go_sem, Int.natCast_zero], by simp⟩
 rintro m fr S1 ⟨j, hm, hj, hS, f0, f5, f6, ha⟩
 subst hm; subst hS
 simp only [l_disk_Name_0, go_sem, f5, f6]
 refine wc_ite (b := decide ((j : Int) < s.length)) (by simp only [go_sem]) (fun hc => ?_) (fun hc => ?_)
 ·have hj2 : j < s.length := by have := of_decide_eq_true hc; omega
  have hb : s[j]? = some (s[j]'hj2) := List.getElem?_eq_getElem hj2
  have hw : IntKind.i64.wrap ((j : Int) + 1) = ((j + 1 : Nat) : Int) := by rw [w64 (by omega) (by omega)]; omega
  simp only [go_sem]
  refine diskName_body (j := j) (s := s) (by simp only [go_sem]; exact f0) (by simp only [go_sem]; exact f6) hb (fun fr' g0 g5 g6 _ hn => ?_) (fun fr' g2 hn => ?_)
  ·simp only [go_sem] at g0 g5 g6
   simp only [go_sem, g6, f6, hw]
   refine ⟨_, by omega, j + 1, rfl, by omega, by simp only [go_sem, g0, f0], by simp only [go_sem, g5, f5], by simp only [go_sem], ?_⟩
   rw [List.take_add_one, List.all_append, ha, hb]
   simpa using hn
  ·simp only [go_sem, g2]
   have : nameOk s = false := by
    have : s.all nameB = false := by
     rw [Bool.eq_false_iff]
     intro h
     rw [List.all_eq_true] at h
     rw [h _ (List.getElem_mem hj2)] at hn
     cases hn
    simp [nameOk, this]
   rw [this] at hQ
   exact hQ
 ·have hje : j = s.length := by have := of_decide_eq_false hc; omega
  subst hje
  rw [List.take_length] at ha
  have e1 : decide ((s.length : Int) ≥ 1) = decide (1 ≤ s.length) := by congr 1; simp; omega
  have e2 : decide ((s.length : Int) ≤ 32) = decide (s.length ≤ 32) := by congr 1; simp; omega
  have e : nameOk s = (decide (1 ≤ s.length) && decide (s.length ≤ 32)) := by simp [nameOk, ha]
  rw [e] at hQ
  simp only [go_sem, s_disk_Name_0, go_sem, f0, e1, e2]
  cases h1 : decide (1 ≤ s.length) <;> simp only [go_sem, f0, e2] <;> simpa only [h1, Bool.false_and, Bool.true_and] using hQ
end Go.VM
namespace Go.VM
open Go Go.RowKit Go.Proofs
structure Ent where
 name : List UInt8
 p : List UInt8
 sure : Nat
 f : Nat
 born : Nat
 t : Tok
def Ent.cell (e : Ent) : V × V × Nat := (.str (mkS e.name), .ptr (some (e.f, 0)), e.born)
structure Dk where
 m : Nat
 c : Nat
 ents : List Ent
 room : Int
 used : Int
 ops : Int
 arm : Int
 off : Bool
def Dk.cells (D : Dk) : List V := [.map (some D.m), .int .i64 D.room, .int .i64 D.used, .int .i64 D.ops, .int .i64 D.arm, .bool D.off]
def sumLen (l : List Ent) : Nat := (l.map fun e => e.p.length).sum
structure Dk.Wf (D : Dk) : Prop where
 used : D.used = sumLen D.ents
 fits : D.used ≤ D.room
 room : D.room ≤ 67108864
 sure : ∀ e ∈ D.ents, e.sure ≤ e.p.length
 names : ∀ e ∈ D.ents, nameOk e.name = true
def ownD (i : Nat) (D : Dk) : Nat → Prop := fun j => j = i ∨ j = D.m ∨ ∃ e ∈ D.ents, j = e.f ∨ e.t = .at j
structure EntAt (S : St) (e : Ent) : Prop where
 cells : S.cells e.f = some [.sl (e.p.map u8V) e.p.length 1 e.t, .int .i64 e.sure]
 lt : e.f < S.n
 tok : TokOk S e.t
 nil : e.t = .nil → e.p = []
structure DiskAt (S : St) (i : Nat) (D : Dk) : Prop where
 head : S.cells i = some D.cells
 lt : i < S.n
 map : S.hp D.m = some (.map (D.ents.map Ent.cell) D.c)
 mlt : D.m < S.n
 ents : ∀ e ∈ D.ents, EntAt S e
 names : (D.ents.map (·.name)).Nodup
 objs : (D.ents.map (·.f)).Nodup
 born : (D.ents.map (·.born)).Nodup
 clock : ∀ e ∈ D.ents, e.born < D.c
 toks : D.ents.Pairwise fun a b => ∀ k, a.t = .at k → b.t ≠ .at k
 wf : D.Wf
theorem EntAt.keep {S S' : St} {e : Ent} {o : Nat → Prop} (h : EntAt S e) (k : Keeps o S S') (h1 : ¬ o e.f) (h2 : ∀ j, e.t = .at j → ¬ o j) : EntAt S' e :=
 ⟨k.cells h.cells h.lt h1, k.lt h.lt, h.tok.keep k h2, h.nil⟩
theorem hp_keep {S S' : St} {o : Nat → Prop} {i : Nat} {x : AObj} (h : S.hp i = some x) (k : Keeps o S S') (hi : i < S.n) (hn : ¬ o i) : S'.hp i = some x := (k.hp i hi hn).trans h
theorem DiskAt.keep {S S' : St} {i : Nat} {D : Dk} {o : Nat → Prop} (h : DiskAt S i D) (k : Keeps o S S') (ho : ∀ j, ownD i D j → ¬ o j) : DiskAt S' i D :=
  ⟨k.cells h.head h.lt (ho _ (.inl rfl)), k.lt h.lt, hp_keep h.map k h.mlt (ho _ (.inr (.inl rfl))), k.lt h.mlt,
   fun e he => (h.ents e he).keep k (ho _ (.inr (.inr ⟨e, he, .inl rfl⟩))) fun j hj => ho _ (.inr (.inr ⟨e, he, .inr hj⟩)), h.names, h.objs, h.born, h.clock, h.toks, h.wf⟩
theorem DiskAt.own_lt {S : St} {i : Nat} {D : Dk} (h : DiskAt S i D) {j : Nat} (hj : ownD i D j) : j < S.n := by
 rcases hj with rfl | rfl | ⟨e, he, rfl | ht⟩
 ·exact h.lt
 ·exact h.mlt
 ·exact (h.ents e he).lt
 ·have := (h.ents e he).tok
  rw [ht] at this; exact this.1
theorem DiskAt.stay {S S' : St} {i : Nat} {D : Dk} (h : DiskAt S i D) (k : Keeps (fun _ => False) S S') : DiskAt S' i D := h.keep k fun _ _ => id
theorem DiskAt.strMap {S : St} {i : Nat} {D : Dk} (h : DiskAt S i D) : StrMap (D.ents.map Ent.cell) D.c (D.ents.map (·.name)) := by
 refine ⟨by simp [Ent.cell, List.map_map, Function.comp_def], h.names, fun k hk => ?_, by simpa [Ent.cell, List.map_map, Function.comp_def] using h.born, fun e he => ?_⟩
 ·obtain ⟨e, he, rfl⟩ := List.mem_map.1 hk
  have := h.wf.names e he
  simp [nameOk] at this
  unfold Go.maxLen; omega
 ·obtain ⟨e', he', rfl⟩ := List.mem_map.1 he
  exact h.clock e' he'
theorem find_cases (s : List UInt8) : ∀ l : List Ent, (∃ a e b, l = a ++ e :: b ∧ e.name = s ∧ ∀ x ∈ a, x.name ≠ s) ∨ ∀ x ∈ l, x.name ≠ s
 | [] => .inr fun _ h => by cases h
 | e :: l => by
  by_cases h : e.name = s
  ·exact .inl ⟨[], e, l, rfl, h, fun _ h => by cases h⟩
  ·rcases find_cases s l with ⟨a, e', b, rfl, h1, h2⟩ | h1
   ·exact .inl ⟨e :: a, e', b, rfl, h1, fun x hx => by
     rcases List.mem_cons.1 hx with rfl | hx
     ·exact h
     ·exact h2 x hx⟩
   ·exact .inr fun x hx => by
     rcases List.mem_cons.1 hx with rfl | hx
     ·exact h
     ·exact h1 x hx
theorem findE_some {s : List UInt8} {e : Ent} {b : List Ent} (he : e.name = s) : ∀ (a : List Ent) (k : Nat), (∀ x ∈ a, x.name ≠ s) → findE .str (.str (mkS s)) ((a ++ e :: b).map Ent.cell) k = some (some (k + a.length, .ptr (some (e.f, 0))))
 | [], k, _ => by
  simp only [List.nil_append, List.map_cons, Ent.cell, findE, keyEq_str, he, decide_true, List.length_nil, Nat.add_zero]
 | x :: a, k, h => by
  have hx : ¬ s = x.name := fun e => h x (by simp) e.symm
  have := findE_some (b := b) he a (k + 1) fun y hy => h y (by simp [hy])
  simp only [List.cons_append, List.map_cons, Ent.cell, findE, keyEq_str, hx, decide_false, List.length_cons] at this ⊢
  rw [this, Nat.add_assoc, Nat.add_comm 1]
theorem findE_none {s : List UInt8} : ∀ (l : List Ent) (k : Nat), (∀ x ∈ l, x.name ≠ s) → findE .str (.str (mkS s)) (l.map Ent.cell) k = some none
 | [], k, _ => rfl
 | x :: l, k, h => by
  have hx : ¬ s = x.name := fun e => h x (by simp) e.symm
  have := findE_none l (k + 1) fun y hy => h y (by simp [hy])
  simp only [List.map_cons, Ent.cell, findE, keyEq_str, hx, decide_false] at this ⊢
  exact this
theorem hp_cells {S : St} {i : Nat} {cs : List V} (h : S.cells i = some cs) : S.hp i = some (.cells cs) := by
 unfold St.cells at h
 split at h
 ·rename_i x hx; injection h with h; rw [hx, h]
 ·cases h
theorem DiskAt.ne_m {S : St} {i : Nat} {D : Dk} (h : DiskAt S i D) : i ≠ D.m := fun e => by
 have h1 := hp_cells h.head
 have h2 := h.map
 rw [← e, h1] at h2
 cases h2
theorem DiskAt.ne_f {S : St} {i : Nat} {D : Dk} (h : DiskAt S i D) {e : Ent} (he : e ∈ D.ents) : i ≠ e.f := fun e' => by
 have h1 := h.head
 have h2 := (h.ents e he).cells
 rw [← e', h1] at h2
 simp [Dk.cells] at h2
theorem DiskAt.ne_mf {S : St} {i : Nat} {D : Dk} (h : DiskAt S i D) {e : Ent} (he : e ∈ D.ents) : D.m ≠ e.f := fun e' => by
 have h1 := hp_cells (h.ents e he).cells
 have h2 := h.map
 rw [e', h1] at h2
 cases h2
theorem tok_cells {S : St} {t : Tok} (h : TokOk S t) {i : Nat} {x : AObj} (hx : S.hp i = some x) (hn : x ≠ .tok) : t ≠ .at i := fun e => by
 subst e
 rw [h.2] at hx
 injection hx with hx
 exact hn hx.symm
theorem DiskAt.head' {S : St} {i : Nat} {D D' : Dk} (h : DiskAt S i D) (hm : D'.m = D.m) (hc : D'.c = D.c) (he : D'.ents = D.ents) (hw : D'.Wf) : DiskAt (S.set i (.cells D'.cells)) i D' ∧ Keeps (fun j => j = i) S (S.set i (.cells D'.cells)) := by
 have k := Keeps.set1 S i (.cells D'.cells)
 refine ⟨⟨by rw [cells_setc, if_pos rfl], h.lt, by rw [hm, hc, he]; exact hp_keep h.map k h.mlt (Ne.symm h.ne_m), by rw [hm]; exact h.mlt, fun e h' => ?_, by rw [he]; exact h.names, by rw [he]; exact h.objs, by rw [he]; exact h.born, by rw [he, hc]; exact h.clock, by rw [he]; exact h.toks, hw⟩, k⟩
 rw [he] at h'
 exact (h.ents e h').keep k (Ne.symm (h.ne_f h')) fun j hj e' => tok_cells (h.ents e h').tok (hp_cells h.head) (by intro x; cases x) (by rw [hj, e'])
theorem new_runs {w0 : World} {S : St} {Q : AEnd → St → Prop} {n : Int} (hQ : ∀ S' i, 0 ≤ n → n ≤ 67108864 → S.n ≤ i → DiskAt S' i ⟨S.n, 0, [], n, 0, 0, 0, false⟩ → Keeps (fun _ => False) S S' → Q (.ret (.tup [.ptr (some (i, 0)), .int .i64 0])) S')
  (hQ' : (n < 0 ∨ 67108864 < n) → Q (.ret (.tup [.ptr none, .int .i64 1])) S) : RSim Try.prog w0 n_disk_New [.int .i64 n] S Q := by
 refine RSim.run mixed k_disk_New ?_ (by simp)
 simp only [b_disk_New, go_sem]
 by_cases h1 : n < 0
 ·simp only [h1, go_sem]
  refine wc_ite (b := true) (by simp only [go_sem] <;> rfl) (fun _ => ?_) (fun h => by cases h)
  simp only [go_sem]
  exact hQ' (.inl h1)
 ·by_cases h2 : n > 67108864
  ·simp only [h1, h2, go_sem]
   refine wc_ite (b := true) (by simp only [go_sem] <;> rfl) (fun _ => ?_) (fun h => by cases h)
   simp only [go_sem]
   exact hQ' (.inr h2)
  ·simp only [h1, h2, go_sem]
   refine wc_ite (b := false) (by simp only [go_sem] <;> rfl) (fun h => by cases h) (fun _ => ?_)
   simp only [go_sem]
   refine wi_e ?_
   simp only [wE]
   simp only [go_sem]
   have k : Keeps (fun _ => False) S ((S.add (.map [] 0)).add (.cells [.map (some S.n), .int .i64 n, .int .i64 0, .int .i64 0, .int .i64 0, .bool false])) := ((Keeps.refl _ S).add _).add _
   refine hQ _ (S.n + 1) (by omega) (by omega) (by omega) ⟨?_, ?_, ?_, ?_, fun e h => (by cases h), List.nodup_nil, List.nodup_nil, List.nodup_nil, fun e h => (by cases h), List.Pairwise.nil, ⟨rfl, show (0 : Int) ≤ n by omega, show n ≤ 67108864 by omega, fun e h => (by cases h), fun e h => by cases h⟩⟩ k
   ·simp only [Dk.cells]; simp only [go_sem]
   ·simp only [go_sem]; omega
   ·simp only [go_sem]
   ·simp only [go_sem]; omega
def Dk.begun (D : Dk) : Dk := { D with ops := IntKind.i64.wrap (D.ops + 1), arm := if D.arm > 0 then IntKind.i64.wrap (D.arm - 1) else D.arm, off := decide (D.arm > 0) && IntKind.i64.wrap (D.arm - 1) == 0 }
theorem Dk.Wf.begun {D : Dk} (h : D.Wf) : D.begun.Wf := ⟨h.used, h.fits, h.room, h.sure, h.names⟩
theorem begin_runs {w0 : World} {S : St} {Q : AEnd → St → Prop} {i : Nat} {D : Dk} (h : DiskAt S i D) (hoff : D.off = false)
  (hQ : ∀ S', DiskAt S' i D.begun → Keeps (fun j => j = i) S S' → Q (.ret (.tup [.bool D.begun.off, .int .i64 0])) S') : RSim Try.prog w0 n_disk_Disk_begin [.ptr (some (i, 0))] S Q := by
 have h1 := h.head
 refine RSim.run mixed k_disk_Disk_begin ?_ (by simp)
 simp only [b_disk_Disk_begin, go_sem, h1, Dk.cells, hoff]
 refine wc_ite (b := false) (by simp only [go_sem] <;> rfl) (fun h => by cases h) (fun _ => ?_)
 simp only [go_sem, h1, Dk.cells]
 by_cases ha : D.arm > 0
 ·simp only [ha, go_sem]
  refine wc_ite (b := true) (by simp only [go_sem] <;> rfl) (fun _ => ?_) (fun h => by cases h)
  simp only [go_sem]
  obtain ⟨h2, k2⟩ := h.head' (D' := D.begun) rfl rfl rfl h.wf.begun
  have hq := hQ _ h2 k2
  simp only [Dk.cells, Dk.begun, ha, decide_true, Bool.true_and, if_true] at hq
  exact hq
 ·simp only [ha, go_sem]
  refine wc_ite (b := false) (by simp only [go_sem] <;> rfl) (fun h => by cases h) (fun _ => ?_)
  simp only [go_sem]
  obtain ⟨h2, k2⟩ := h.head' (D' := D.begun) rfl rfl rfl h.wf.begun
  have hq := hQ _ h2 k2
  simp only [Dk.cells, Dk.begun, ha, hoff, decide_false, Bool.false_and, if_false] at hq
  simp only [hoff]
  exact hq
theorem look_nil {w0 : World} {S : St} {Q : AEnd → St → Prop} {v : V} (hQ : Q (.ret (.int .i64 8)) S) : RSim Try.prog w0 n_disk_Disk_look [.ptr none, v] S Q := by
 refine RSim.run mixed k_disk_Disk_look ?_ (by simp)
 simp only [b_disk_Disk_look, go_sem]
 refine wc_ite (b := true) (by simp only [go_sem] <;> rfl) (fun _ => ?_) (fun h => by cases h)
 simp only [go_sem]
 exact hQ
def lookE (names : List (List UInt8)) : Int := if names.all nameOk = true then 0 else 1
theorem look_runs {w0 : World} {S : St} {Q : AEnd → St → Prop} {q : Nat × Nat} {names : List (List UInt8)} {t : Tok} (ht : t ≠ .nil) (hn : names.length ≤ 1000000) (hl : ∀ s ∈ names, s.length ≤ 1000000000000000)
  (hQ : Q (.ret (.int .i64 (lookE names))) S) : RSim Try.prog w0 n_disk_Disk_look [.ptr (some q), .sl (names.map fun s => .str (mkS s)) names.length 1 t] S Q := by
 refine RSim.run mixed k_disk_Disk_look ?_ (by simp)
 simp only [b_disk_Disk_look, go_sem]
 refine wc_ite (b := false) (by simp only [go_sem] <;> rfl) (fun h => by cases h) (fun _ => ?_)
 simp only [go_sem]
 refine loop_rule RSim.le (k := names.length) (fun m fr S1 => ∃ j : Nat, m = names.length - j ∧ j ≤ names.length ∧ S1 = S ∧ fr 9 = .sl (names.map fun s => .str (mkS s)) names.length 1 t ∧ fr 10 = .int .i64 names.length ∧ fr 11 = .int .i64 j ∧ (names.take j).all nameOk = true) ?_
  ⟨0, rfl, Nat.zero_le _, rfl, by simp only [go_sem], by simp only [go_sem], by simp only [go_sem, Int.natCast_zero], by simp⟩
 rintro m fr S1 ⟨j, hm, hj, hS, f9, f10, f11, ha⟩
 subst hm; subst hS
 simp only [l_disk_Disk_look_0, go_sem, f10, f11]
 refine wc_ite (b := decide ((j : Int) < names.length)) (by simp only [go_sem]) (fun hc => ?_) (fun hc => ?_)
 ·have hj2 : j < names.length := by have := of_decide_eq_true hc; omega
  have hb : names[j]? = some (names[j]'hj2) := List.getElem?_eq_getElem hj2
  have hw : IntKind.i64.wrap ((j : Int) + 1) = ((j + 1 : Nat) : Int) := by rw [w64 (by omega) (by omega)]; omega
  have hd : (List.drop (j * 1) (names.map fun s => V.str (mkS s))).head? = some (.str (mkS (names[j]'hj2))) := by
   rw [Nat.mul_one, List.head?_drop, List.getElem?_map, hb]; rfl
  simp only [go_sem, f9, f11, hj2, ht, hd]
  refine wi_call ?_
  simp only [go_sem]
  refine diskName_runs (hl _ (List.getElem_mem hj2)) ?_
  simp only [go_sem]
  refine wc_ite (b := !nameOk (names[j]'hj2)) (by simp only [go_sem]) (fun hc => ?_) (fun hc => ?_)
  ·simp only [go_sem]
   have : names.all nameOk = false := by
    rw [Bool.eq_false_iff]
    intro h
    rw [List.all_eq_true] at h
    rw [h _ (List.getElem_mem hj2)] at hc
    cases hc
   simp only [lookE, this] at hQ
   exact hQ
  ·simp only [go_sem, f11, hw]
   refine ⟨_, by omega, j + 1, rfl, by omega, by simp only [go_sem, f9], by simp only [go_sem, f10], by simp only [go_sem], ?_⟩
   rw [List.take_add_one, List.all_append, ha, hb]
   simpa using hc
 ·have hje : j = names.length := by have := of_decide_eq_false hc; omega
  subst hje
  rw [List.take_length] at ha
  simp only [lookE, ha, if_true] at hQ
  simp only [go_sem]
  exact hQ
end Go.VM
namespace Go.VM
open Go Go.RowKit Go.Proofs
theorem arm_runs {w0 : World} {S : St} {Q : AEnd → St → Prop} {i : Nat} {D : Dk} {n : Int} (h : DiskAt S i D)
  (hQ : ∀ S', 0 ≤ n → DiskAt S' i { D with arm := n } → Keeps (fun j => j = i) S S' → Q (.ret (.int .i64 0)) S') (hQ' : n < 0 → Q (.ret (.int .i64 1)) S) : RSim Try.prog w0 n_disk_Disk_Arm [.ptr (some (i, 0)), .int .i64 n] S Q := by
 have h1 := h.head
 refine RSim.run mixed k_disk_Disk_Arm ?_ (by simp)
 simp only [b_disk_Disk_Arm, go_sem, h1, Dk.cells]
 refine wc_ite (b := false) (by simp only [go_sem] <;> rfl) (fun h => by cases h) (fun _ => ?_)
 simp only [go_sem, h1, Dk.cells]
 refine wc_ite (b := decide (n < 0)) (by simp only [go_sem]) (fun hc => ?_) (fun hc => ?_)
 ·simp only [go_sem]
  exact hQ' (of_decide_eq_true hc)
 ·simp only [go_sem, h1, Dk.cells]
  obtain ⟨h2, k2⟩ := h.head' (D' := { D with arm := n }) rfl rfl rfl ⟨h.wf.used, h.wf.fits, h.wf.room, h.wf.sure, h.wf.names⟩
  exact hQ _ (by have := of_decide_eq_false hc; omega) h2 k2
theorem on_runs {w0 : World} {S : St} {Q : AEnd → St → Prop} {i : Nat} {D : Dk} (h : DiskAt S i D) (hQ : Q (.ret (.bool !D.off)) S) : RSim Try.prog w0 n_disk_Disk_On [.ptr (some (i, 0))] S Q := by
 have h1 := h.head
 refine RSim.run mixed k_disk_Disk_On ?_ (by simp)
 simp only [b_disk_Disk_On, go_sem, h1, Dk.cells]
 exact hQ
def strsV (l : List (List UInt8)) (t : Tok) : V := .sl (l.map fun s => .str (mkS s)) l.length 1 t
def Dk.names (D : Dk) : List (List UInt8) := sortS (D.ents.map (·.name))
theorem names_runs {w0 : World} {S : St} {Q : AEnd → St → Prop} {i : Nat} {D : Dk} (h : DiskAt S i D) (hn : D.ents.length ≤ 1000000000)
  (hQ : ∀ S' t, (t = .nil → D.ents = []) → (t ≠ .nil → t = .no) → Keeps (fun _ => False) S S' → Q (.ret (strsV D.names t)) S') : RSim Try.prog w0 n_disk_Disk_Names [.ptr (some (i, 0))] S Q := by
 have h1 := h.head
 have k0 : Keeps (fun _ => False) S (S.add (.fix [.map (some D.m)])) := (Keeps.refl _ S).add _
 refine RSim.run mixed k_disk_Disk_Names ?_ (by simp)
 simp only [b_disk_Disk_Names, go_sem, h1, Dk.cells]
 refine wc_ite (b := false) (by simp only [go_sem] <;> rfl) (fun h => by cases h) (fun _ => ?_)
 simp only [go_sem, h1, Dk.cells]
 refine wi_call ?_
 simp only [go_sem]
 refine mapsKeys_runs ?_
 simp only [go_sem]
 refine wi_call ?_
 simp only [go_sem]
 have hm : (S.add (.fix [.map (some D.m)])).hp D.m = some (.map (D.ents.map Ent.cell) D.c) := hp_keep h.map k0 h.mlt id
 refine sortedKeys_runs (r := D.m) (by simp only [St.add_hp, if_true]) hm h.strMap (by simp; omega) ?_
 simp only [go_sem]
 have hl : (sortS (D.ents.map (·.name))).length = (D.ents.map (·.name)).length := List.length_mergeSort _
 have hq := hQ (S.add (.fix [.map (some D.m)])) (if D.ents.map (·.name) = [] then .nil else .no) (fun e => by
  split at e
  ·rename_i hh; simpa using hh
  ·cases e) (fun e => by
  split at e
  ·exact absurd rfl e
  ·rename_i hh; rw [if_neg hh]) k0
 simp only [strsV, Dk.names, hl] at hq
 exact hq
theorem lookE_one (s : List UInt8) : lookE [s] = if nameOk s = true then 0 else 1 := by
 simp only [lookE, List.all_cons, List.all_nil, Bool.and_true]
theorem look1_runs {w0 : World} {S : St} {Q : AEnd → St → Prop} {q : Nat × Nat} {s : List UInt8} (hl : s.length ≤ 1000000000000000)
  (hQ : nameOk s = true → Q (.ret (.int .i64 0)) S) (hQ' : nameOk s = false → Q (.ret (.int .i64 1)) S) : RSim Try.prog w0 n_disk_Disk_look [.ptr (some q), .sl [.str (mkS s)] 1 1 .cap] S Q := by
 refine look_runs (names := [s]) (t := .cap) (by intro h; cases h) (by simp) (by simpa using hl) ?_
 rw [lookE_one]
 cases h : nameOk s
 ·exact hQ' h
 ·exact hQ h
def Dk.thereE (D : Dk) (s : List UInt8) : Int := if nameOk s = false then 1 else if D.off = true then 10 else 8
theorem read_runs {w0 : World} {S : St} {Q : AEnd → St → Prop} {i : Nat} {D : Dk} {s : List UInt8} (h : DiskAt S i D) (hl : s.length ≤ 1000000000000000)
  (hQ : ∀ a e b S' v, nameOk s = true → D.off = false → D.ents = a ++ e :: b → e.name = s → (∀ x ∈ a, x.name ≠ s) → IsBytes v e.p → Keeps (fun _ => False) S S' → Q (.ret (.tup [v, .int .i64 0])) S')
  (hQ' : (nameOk s = false ∨ D.off = true ∨ ∀ x ∈ D.ents, x.name ≠ s) → Q (.ret (.tup [.sl [] 0 1 .nil, .int .i64 (D.thereE s)])) S) : RSim Try.prog w0 n_disk_Disk_Read [.ptr (some (i, 0)), .str (mkS s)] S Q := by
 have h1 := h.head
 have hm := h.map
 refine RSim.run mixed k_disk_Disk_Read ?_ (by simp)
 simp only [b_disk_Disk_Read, go_sem]
 refine wi_call ?_
 simp only [go_sem]
 refine look1_runs hl (fun hn => ?_) (fun hn => ?_)
 ·simp only [Dk.thereE, hn, if_false, reduceCtorEq] at hQ'
  simp only [go_sem]
  refine wc_ite (b := false) (by simp only [go_sem] <;> rfl) (fun h => by cases h) (fun _ => ?_)
  simp only [go_sem, h1, Dk.cells]
  refine wc_ite (b := D.off) (by simp only [go_sem]) (fun hc => ?_) (fun hc => ?_)
  ·simp only [go_sem]
   rw [if_pos hc] at hQ'
   exact hQ' (.inr (.inl hc))
  ·rw [if_neg (by rw [hc]; simp)] at hQ'
   rcases find_cases s D.ents with ⟨a, e, b, he, hs, ha⟩ | hno
   ·have hf := findE_some (b := b) hs a 0 ha
    rw [← he] at hf
    have hE := h.ents e (by rw [he]; simp)
    simp only [go_sem, h1, hm, hf, Dk.cells]
    refine wc_ite (b := false) (by simp only [go_sem] <;> rfl) (fun h => by cases h) (fun _ => ?_)
    have hw := h.wf.sure e (by rw [he]; simp)
    have hlen : e.p.length ≤ 67108864 := by
     have h2 := h.wf.used
     have h3 := h.wf.fits
     have h4 := h.wf.room
     have h5 : e.p.length ≤ sumLen D.ents := by rw [he]; simp [sumLen]; omega
     omega
    simp only [go_sem, h1, hm, hf, Dk.cells, hE.cells]
    refine wi_append (n := 0) (cs := []) (t := .nil) (m := e.p.length) (xs := e.p.map u8V) (by simp only [go_sem]) (by
     simp only [go_sem, V.elems]
     split
     ·rename_i ht; rw [hE.nil ht]; rfl
     ·rfl) (by simp) (by simp [roomOk]; omega) trivial (fun _ => ⟨rfl, rfl⟩) fun t' S' k ht' hn' hz => ?_
    rw [tokOwn_nil] at k
    simp only [go_sem]
    exact hQ a e b S' _ hn hc he hs ha ⟨t', rfl, fun ht => List.eq_nil_of_length_eq_zero (hz ht).1⟩ k
   ·have hf := findE_none D.ents 0 hno
    simp only [go_sem, h1, hm, hf, Dk.cells]
    refine wc_ite (b := true) (by simp only [go_sem] <;> rfl) (fun _ => ?_) (fun h => by cases h)
    simp only [go_sem]
    exact hQ' (.inr (.inr hno))
 ·simp only [Dk.thereE, hn, if_true] at hQ'
  simp only [go_sem]
  refine wc_ite (b := true) (by simp only [go_sem] <;> rfl) (fun _ => ?_) (fun h => by cases h)
  simp only [go_sem]
  exact hQ' (.inl trivial)
end Go.VM
