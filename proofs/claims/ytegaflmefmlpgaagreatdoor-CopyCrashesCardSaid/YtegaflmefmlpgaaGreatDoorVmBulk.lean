/-
  Arguments within a bound (the statements' second form): how long their strings and slices are.
-/
import Derived.Test.YtegaflmefmlpgaaGreatDoorVmFin
set_option linter.unusedVariables false
set_option linter.unusedSimpArgs false
namespace Go.Proofs.YtegaflmefmlpgaaGreatDoor
open Go Go.VM Go.ChangeShapes Go.WideShapes Go.ChangeAt Go.RowKit

def HasTyB (q : Nat) : Ty → List V → Prop
  | .str, cs => ∃ s, cs = [.str s] ∧ s.size ≤ q
  | .slice sz _ e, cs => ∃ (L : List (List V)) (t : Tok), cs = [.sl L.flatten L.length sz t] ∧ L.length ≤ q ∧ ∀ c ∈ L, c.length = sz ∧ HasTyB q e c
  | .field s a r, cs => ∃ x y, cs = x ++ y ∧ x.length = s ∧ HasTyB q a x ∧ HasTyB q r y
  | _, _ => True
def ArgTyB (q : Nat) (ty : Ty) (v : V) : Prop := if isField ty = true then ∃ cs, v = .agg cs ∧ HasTyB q ty cs else HasTyB q ty [v]
theorem bulk_one {H : Type} (d : DataW H) : 1 ≤ Rows.uptoBulk d := by
  cases d <;> try (simp [Rows.uptoBulk]; done)
  rename_i l
  cases l <;> simp [Rows.uptoBulk]
theorem bulk_len {H : Type} : ∀ l : List (DataW H), l.length ≤ Rows.uptoBulkAll l
  | [] => by simp
  | d :: r => by
    have h1 := bulk_one d
    have h2 := bulk_len r
    simp only [Rows.uptoBulkAll, List.length_cons]; omega
theorem bulk_mem {H : Type} : ∀ {l : List (DataW H)} {d : DataW H}, d ∈ l → Rows.uptoBulk d ≤ Rows.uptoBulkAll l
  | d0 :: r, d, h => by
    simp only [Rows.uptoBulkAll]
    rcases List.mem_cons.1 h with rfl | h
    · omega
    · have := bulk_mem h; omega
theorem toList_len (s : ByteArray) : s.toList.length = s.size := by
  obtain ⟨l, rfl⟩ := mkS_of s
  rw [mkS_toList, mkS_size]

section
variable {H : Type} {enc : TypeId × Value → H} {P : Program} {W : World}

theorem rows_ofB {sz : Nat} {e : Ty} {b p : Nat} {B : List V → Prop} : ∀ (len : Nat) (K : ∀ i, i < len → ∃ cs vs, cs.length = sz ∧ (∀ j, j < sz → W.cell? ⟨b, p + i * sz + j, none⟩ = cs[j]?) ∧ RelL (g0 W) vs cs ∧ Ones cs ∧ HasTy e vs ∧ B vs),
    ∃ (L : List (List V)) (us : List Value), L.length = len ∧ (∀ c ∈ L, (c.length = sz ∧ HasTy e c) ∧ B c) ∧ RelL (g0 W) L.flatten us ∧ Ones us ∧ us.length = len * sz ∧ ∀ j, j < len * sz → W.cell? ⟨b, p + j, none⟩ = us[j]?
  | 0, _ => ⟨[], [], rfl, fun _ h => (by cases h), rfl, fun _ h => (by cases h), by simp, fun j h => by omega⟩
  | len + 1, K => by
    obtain ⟨L, us, h1, h2, h3, h4, h5, h6⟩ := rows_ofB len fun i hi => K i (by omega)
    obtain ⟨cs, vs, k1, k2, k3, k4, k5, k6⟩ := K len (by omega)
    refine ⟨L ++ [vs], us ++ cs, by simp [h1], fun c hc => ?_, ?_, h4.append k4, by rw [List.length_append, h5, k1, Nat.add_mul, Nat.one_mul], fun j hj => ?_⟩
    · rcases List.mem_append.1 hc with hc | hc
      · exact h2 c hc
      · simp at hc; subst hc; exact ⟨⟨by rw [k3.len, k1], k5⟩, k6⟩
    · rw [List.flatten_append]
      simp only [List.flatten_cons, List.flatten_nil, List.append_nil]
      exact h3.append k3
    · rcases Nat.lt_or_ge j (len * sz) with h | h
      · rw [List.getElem?_append_left (by omega)]
        exact h6 j h
      · rw [List.getElem?_append_right (by omega), h5]
        rw [Nat.add_mul, Nat.one_mul] at hj
        rw [← k2 (j - len * sz) (by omega)]
        congr 2; omega

mutual
theorem open_tyB : ∀ (ty : Ty) {t : TypeId} {fuel : Nat} {cs : List Value} {x : DataW H × List MemPlace}, tyIs P ty t = true → DataW.trod enc P W 0 (fun _ => true) true fuel t cs = some x → (∀ n ∈ x.1.weights P t, n ≤ reachBytes) → ∃ vs, RelL (g0 W) vs cs ∧ Ones cs ∧ HasTy ty vs ∧ ∀ q, Rows.uptoBulk x.1 ≤ q → HasTyB q ty vs
  | .bool, t, fuel, cs, x, h, hx, hw => by
    simp only [tyIs] at h
    split at h <;> (try (cases h; done))
    rename_i ht
    obtain ⟨b, rfl, _⟩ := DataW.trod_bool ht hx
    exact ⟨[.bool b], ⟨_, _, rfl, rfl, rfl⟩, fun u hu => by simp at hu; subst hu; rfl, ⟨b, rfl⟩, fun _ _ => trivial⟩
  | .int k, t, fuel, cs, x, h, hx, hw => by
    simp only [tyIs] at h
    split at h <;> (try (cases h; done))
    rename_i k' ht
    have h := of_decide_eq_true h; subst h
    obtain ⟨n, rfl, _, hwf⟩ := DataW.trod_int ht hx
    refine ⟨[.int k n], ⟨_, _, rfl, rfl, rfl⟩, fun u hu => by simp at hu; subst hu; rfl, ⟨n, rfl, ?_⟩, fun _ _ => trivial⟩
    simpa [Lit.wf] using hwf
  | .str, t, fuel, cs, x, h, hx, hw => by
    simp only [tyIs] at h
    split at h <;> (try (cases h; done))
    rename_i ht
    obtain ⟨s, rfl, rfl, _⟩ := DataW.trod_string ht hx
    have hs : s.size ≤ reachBytes := by simpa [DataW.weights] using hw
    exact ⟨[.str s], ⟨_, _, rfl, rfl, rfl⟩, fun u hu => by simp at hu; subst hu; rfl, ⟨s, rfl, hs⟩, fun q hq => ⟨s, rfl, by have hl : s.data.toList.length = s.size := (by rw [Array.length_toList]; rfl); simp only [Rows.uptoBulk] at hq; omega⟩⟩
  | .slice sz bytes e, t, fuel, cs, x, h, hx, hw => by
    simp only [tyIs] at h
    split at h <;> (try (cases h; done))
    rename_i e' ht
    simp only [Bool.and_eq_true, decide_eq_true_eq] at h
    obtain ⟨⟨⟨hsz, hby⟩, h0⟩, he⟩ := h
    rcases DataW.trod_slice ht hx with ⟨rfl, _⟩ | ⟨a, len, cap, elems, rest, n, _, rfl, rfl, _, hlc, hm, hel, hat, hrest, _⟩
    · exact ⟨[.sl [] 0 sz .nil], ⟨_, _, rfl, ⟨by simp, .inl ⟨rfl, rfl, rfl, rfl⟩⟩, rfl⟩, fun u hu => by simp at hu; subst hu; rfl, ⟨[], .nil, rfl, .inl ⟨rfl, rfl⟩, by simp, fun _ hc => by cases hc⟩, fun q _ => ⟨[], .nil, rfl, Nat.zero_le _, fun _ hc => by cases hc⟩⟩
    · simp only [DataW.weights, ht] at hw
      have hcap : len * bytes ≤ reachBytes := by
        have := hw _ List.mem_cons_self
        rw [List.length_map, List.length_map, hel, hby] at this
        exact Nat.le_trans (Nat.mul_le_mul_right _ (by omega)) this
      have hone : Ones [Value.slice (some a) len cap] := fun u hu => by simp at hu; subst hu; rfl
      rcases Nat.eq_zero_or_pos cap with hc | hc
      · subst hc
        obtain rfl : len = 0 := by omega
        exact ⟨[.sl [] 0 sz .no], ⟨_, _, rfl, ⟨by simp, .inr (.inr ⟨.inl rfl, rfl, rfl, a, rfl⟩)⟩, rfl⟩, hone, ⟨[], .no, rfl, .inr rfl, by simp, fun _ hc => by cases hc⟩, fun q _ => ⟨[], .no, rfl, Nat.zero_le _, fun _ hc => by cases hc⟩⟩
      · have hspot : a.spot = none := by
          have hall : ∃ y, (W.cells? 0 (a.add (0 * P.cellsOf e')) (P.cellsOf e')).bind (DataW.trod enc P W 0 (fun _ => true) true n e') = some y := by
            rcases Nat.eq_zero_or_pos len with hl | hl
            · have := (hrest rfl).2 0 (by omega)
              rw [hl] at this
              rw [this]
              exact ⟨_, List.getElem?_eq_getElem (by have := (hrest rfl).1; omega)⟩
            · rw [hat 0 hl]
              exact ⟨_, List.getElem?_eq_getElem (by omega)⟩
          obtain ⟨y, hy⟩ := hall
          obtain ⟨cs', h1, _⟩ := Option.bind_eq_some_iff.1 hy
          obtain ⟨h2, h3⟩ := cells_read h1
          have h4 := h3 0 (by omega)
          have h5 : cs'[0]? = some (cs'[0]'(by omega)) := List.getElem?_eq_getElem _
          rw [h5] at h4
          simp only [Nat.zero_mul, Addr.add, if_true] at h4
          unfold World.cell? at h4
          split at h4
          · split at h4
            · cases h4
            · rename_i hs; simpa using hs
          · cases h4
        obtain ⟨b, p, sp⟩ := a
        simp only at hspot; subst hspot
        obtain ⟨L, us, h1, h2, h3, h4, h5, h6⟩ := rows_ofB (W := W) (sz := sz) (e := e) (b := b) (p := p) (B := fun vs => ∀ q, Rows.uptoBulkAll (elems.map (·.1)) ≤ q → HasTyB q e vs) len fun i hi => by
          have := hat i hi
          rw [List.getElem?_eq_getElem (by omega)] at this
          obtain ⟨cs', k1, k2⟩ := Option.bind_eq_some_iff.1 this
          obtain ⟨k3, k4⟩ := cells_read k1
          obtain ⟨vs, k5, k6, k7, k8⟩ := open_tyB e he k2 fun m hm => hw m (List.mem_cons_of_mem _ (List.mem_append_left _ (weights_all (List.mem_map.2 ⟨_, List.getElem_mem _, rfl⟩) m hm)))
          refine ⟨cs', vs, by omega, fun j hj => ?_, k5, k6, k7, fun q hq => k8 q (Nat.le_trans (bulk_mem (List.mem_map.2 ⟨_, List.getElem_mem _, rfl⟩)) hq)⟩
          rw [← k4 j (by omega), add_at, add_at, hsz]
        refine ⟨[.sl L.flatten len sz .no], ⟨_, _, rfl, ⟨by rw [h3.len, h5], .inr (.inl ⟨(by intro hh; cases hh), b, p, cap, us, rfl, hlc, h3, h4, fun j v hj => ?_, fun hh => (by cases hh), fun k hk => (by cases hk)⟩)⟩, rfl⟩, hone, ⟨L, .no, by rw [h1], .inr rfl, by rw [h1]; exact hcap, fun c hc => (h2 c hc).1⟩, fun q hq => ⟨L, .no, by rw [h1], ?_, fun c hc => ⟨(h2 c hc).1.1, (h2 c hc).2 q ?_⟩⟩⟩
        rotate_left
        · have := bulk_len (elems.map (·.1))
          rw [List.length_map, hel] at this
          simp only [Rows.uptoBulk] at hq; omega
        · simp only [Rows.uptoBulk] at hq; omega
        show W.cell? ⟨b, p + j, none⟩ = some v
        rw [h6 j (by have := (List.getElem?_eq_some_iff.1 hj).1; omega)]; exact hj
  | .fin, t, fuel, cs, x, h, hx, hw => by simp [tyIs] at h
  | .field s a r, t, fuel, cs, x, h, hx, hw => by
    simp only [tyIs] at h
    split at h <;> (try (cases h; done))
    rename_i fs ht
    obtain ⟨xs, n, _, rfl, hl, hn, hat⟩ := DataW.trod_struct ht hx
    simp only [DataW.weights, ht] at hw
    have h : fieldsIs P (.field s a r) fs.toList 0 (P.cellsOf t) = true := by
      split at h
      · rename_i f fr hfs
        rw [hfs]
        simpa only [fieldsIs] using h
      · cases h
    obtain ⟨vs, h1, h2, h3, h4⟩ := open_fieldsB (.field s a r) (fs := fs.toList) (off := 0) (tot := P.cellsOf t) (cs := cs) (n := n) (m := Rows.uptoBulkAll (xs.map (·.1))) h hl fun f hf => by
      obtain ⟨i, hi⟩ := List.mem_iff_getElem?.1 hf
      have hi' : i < fs.size := by have := (List.getElem?_eq_some_iff.1 hi).1; simpa using this
      have := hat i f (by simpa using hi)
      rw [List.getElem?_eq_getElem (by omega)] at this
      refine ⟨_, this, fun m hm => hw m (DataW.weights_mem_each (j := i) (by simp [hi]) (by simp [List.getElem?_eq_getElem (show i < xs.length by omega)]) m hm), bulk_mem (List.mem_map.2 ⟨_, List.getElem_mem _, rfl⟩)⟩
    exact ⟨vs, by simpa using h1, by simpa using h2, h3, fun q hq => h4 q (by simp only [Rows.uptoBulk] at hq; omega)⟩
theorem open_fieldsB : ∀ (ty : Ty) {fs : List Field} {off tot n m : Nat} {cs : List Value}, fieldsIs P ty fs off tot = true → cs.length = tot →
    (∀ f ∈ fs, ∃ x, DataW.trod enc P W 0 (fun _ => true) true n f.type ((cs.drop f.offset).take (P.cellsOf f.type)) = some x ∧ (∀ m ∈ x.1.weights P f.type, m ≤ reachBytes) ∧ Rows.uptoBulk x.1 ≤ m) → ∃ vs, RelL (g0 W) vs (cs.drop off) ∧ Ones (cs.drop off) ∧ HasTy ty vs ∧ ∀ q, m ≤ q → HasTyB q ty vs
  | .fin, [], off, tot, n, m, cs, h, hl, _ => by
    simp only [fieldsIs, decide_eq_true_eq] at h
    have : cs.drop off = [] := List.drop_of_length_le (by omega)
    rw [this]
    exact ⟨[], rfl, fun _ h => (by cases h), rfl, fun _ _ => trivial⟩
  | .field s a r, f :: fs, off, tot, n, m, cs, h, hl, hf => by
    simp only [fieldsIs, Bool.and_eq_true, decide_eq_true_eq] at h
    obtain ⟨⟨⟨⟨h1, h2⟩, h3⟩, h4⟩, h5⟩ := h
    obtain ⟨x, hx, hw, hb⟩ := hf f (by simp)
    rw [h1, h2] at hx
    obtain ⟨vs, k1, k2, k3, k4⟩ := open_tyB a h4 hx hw
    obtain ⟨ws, l1, l2, l3, l4⟩ := open_fieldsB r (cs := cs) (m := m) h5 hl fun f' hf' => hf f' (by simp [hf'])
    have e : cs.drop off = (cs.drop off).take s ++ cs.drop (off + s) := by
      rw [← List.drop_drop, List.take_append_drop]
    rw [e]
    have hvl : vs.length = s := by rw [k1.len, List.length_take, List.length_drop]; omega
    exact ⟨vs ++ ws, k1.append l1, k2.append l2, ⟨vs, ws, rfl, hvl, k3, l3⟩, fun q hq => ⟨vs, ws, rfl, hvl, k4 q (by omega), l4 q hq⟩⟩
  | .fin, _ :: _, _, _, _, _, _, h, _, _ => by simp [fieldsIs] at h
  | .field .., [], _, _, _, _, _, h, _, _ => by simp [fieldsIs] at h
  | .bool, _, _, _, _, _, _, h, _, _ => by simp [fieldsIs] at h
  | .int _, _, _, _, _, _, _, h, _, _ => by simp [fieldsIs] at h
  | .str, _, _, _, _, _, _, h, _, _ => by simp [fieldsIs] at h
  | .slice .., _, _, _, _, _, _, h, _, _ => by simp [fieldsIs] at h
end
end


section
variable {H : Type} {enc : TypeId × Value → H} {P : Program} {W W' : World}

theorem open_argB {ty : Ty} {t : TypeId} {u : Value} {d : DataW H} {ps : List MemPlace} {base : Nat} (h : tyIs P ty t = true) (hok : Value.okWide P W .any base t u) (hd : DataW.Trod enc P W 0 (fun _ => true) true t u d ps)
    (hw : ∀ n ∈ d.weights P t, n ≤ reachBytes) : ∃ v, RelV (g0 W) v u ∧ ArgTy ty v ∧ ∀ q, Rows.uptoBulk d ≤ q → ArgTyB q ty v := by
  obtain ⟨fuel, hd⟩ := hd
  obtain ⟨vs, h1, h2, h3, hB⟩ := open_tyB ty h hd hw
  cases hf : isField ty with
  | true =>
    refine ⟨.agg vs, ?_, by unfold ArgTy; rw [if_pos hf]; exact ⟨vs, rfl, h3⟩, fun q hq => by unfold ArgTyB; rw [if_pos hf]; exact ⟨vs, rfl, hB q hq⟩⟩
    cases ty <;> (try (cases hf; done))
    simp only [tyIs] at h
    split at h <;> (try (cases h; done))
    rename_i fs ht
    unfold Value.okWide at hok
    rw [ht] at hok
    obtain ⟨cs, rfl, _, _⟩ := hok
    exact ⟨cs.toList, by simp, by simpa [Value.cells] using h1, by simpa [Value.cells] using h2⟩
  | false =>
    have hns : u.cells = #[u] := by
      have hnagg : ∀ cs, u ≠ .agg cs := fun cs e => by
        subst e
        cases ty <;> (try (cases hf; done)) <;> simp only [tyIs] at h <;> (try (cases h; done)) <;> split at h <;> (try (cases h; done)) <;> rename_i ht <;> unfold Value.okWide at hok <;> rw [ht] at hok <;> simp [Cell.okWide, ht, Cell.ok] at hok
      cases u <;> first | rfl | exact absurd rfl (hnagg _)
    rw [hns] at h1 h2
    obtain ⟨v, hv⟩ : ∃ v, vs = [v] := by
      have := h1.len
      match vs, this with
      | [v], _ => exact ⟨v, rfl⟩
    subst hv
    obtain ⟨u', r, e, h4, h5⟩ := h1
    injection e with e1 e2
    subst e1
    exact ⟨v, h4, by unfold ArgTy; rw [if_neg (by rw [hf]; simp)]; exact h3, fun q hq => by unfold ArgTyB; rw [if_neg (by rw [hf]; simp)]; exact hB q hq⟩

end
theorem bytes_argB {v : V} {bs : List UInt8} {q : Nat} (hv : IsBytes v bs) (h : ArgTyB q (.slice 1 1 (.int .u8)) v) : bs.length ≤ q := by
  obtain ⟨t, rfl, _⟩ := hv
  obtain ⟨L, t', e, hl, _⟩ : HasTyB q (.slice 1 1 (.int .u8)) [V.sl (bs.map u8V) bs.length 1 t] := h
  injection e with e _
  injection e with e1 e2 e3 e4
  omega
end Go.Proofs.YtegaflmefmlpgaaGreatDoor
