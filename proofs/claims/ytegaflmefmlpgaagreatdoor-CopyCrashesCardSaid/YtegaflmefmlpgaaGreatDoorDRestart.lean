/-
  Restart. NEWPP
-/
import Derived.Test.YtegaflmefmlpgaaGreatDoorDRename
set_option linter.unusedVariables false
set_option linter.unusedSimpArgs false
namespace Go.VM
open Go Go.RowKit Go.Proofs

/-- How many bytes are kept that were not durable. -/
def keepI (keep : List Int) (j : Nat) (x : File) : Int :=
  match keep[j]? with
  | some k => let m := if (x.p.length : Int) - x.sure < k then (x.p.length : Int) - x.sure else k
    if m > 0 then m else 0
  | none => 0
def cutF (keep : List Int) (j : Nat) (x : File) : File := { x with p := x.p.take (x.sure + (keepI keep j x).toNat), sure := x.sure + (keepI keep j x).toNat }
def stepR (keep : List Int) (D : DS) (j : Nat) (s : List UInt8) : DS :=
  match findF s D.files with
  | some x => { D with files := putF (cutF keep j x) D.files, used := D.used - ((x.p.length : Int) - x.sure - keepI keep j x) }
  | none => D
def runR (keep : List Int) : Nat → List (List UInt8) → DS → DS
  | _, [], D => D
  | j, s :: r, D => runR keep (j + 1) r (stepR keep D j s)
def DS.names (D : DS) : List (List UInt8) := sortS (D.files.map (·.name))
def DS.restart (D : DS) (keep : List Int) : DS := { runR keep 0 D.names D with off := false, arm := 0 }
theorem abs_names (D : Dk) : D.abs.names = D.names := by
  simp only [DS.names, Dk.names, Dk.abs, List.map_map]; rfl
theorem keepI_le (keep : List Int) (j : Nat) (x : File) (h : x.sure ≤ x.p.length) : 0 ≤ keepI keep j x ∧ keepI keep j x ≤ (x.p.length : Int) - x.sure := by
  unfold keepI
  split
  · simp only
    split <;> split <;> omega
  · omega

def intsV (ks : List Int) (t : Tok) : V := .sl (ks.map (V.int .i64)) ks.length 1 t

theorem restart_rest {w0 : World} {fr : Fr} {S : St} {Q : CPost} {i : Nat} {D : Dk} {n : Int} {a b : List Ent} {e : Ent} (h : DiskAt S i D) (he : D.ents = a ++ e :: b) (hn0 : 0 ≤ n) (hn1 : n ≤ (e.p.length : Int) - e.sure)
    (f0 : fr 0 = .ptr (some (i, 0))) (f7 : fr 7 = .ptr (some (e.f, 0))) (f8 : fr 8 = .int .i64 n)
    (hQ : ∀ fr' S' t', (∀ k, k = 0 ∨ k = 1 ∨ k = 12 ∨ k = 13 ∨ k = 14 → fr' k = fr k) →
      DiskAt S' i { D with ents := a ++ { e with p := e.p.take (e.sure + n.toNat), sure := e.sure + n.toNat, t := t' } :: b, used := D.used - ((e.p.length : Int) - e.sure - n) } → Keeps (ownD i D) S S' →
      (∀ j, ownD i { D with ents := a ++ { e with p := e.p.take (e.sure + n.toNat), sure := e.sure + n.toNat, t := t' } :: b, used := D.used - ((e.p.length : Int) - e.sure - n) } j → ownD i D j ∨ S.n ≤ j) → Q .normal fr' S') :
    wCode (RSim Tryz.prog w0) r_disk_Disk_Restart_0 fr S Q := by
  have hem : e ∈ D.ents := by rw [he]; simp
  have hE := h.ents e hem
  have hus := h.wf.used; have hfi := h.wf.fits; have hro := h.wf.room; have hsu := h.wf.sure e hem
  have hle := sumLen_mem hem
  have hif : ¬ i = e.f := h.ne_f hem
  have hif' : ¬ e.f = i := fun e' => hif e'.symm
  have w1 : IntKind.i64.wrap ((e.p.length : Int) - e.sure) = (e.p.length : Int) - e.sure := w64 (by omega) (by omega)
  have w2 : IntKind.i64.wrap ((e.p.length : Int) - e.sure - n) = (e.p.length : Int) - e.sure - n := w64 (by omega) (by omega)
  have w3 : IntKind.i64.wrap (D.used - ((e.p.length : Int) - e.sure - n)) = D.used - ((e.p.length : Int) - e.sure - n) := w64 (by omega) (by omega)
  have w4 : IntKind.i64.wrap ((e.sure : Int) + n) = ((e.sure + n.toNat : Nat) : Int) := by rw [w64 (by omega) (by omega)]; omega
  have hh : e.sure + n.toNat ≤ e.p.length := by omega
  simp only [r_disk_Disk_Restart_0, go_sem, f0, f7, f8, h.head, Dk.cells, hE.cells, hif, hif', w1, w2, w3, w4, hh]
  generalize hS1 : S.set i (.cells [.map (some D.m), .int .i64 D.room, .int .i64 (D.used - ((e.p.length : Int) - e.sure - n)), .int .i64 D.ops, .int .i64 D.arm, .bool D.off]) = S1
  have k1 : Keeps (fun j => j = i) S S1 := hS1 ▸ Keeps.set1 _ _ _
  have c1 : S1.cells i = some [.map (some D.m), .int .i64 D.room, .int .i64 (D.used - ((e.p.length : Int) - e.sure - n)), .int .i64 D.ops, .int .i64 D.arm, .bool D.off] := by rw [← hS1, cells_setc, if_pos rfl]
  clear hS1
  have e1 := k1.cells hE.cells hE.lt hif'
  have tail : ∀ (v : V) (fr1 : Fr) (Kp : V → St → Prop), v.elems S1 1 = some (e.sure + n.toNat, (e.p.take (e.sure + n.toNat)).map u8V) → fr1 75 = v → fr1 7 = .ptr (some (e.f, 0)) → fr1 64 = .ptr (some (e.f, 0)) → (∀ k, k = 0 ∨ k = 1 ∨ k = 12 ∨ k = 13 ∨ k = 14 → fr1 k = fr k) →
      wItems (RSim Tryz.prog w0) [.run ⟨(some 76), none, .e (.append 1 1 false (.c (.sl [] 0 1 .nil)) (.t 75))⟩,
    .run ⟨(some 77), none, .f (.nilCheck (.t 64))⟩,
    .run ⟨(some 78), none, .f (.fieldAddr 0 (.t 77))⟩,
    .run ⟨none, none, .e (.store 1 (.t 78) (.t 76))⟩] fr1 S1 (seqQ (RSim Tryz.prog w0) (.reg [] [.run ⟨(some 79), none, .f (.mv (.t 7))⟩,
    .run ⟨(some 80), none, .f (.mv (.t 7))⟩,
    .run ⟨(some 81), none, .f (.nilCheck (.t 80))⟩,
    .run ⟨(some 82), none, .f (.fieldAddr 0 (.t 81))⟩,
    .run ⟨(some 83), none, .f (.load false 1 (.t 82))⟩,
    .run ⟨(some 84), none, .f (.len .sl (.t 83))⟩,
    .run ⟨(some 85), none, .f (.nilCheck (.t 79))⟩,
    .run ⟨(some 86), none, .f (.fieldAddr 1 (.t 85))⟩,
    .run ⟨none, none, .e (.store 1 (.t 86) (.t 84))⟩]) Q .normal) Kp := by
    intro v fr1 Kp hv g75 g7 g64 gk
    refine wi_append (n := 0) (cs := []) (t := .nil) (m := e.sure + n.toNat) (xs := (e.p.take (e.sure + n.toNat)).map u8V) (by simp only [go_sem]) (by simp only [go_sem, g75]; exact hv) (by simp; omega) (by simp [roomOk]; omega) trivial (fun _ => ⟨rfl, rfl⟩) fun t' S2 k2 ht2 hn2 hz => ?_
    rw [tokOwn_nil] at k2
    have c2 := k2.cells c1 (k1.lt h.lt) id
    have e2 := k2.cells e1 (k1.lt hE.lt) id
    simp only [go_sem, g7, g64, e2]
    generalize hS3 : S2.set e.f (.cells [.sl ((e.p.take (e.sure + n.toNat)).map u8V) (e.sure + n.toNat) 1 t', .int .i64 ((e.sure + n.toNat : Nat) : Int)]) = S3
    have k3 : Keeps (fun j => j = e.f) S2 S3 := hS3 ▸ Keeps.set1 _ _ _
    have e3 : S3.cells e.f = some [.sl ((e.p.take (e.sure + n.toNat)).map u8V) (e.sure + n.toNat) 1 t', .int .i64 ((e.sure + n.toNat : Nat) : Int)] := by rw [← hS3, cells_setc, if_pos rfl]
    have c3 := k3.cells c2 (k2.lt (k1.lt h.lt)) hif
    clear hS3
    have hlen : (e.p.take (e.sure + n.toNat)).length = e.sure + n.toNat := by rw [List.length_take]; omega
    have kA : Keeps (fun j => j = i ∨ j = e.f ∨ e.t = .at j) S S3 := ((k1.mono (o' := fun j => j = i ∨ j = e.f ∨ e.t = .at j) fun _ _ h => .inl h).trans k2 fun _ _ h => h.elim).trans k3 fun _ _ h => .inr (.inl h)
    obtain ⟨dA, oA⟩ := h.repl (e' := { e with p := e.p.take (e.sure + n.toNat), sure := e.sure + n.toNat, t := t' }) (D' := { D with ents := a ++ { e with p := e.p.take (e.sure + n.toNat), sure := e.sure + n.toNat, t := t' } :: b, used := D.used - ((e.p.length : Int) - e.sure - n) }) he kA (fun _ h => h) c3 rfl rfl rfl rfl rfl rfl
      ⟨by show S3.cells e.f = _; rw [e3, hlen], k3.lt (k2.lt (k1.lt hE.lt)), ht2.keep k3 fun j hj e' => by subst e'; exact tok_cells ht2 (hp_cells e2) (by intro x; cases x) hj, fun e' => by
        have := (hz e').1
        show e.p.take (e.sure + n.toNat) = []
        rw [this]; rfl⟩ (fun j hj => .inl (Nat.le_trans k1.n (hn2 j hj))) (by
      refine ⟨?_, ?_, hro, fun x hx => ?_, fun x hx => ?_⟩
      · show D.used - ((e.p.length : Int) - e.sure - n) = ((sumLen (a ++ { e with p := e.p.take (e.sure + n.toNat), sure := e.sure + n.toNat, t := t' } :: b) : Nat) : Int)
        rw [he, sumLen_mid] at hus
        rw [sumLen_mid]
        show _ = ((sumLen a + (e.p.take (e.sure + n.toNat)).length + sumLen b : Nat) : Int)
        rw [hlen]; omega
      · show D.used - ((e.p.length : Int) - e.sure - n) ≤ D.room
        omega
      · rcases List.mem_append.1 hx with hx | hx
        · exact h.wf.sure x (by rw [he]; simp [hx])
        · rcases List.mem_cons.1 hx with rfl | hx
          · exact Nat.le_of_eq hlen.symm
          · exact h.wf.sure x (by rw [he]; simp [hx])
      · rcases List.mem_append.1 hx with hx | hx
        · exact h.wf.names x (by rw [he]; simp [hx])
        · rcases List.mem_cons.1 hx with rfl | hx
          · exact h.wf.names e hem
          · exact h.wf.names x (by rw [he]; simp [hx]))
    refine hQ _ S3 t' (fun k hk => ?_) dA (kA.mono fun j _ e' => ?_) oA
    · rw [← gk k hk]
      rcases hk with rfl | rfl | rfl | rfl | rfl <;> simp only [go_sem]
    · rcases e' with e' | e' | e'
      · exact .inl e'
      · exact .inr (.inr ⟨e, hem, .inl e'⟩)
      · exact .inr (.inr ⟨e, hem, .inr e'⟩)
  by_cases ht : e.t = .nil
  · have hp := hE.nil ht
    simp only [go_sem, ht, e1]
    refine tail (.sl (e.p.map u8V) e.p.length 1 .nil) _ _ ?_ ?_ ?_ ?_ ?_
    · rw [hp] at hh ⊢
      have : e.sure + n.toNat = 0 := by simp at hh; omega
      rw [this]; rfl
    · simp only [go_sem]
    · simp only [go_sem, f7]
    · simp only [go_sem]
    · intro k hk; rcases hk with rfl | rfl | rfl | rfl | rfl <;> simp only [go_sem]
  · simp only [go_sem, ht, e1]
    refine tail (.sl (List.take ((e.sure + n.toNat - 0) * 1) (e.p.map u8V)) (e.sure + n.toNat - 0) 1 (if e.sure + n.toNat = e.p.length then e.t else .no)) _ _ ?_ ?_ ?_ ?_ ?_
    · simp only [V.elems]
      rw [if_neg (by split <;> simp [ht])]
      simp [List.map_take]
    · simp only [go_sem]
    · simp only [go_sem, f7]
    · simp only [go_sem]
    · intro k hk; rcases hk with rfl | rfl | rfl | rfl | rfl <;> simp only [go_sem]

theorem restart_body {w0 : World} {fr : Fr} {S : St} {Q : CPost} {i : Nat} {D : Dk} {ns : List (List UInt8)} {t kt : Tok} {keep : List Int} {j : Nat} {a b : List Ent} {e : Ent} {s : List UInt8} (h : DiskAt S i D) (hs : ns[j]? = some s) (htn : t ≠ .nil) (hkn : kt = .nil → keep = [])
    (he : D.ents = a ++ e :: b) (hsn : e.name = s) (ha : ∀ x ∈ a, x.name ≠ s) (hj : j < ns.length)
    (f0 : fr 0 = .ptr (some (i, 0))) (f1 : fr 1 = intsV keep kt) (f12 : fr 12 = strsV ns t) (f14 : fr 14 = .int .i64 j)
    (hQ : ∀ fr' S' D', fr' 0 = fr 0 → fr' 1 = fr 1 → fr' 12 = fr 12 → fr' 13 = fr 13 → fr' 14 = fr 14 → DiskAt S' i D' → D'.abs = stepR keep D.abs j s → D'.ents.map (·.name) = D.ents.map (·.name) → Keeps (ownD i D) S S' → (∀ j, ownD i D' j → ownD i D j ∨ S.n ≤ j) → Q .normal fr' S') :
    wCode (RSim Tryz.prog w0) k_disk_Disk_Restart_0 fr S Q := by
  have hem : e ∈ D.ents := by rw [he]; simp
  have hE := h.ents e hem
  have hf := findE_some (b := b) hsn a 0 ha
  rw [← he] at hf
  have hdr : (List.drop (j * 1) (ns.map fun s => V.str (mkS s))).head? = some (.str (mkS s)) := by
    rw [Nat.mul_one, List.head?_drop, List.getElem?_map, hs]; rfl
  have hus := h.wf.used; have hfi := h.wf.fits; have hro := h.wf.room; have hsu := h.wf.sure e hem
  have hle := sumLen_mem hem
  obtain ⟨hk0, hk1⟩ := keepI_le keep j e.file hsu
  simp only [Ent.file] at hk0 hk1
  have hif : ¬ i = e.f := h.ne_f hem
  have hif' : ¬ e.f = i := fun e' => hif e'.symm
  simp only [k_disk_Disk_Restart_0, go_sem, f0, f1, f12, f14, strsV, intsV, hj, htn, hdr]
  simp only [go_sem, f0, f1, h.head, h.map, hf, Dk.cells]
  have fin : ∀ fr1 : Fr, fr1 0 = fr 0 → fr1 1 = fr 1 → fr1 12 = fr 12 → fr1 13 = fr 13 → fr1 14 = fr 14 → fr1 7 = .ptr (some (e.f, 0)) → fr1 8 = .int .i64 (keepI keep j e.file) → wCode (RSim Tryz.prog w0) r_disk_Disk_Restart_0 fr1 S Q := by
    intro fr1 g0 g1 g12 g13 g14 g7 g8
    refine restart_rest h he hk0 hk1 (g0.trans f0) g7 g8 fun fr' S' t' hfr dA kA oA => hQ fr' S' _ ((hfr 0 (by simp)).trans g0) ((hfr 1 (by simp)).trans g1) ((hfr 12 (by simp)).trans g12) ((hfr 13 (by simp)).trans g13) ((hfr 14 (by simp)).trans g14) dA ?_ ?_ kA oA
    · have hfs : findF s D.abs.files = some e.file := by simp only [Dk.abs, he]; exact findF_some hsn ha
      have := putF_some (s := s) (e := e) (e' := { e with p := e.p.take (e.sure + (keepI keep j e.file).toNat), sure := e.sure + (keepI keep j e.file).toNat, t := t' }) (b := b) hsn hsn ha
      rw [← he] at this
      simp only [stepR, hfs]
      exact congrArg (fun fs => ({ files := fs, room := D.room, used := D.used - ((e.p.length : Int) - e.sure - keepI keep j e.file), ops := D.ops, arm := D.arm, off := D.off } : DS)) this.symm
    · simp [he]
  have hw0 : IntKind.i64.wrap ((e.p.length : Int) - e.sure) = (e.p.length : Int) - e.sure := w64 (by omega) (by omega)
  refine wc_ite (b := decide ((j : Int) < keep.length)) (by simp only [go_sem]) (fun hc => ?_) (fun hc => ?_)
  · have hjk : j < keep.length := by have := of_decide_eq_true hc; omega
    have hktn : kt ≠ .nil := fun e' => by rw [hkn e'] at hjk; cases hjk
    have hkj : keep[j]? = some (keep[j]'hjk) := List.getElem?_eq_getElem hjk
    have hdk : (List.drop (j * 1) (keep.map (V.int .i64))).head? = some (.int .i64 (keep[j]'hjk)) := by
      rw [Nat.mul_one, List.head?_drop, List.getElem?_map, hkj]; rfl
    simp only [go_sem, f0, f1, intsV, hjk, hktn, hdk, hE.cells, hw0, minmaxL, minmaxV]
    refine fin _ (by simp only [go_sem]) (by simp only [go_sem, f1, intsV]) (by simp only [go_sem]) (by simp only [go_sem]) (by simp only [go_sem, f14]) (by simp only [go_sem]) ?_
    simp only [go_sem, keepI, hkj, Ent.file]
    rfl
  · have hjk : keep[j]? = none := List.getElem?_eq_none (by have := of_decide_eq_false hc; omega)
    simp only [go_sem]
    refine fin _ (by simp only [go_sem]) (by simp only [go_sem, f1, intsV]) (by simp only [go_sem]) (by simp only [go_sem]) (by simp only [go_sem, f14]) (by simp only [go_sem]) ?_
    simp only [go_sem, keepI, hjk]

theorem sortS_mem {l : List (List UInt8)} {s : List UInt8} : s ∈ sortS l ↔ s ∈ l := (List.mergeSort_perm l _).mem_iff
theorem sortS_len (l : List (List UInt8)) : (sortS l).length = l.length := List.length_mergeSort l

theorem restart_runs {w0 : World} {S : St} {Q : AEnd → St → Prop} {i : Nat} {D : Dk} {keep : List Int} {kt : Tok} (h : DiskAt S i D) (hn : D.ents.length ≤ 1000000000) (hkn : kt = .nil → keep = [])
    (hQ : ∀ S' D', DiskAt S' i D' → D'.abs = D.abs.restart keep → Keeps (ownD i D) S S' → (∀ j, ownD i D' j → ownD i D j ∨ S.n ≤ j) → Q (.ret (.int .i64 0)) S') :
    RSim Tryz.prog w0 n_disk_Disk_Restart [.ptr (some (i, 0)), intsV keep kt] S Q := by
  refine RSim.run mixed k_disk_Disk_Restart ?_ (by simp)
  simp only [b_disk_Disk_Restart, go_sem]
  refine wc_ite (b := false) (by simp only [go_sem] <;> rfl) (fun h => by cases h) (fun _ => ?_)
  simp only [go_sem]
  refine wi_call ?_
  simp only [go_sem]
  refine names_runs h hn fun S0 t ht1 ht2 k0 => ?_
  simp only [go_sem]
  have h0 := h.stay k0
  have hlen : D.names.length = D.ents.length := by simp [Dk.names, sortS_len]
  simp only [strsV, go_sem]
  refine loop_rule RSim.le (k := D.names.length) (fun m fr S1 => ∃ (j : Nat) (Dj : Dk), m = D.names.length - j ∧ j ≤ D.names.length ∧ fr 0 = .ptr (some (i, 0)) ∧ fr 1 = intsV keep kt ∧ fr 12 = strsV D.names t ∧ fr 13 = .int .i64 D.names.length ∧ fr 14 = .int .i64 j ∧
      DiskAt S1 i Dj ∧ runR keep j (D.names.drop j) Dj.abs = runR keep 0 D.names D.abs ∧ Dj.ents.map (·.name) = D.ents.map (·.name) ∧ Keeps (ownD i D) S S1 ∧ (∀ j, ownD i Dj j → ownD i D j ∨ S.n ≤ j)) ?_
    ⟨0, D, rfl, Nat.zero_le _, by simp only [go_sem], by simp only [go_sem], by simp only [go_sem, strsV], by simp only [go_sem], by simp only [go_sem, Int.natCast_zero], h0, rfl, rfl, k0.mono fun _ _ e => e.elim, fun j hj => .inl hj⟩
  rintro m fr S1 ⟨j, Dj, hm, hj, f0, f1, f12, f13, f14, d1, hrun, hnm, k1, o1⟩
  subst hm
  simp only [l_disk_Disk_Restart_0, go_sem, f13, f14]
  refine wc_ite (b := decide ((j : Int) < D.names.length)) (by simp only [go_sem]) (fun hc => ?_) (fun hc => ?_)
  · have hj2 : j < D.names.length := by have := of_decide_eq_true hc; omega
    have hb : D.names[j]? = some (D.names[j]'hj2) := List.getElem?_eq_getElem hj2
    have hw : IntKind.i64.wrap ((j : Int) + 1) = ((j + 1 : Nat) : Int) := by rw [w64 (by omega) (by omega)]; omega
    have htn : t ≠ .nil := fun e => by
      have h9 : D.names.length = 0 := by rw [hlen, ht1 e]; rfl
      omega
    generalize hs : D.names[j]'hj2 = s at hb
    have hmem : s ∈ Dj.ents.map (·.name) := by
      rw [hnm, ← sortS_mem]
      exact List.mem_of_getElem? hb
    rcases find_cases s Dj.ents with ⟨a, e, b, he, hsn, ha⟩ | hno
    · simp only [go_sem]
      refine restart_body d1 hb htn hkn he hsn ha hj2 (by simp only [go_sem]; exact f0) (by simp only [go_sem]; exact f1) (by simp only [go_sem]; exact f12) (by simp only [go_sem]; exact f14) fun fr' S' D' g0 g1 g12 g13 g14 dA hA hnA kA oA => ?_
      simp only [go_sem] at g0 g1 g12 g13 g14
      simp only [go_sem, g14, f14, hw]
      refine ⟨D.names.length - (j + 1), by omega, j + 1, D', rfl, by omega, by simp only [go_sem, g0, f0], by simp only [go_sem, g1, f1], by simp only [go_sem, g12, f12], by simp only [go_sem, g13, f13], by simp only [go_sem], dA, ?_, by rw [hnA, hnm], k1.trans kA fun q hq hq' => ?_, fun q hq => ?_⟩
      · rw [hA, ← hrun]
        have : D.names.drop j = s :: D.names.drop (j + 1) := by rw [List.drop_eq_getElem_cons hj2, hs]
        rw [this]; rfl
      · rcases o1 q hq' with h' | h'
        · exact h'
        · omega
      · rcases oA q hq with h' | h'
        · exact o1 q h'
        · exact .inr (Nat.le_trans k1.n h')
    · obtain ⟨e, he, hes⟩ := List.mem_map.1 hmem
      exact absurd hes (hno e he)
  · have hje : j = D.names.length := by have := of_decide_eq_false hc; omega
    subst hje
    rw [List.drop_length] at hrun
    have hrun : Dj.abs = runR keep 0 D.names D.abs := hrun
    simp only [s_disk_Disk_Restart_0, go_sem, f0, d1.head, Dk.cells]
    obtain ⟨dA, kA⟩ := d1.head' (D' := { Dj with off := false, arm := 0 }) rfl rfl rfl ⟨d1.wf.used, d1.wf.fits, d1.wf.room, d1.wf.sure, d1.wf.names⟩
    refine hQ _ _ dA ?_ (k1.trans kA fun q hq hq' => hq' ▸ .inl rfl) o1
    show ({ Dj.abs with off := false, arm := 0 } : DS) = _
    rw [hrun, DS.restart, abs_names]
theorem restart_nil {w0 : World} {S : St} {Q : AEnd → St → Prop} {v : V} (hQ : Q (.ret (.int .i64 8)) S) : RSim Tryz.prog w0 n_disk_Disk_Restart [.ptr none, v] S Q := by
  refine RSim.run mixed k_disk_Disk_Restart ?_ (by simp)
  simp only [b_disk_Disk_Restart, go_sem]
  refine wc_ite (b := true) (by simp only [go_sem] <;> rfl) (fun _ => ?_) (fun h => by cases h)
  simp only [go_sem]
  exact hQ
end Go.VM
