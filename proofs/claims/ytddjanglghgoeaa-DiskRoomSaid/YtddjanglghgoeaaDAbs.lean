/-
  Sure and Read by what the disk is as plain data; awake; DiskNames. NEWPP
-/
import Derived.Test.YtddjanglghgoeaaDRestart
set_option linter.unusedVariables false
set_option linter.unusedSimpArgs false
namespace Go.VM
open Go Go.RowKit Go.Proofs

def DS.sureOf (D : DS) (s : List UInt8) : Int := match findF s D.files with | some x => x.sure | none => 0
def DS.readE (D : DS) (s : List UInt8) : Int := if nameOk s = false then 1 else if D.off = true then 10 else match findF s D.files with | some _ => 0 | none => 8
def DS.bytes (D : DS) (s : List UInt8) : List UInt8 := if nameOk s = false then [] else if D.off = true then [] else match findF s D.files with | some x => x.p | none => []
theorem sure_abs {w0 : World} {S : St} {Q : AEnd → St → Prop} {i : Nat} {D : Dk} {s : List UInt8} (h : DiskAt S i D) (hQ : Q (.ret (.int .i64 (D.abs.sureOf s))) S) : RSim Try.prog w0 n_disk_Disk_Sure [.ptr (some (i, 0)), .str (mkS s)] S Q := by
  refine sure_runs h (fun a e b he hs ha => ?_) fun hno => ?_
  · have : findF s D.abs.files = some e.file := by simp only [Dk.abs, he]; exact findF_some hs ha
    simp only [DS.sureOf, this] at hQ
    exact hQ
  · have : findF s D.abs.files = none := findF_none hno
    simp only [DS.sureOf, this] at hQ
    exact hQ
theorem read_abs {w0 : World} {S : St} {Q : AEnd → St → Prop} {i : Nat} {D : Dk} {s : List UInt8} (h : DiskAt S i D) (hl : s.length ≤ 1000000000000000)
    (hQ : ∀ S' v, IsBytes v (D.abs.bytes s) → Keeps (fun _ => False) S S' → Q (.ret (.tup [v, .int .i64 (D.abs.readE s)])) S') : RSim Try.prog w0 n_disk_Disk_Read [.ptr (some (i, 0)), .str (mkS s)] S Q := by
  refine read_runs h hl (fun a e b S' v hn ho he hs ha hv k => ?_) fun hno => ?_
  · have : findF s D.abs.files = some e.file := by simp only [Dk.abs, he]; exact findF_some hs ha
    have ho' : D.abs.off = false := ho
    simp only [DS.bytes, DS.readE, hn, ho', this, if_false, reduceCtorEq] at hQ
    exact hQ S' v hv k
  · have hq := hQ S (.sl [] 0 1 .nil)
    simp only [DS.bytes, DS.readE] at hq
    by_cases h1 : nameOk s = false
    · simp only [h1, if_true, Dk.thereE] at hq ⊢
      exact hq isBytes_nil (Keeps.refl _ _)
    · by_cases h2 : D.off = true
      · have h2' : D.abs.off = true := h2
        simp only [h1, h2, h2', if_true, if_false, Dk.thereE] at hq ⊢
        exact hq isBytes_nil (Keeps.refl _ _)
      · have h2' : ¬ D.abs.off = true := h2
        have h3 : ∀ x ∈ D.ents, x.name ≠ s := by
          rcases hno with h | h | h
          · exact absurd h h1
          · exact absurd h h2
          · exact h
        have : findF s D.abs.files = none := findF_none h3
        simp only [h1, h2, h2', if_false, Dk.thereE, this] at hq ⊢
        exact hq isBytes_nil (Keeps.refl _ _)

theorem bytesIn_mk (S : St) (o : Nat → Prop) (bs : List UInt8) {t : Tok} (h : t ≠ .nil) : BytesIn S o (.sl (bs.map u8V) bs.length 1 t) bs := (isBytes_mk bs h).into S o
theorem keeps_new {S S1 S2 : St} {o : Nat → Prop} (h : Keeps (fun _ => False) S S1) (k : Keeps o S1 S2) (ho : ∀ j, o j → S.n ≤ j) : Keeps (fun _ => False) S S2 :=
  h.trans k fun j hj h' => by have := ho j h'; omega

theorem diskAwake_runs {w0 : World} {S : St} {Q : AEnd → St → Prop} (hQ : ∀ S', Keeps (fun _ => False) S S' → Q (.ret (.bool true)) S') : RSim Try.prog w0 n_l02_awake [] S Q := by
  refine RSim.run mixed k_l02_awake ?_ (by simp)
  simp only [b_l02_awake, go_sem, Nat.reduceEqDiff, Nat.reduceAdd, Nat.reduceMul, Nat.reduceSub, Nat.reduceLeDiff, Int.reduceBEq, Int.reduceBNe, Int.reduceLT, Int.reduceLE, Int.reduceGT, Int.reduceGE, Int.reduceEq, ↓reduceIte, reduceCtorEq]
  refine wi_call ?_
  simp only [go_sem, Nat.reduceEqDiff, Nat.reduceAdd, Nat.reduceMul, Nat.reduceSub, Nat.reduceLeDiff, Int.reduceBEq, Int.reduceBNe, Int.reduceLT, Int.reduceLE, Int.reduceGT, Int.reduceGE, Int.reduceEq, ↓reduceIte, reduceCtorEq]
  refine new_runs (fun S1 i _ _ hi d1 k1 => ?_) (fun h => by omega)
  have o1 : ∀ j, ownD i ⟨S.n, 0, [], 10, 0, 0, 0, false⟩ j → S.n ≤ j := fun j hj => by
    rcases hj with rfl | rfl | ⟨e, he, _⟩
    · exact hi
    · exact Nat.le_refl _
    · cases he
  simp only [go_sem, Nat.reduceEqDiff, Nat.reduceAdd, Nat.reduceMul, Nat.reduceSub, Nat.reduceLeDiff, Int.reduceBEq, Int.reduceBNe, Int.reduceLT, Int.reduceLE, Int.reduceGT, Int.reduceGE, Int.reduceEq, ↓reduceIte, reduceCtorEq]
  refine wc_ite (b := false) (by simp only [go_sem, Nat.reduceEqDiff, Nat.reduceAdd, Nat.reduceMul, Nat.reduceSub, Nat.reduceLeDiff, Int.reduceBEq, Int.reduceBNe, Int.reduceLT, Int.reduceLE, Int.reduceGT, Int.reduceGE, Int.reduceEq, ↓reduceIte, reduceCtorEq] <;> rfl) (fun h => by cases h) (fun _ => ?_)
  simp only [go_sem, Nat.reduceEqDiff, Nat.reduceAdd, Nat.reduceMul, Nat.reduceSub, Nat.reduceLeDiff, Int.reduceBEq, Int.reduceBNe, Int.reduceLT, Int.reduceLE, Int.reduceGT, Int.reduceGE, Int.reduceEq, ↓reduceIte, reduceCtorEq]
  refine wi_bytesSame (by simp only [go_sem, Nat.reduceEqDiff, Nat.reduceAdd, Nat.reduceMul, Nat.reduceSub, Nat.reduceLeDiff, Int.reduceBEq, Int.reduceBNe, Int.reduceLT, Int.reduceLE, Int.reduceGT, Int.reduceGE, Int.reduceEq, ↓reduceIte, reduceCtorEq] <;> rfl) (by simp only [go_sem, Nat.reduceEqDiff, Nat.reduceAdd, Nat.reduceMul, Nat.reduceSub, Nat.reduceLeDiff, Int.reduceBEq, Int.reduceBNe, Int.reduceLT, Int.reduceLE, Int.reduceGT, Int.reduceGE, Int.reduceEq, ↓reduceIte, reduceCtorEq]) ?_
  refine wi_call ?_
  simp only [go_sem, Nat.reduceEqDiff, Nat.reduceAdd, Nat.reduceMul, Nat.reduceSub, Nat.reduceLeDiff, Int.reduceBEq, Int.reduceBNe, Int.reduceLT, Int.reduceLE, Int.reduceGT, Int.reduceGE, Int.reduceEq, ↓reduceIte, reduceCtorEq]
  have k1' : Keeps (fun _ => False) S1 (S1.add .tok) := (Keeps.refl _ S1).add _
  refine append_runs (p := [49, 50, 51, 52, 53]) (d1.stay k1') (by simp) (bytesIn_mk _ _ [49, 50, 51, 52, 53] (by intro h; cases h)) (by simp) fun S2 D2 d2 a2 k2 o2 => ?_
  have A2 : D2.abs = ⟨[⟨[97], [49, 50, 51, 52, 53], 0⟩], 10, 5, 1, 0, false⟩ := by rw [a2]; kernel_rfl
  have E2 : ((⟨S.n, 0, [], 10, 0, 0, 0, false⟩ : Dk).abs.grow [97] [49, 50, 51, 52, 53] false).1 = 0 := by kernel_rfl
  rw [E2]
  simp only [go_sem, Nat.reduceEqDiff, Nat.reduceAdd, Nat.reduceMul, Nat.reduceSub, Nat.reduceLeDiff, Int.reduceBEq, Int.reduceBNe, Int.reduceLT, Int.reduceLE, Int.reduceGT, Int.reduceGE, Int.reduceEq, ↓reduceIte, reduceCtorEq]
  refine wi_call ?_
  simp only [go_sem, Nat.reduceEqDiff, Nat.reduceAdd, Nat.reduceMul, Nat.reduceSub, Nat.reduceLeDiff, Int.reduceBEq, Int.reduceBNe, Int.reduceLT, Int.reduceLE, Int.reduceGT, Int.reduceGE, Int.reduceEq, ↓reduceIte, reduceCtorEq]
  refine sync_runs d2 (by simp) fun S3 D3 d3 a3 k3 o3 => ?_
  rw [A2] at a3 ⊢
  have A3 : D3.abs = ⟨[⟨[97], [49, 50, 51, 52, 53], 5⟩], 10, 5, 2, 0, false⟩ := by rw [a3]; kernel_rfl
  have E3 : ((⟨[⟨[97], [49, 50, 51, 52, 53], 0⟩], 10, 5, 1, 0, false⟩ : DS).sync [97]).1 = 0 := by kernel_rfl
  rw [E3]
  simp only [go_sem, Nat.reduceEqDiff, Nat.reduceAdd, Nat.reduceMul, Nat.reduceSub, Nat.reduceLeDiff, Int.reduceBEq, Int.reduceBNe, Int.reduceLT, Int.reduceLE, Int.reduceGT, Int.reduceGE, Int.reduceEq, ↓reduceIte, reduceCtorEq]
  refine wi_bytesSame (by simp only [go_sem, Nat.reduceEqDiff, Nat.reduceAdd, Nat.reduceMul, Nat.reduceSub, Nat.reduceLeDiff, Int.reduceBEq, Int.reduceBNe, Int.reduceLT, Int.reduceLE, Int.reduceGT, Int.reduceGE, Int.reduceEq, ↓reduceIte, reduceCtorEq] <;> rfl) (by simp only [go_sem, Nat.reduceEqDiff, Nat.reduceAdd, Nat.reduceMul, Nat.reduceSub, Nat.reduceLeDiff, Int.reduceBEq, Int.reduceBNe, Int.reduceLT, Int.reduceLE, Int.reduceGT, Int.reduceGE, Int.reduceEq, ↓reduceIte, reduceCtorEq]) ?_
  refine wi_call ?_
  simp only [go_sem, Nat.reduceEqDiff, Nat.reduceAdd, Nat.reduceMul, Nat.reduceSub, Nat.reduceLeDiff, Int.reduceBEq, Int.reduceBNe, Int.reduceLT, Int.reduceLE, Int.reduceGT, Int.reduceGE, Int.reduceEq, ↓reduceIte, reduceCtorEq]
  have k3' : Keeps (fun _ => False) S3 (S3.add .tok) := (Keeps.refl _ S3).add _
  refine append_runs (p := [54, 55, 56]) (d3.stay k3') (by simp) (bytesIn_mk _ _ [54, 55, 56] (by intro h; cases h)) (by simp) fun S4 D4 d4 a4 k4 o4 => ?_
  rw [A3] at a4 ⊢
  have A4 : D4.abs = ⟨[⟨[97], [49, 50, 51, 52, 53, 54, 55, 56], 5⟩], 10, 8, 3, 0, false⟩ := by rw [a4]; kernel_rfl
  have E4 : ((⟨[⟨[97], [49, 50, 51, 52, 53], 5⟩], 10, 5, 2, 0, false⟩ : DS).grow [97] [54, 55, 56] false).1 = 0 := by kernel_rfl
  rw [E4]
  simp only [go_sem, Nat.reduceEqDiff, Nat.reduceAdd, Nat.reduceMul, Nat.reduceSub, Nat.reduceLeDiff, Int.reduceBEq, Int.reduceBNe, Int.reduceLT, Int.reduceLE, Int.reduceGT, Int.reduceGE, Int.reduceEq, ↓reduceIte, reduceCtorEq]
  refine wi_call ?_
  simp only [go_sem, Nat.reduceEqDiff, Nat.reduceAdd, Nat.reduceMul, Nat.reduceSub, Nat.reduceLeDiff, Int.reduceBEq, Int.reduceBNe, Int.reduceLT, Int.reduceLE, Int.reduceGT, Int.reduceGE, Int.reduceEq, ↓reduceIte, reduceCtorEq]
  have L4 : D4.ents.length = 1 := by have := congrArg (fun D : DS => D.files.length) A4; simpa [Dk.abs] using this
  refine restart_runs (keep := [2]) (kt := .cap) d4 (by omega) (by intro h; cases h) fun S5 D5 d5 a5 k5 o5 => ?_
  rw [A4] at a5
  have A5 : D5.abs = ⟨[⟨[97], [49, 50, 51, 52, 53, 54, 55], 7⟩], 10, 7, 3, 0, false⟩ := by
    rw [a5]; kernel_rfl
  simp only [go_sem, Nat.reduceEqDiff, Nat.reduceAdd, Nat.reduceMul, Nat.reduceSub, Nat.reduceLeDiff, Int.reduceBEq, Int.reduceBNe, Int.reduceLT, Int.reduceLE, Int.reduceGT, Int.reduceGE, Int.reduceEq, ↓reduceIte, reduceCtorEq]
  refine wi_call ?_
  simp only [go_sem, Nat.reduceEqDiff, Nat.reduceAdd, Nat.reduceMul, Nat.reduceSub, Nat.reduceLeDiff, Int.reduceBEq, Int.reduceBNe, Int.reduceLT, Int.reduceLE, Int.reduceGT, Int.reduceGE, Int.reduceEq, ↓reduceIte, reduceCtorEq]
  refine sure_abs d5 ?_
  rw [A5]
  have E5 : (⟨[⟨[97], [49, 50, 51, 52, 53, 54, 55], 7⟩], 10, 7, 3, 0, false⟩ : DS).sureOf [97] = 7 := by kernel_rfl
  rw [E5]
  simp only [go_sem, Nat.reduceEqDiff, Nat.reduceAdd, Nat.reduceMul, Nat.reduceSub, Nat.reduceLeDiff, Int.reduceBEq, Int.reduceBNe, Int.reduceLT, Int.reduceLE, Int.reduceGT, Int.reduceGE, Int.reduceEq, ↓reduceIte, reduceCtorEq]
  refine hQ _ ?_
  have O2 : ∀ j, ownD i D2 j → S.n ≤ j := fun j hj => by
    rcases o2 j hj with h | h
    · exact o1 j h
    · exact Nat.le_trans k1.n (Nat.le_trans k1'.n h)
  have K2 := keeps_new (k1.trans k1' fun _ _ h => h) k2 o1
  have O3 : ∀ j, ownD i D3 j → S.n ≤ j := fun j hj => by
    rcases o3 j hj with h | h
    · exact O2 j h
    · exact Nat.le_trans K2.n h
  have K3 := keeps_new K2 k3 O2
  have O4 : ∀ j, ownD i D4 j → S.n ≤ j := fun j hj => by
    rcases o4 j hj with h | h
    · exact O3 j h
    · exact Nat.le_trans K3.n (Nat.le_trans k3'.n h)
  have K4 := keeps_new (K3.trans k3' fun _ _ h => h) k4 O3
  exact keeps_new K4 k5 O4

theorem diskNames_runs {w0 : World} {s : List UInt8} (hs : s.length ≤ 1000000000000000) {S : St} {Q : AEnd → St → Prop} (hQ : ∀ S', Q (.ret (.bool true)) S') : RSim Try.prog w0 n_l02_DiskNames [.str (mkS s)] S Q := by
  refine RSim.run mixed k_l02_DiskNames ?_ (by simp)
  simp only [b_l02_DiskNames, go_sem, Nat.reduceEqDiff, Nat.reduceAdd, Nat.reduceMul, Nat.reduceSub, Nat.reduceLeDiff, Int.reduceBEq, Int.reduceBNe, Int.reduceLT, Int.reduceLE, Int.reduceGT, Int.reduceGE, Int.reduceEq, ↓reduceIte, reduceCtorEq]
  refine wi_call ?_
  simp only [go_sem, Nat.reduceEqDiff, Nat.reduceAdd, Nat.reduceMul, Nat.reduceSub, Nat.reduceLeDiff, Int.reduceBEq, Int.reduceBNe, Int.reduceLT, Int.reduceLE, Int.reduceGT, Int.reduceGE, Int.reduceEq, ↓reduceIte, reduceCtorEq]
  refine diskAwake_runs fun S1 k1 => ?_
  simp only [go_sem, Nat.reduceEqDiff, Nat.reduceAdd, Nat.reduceMul, Nat.reduceSub, Nat.reduceLeDiff, Int.reduceBEq, Int.reduceBNe, Int.reduceLT, Int.reduceLE, Int.reduceGT, Int.reduceGE, Int.reduceEq, ↓reduceIte, reduceCtorEq]
  refine wi_call ?_
  simp only [go_sem, Nat.reduceEqDiff, Nat.reduceAdd, Nat.reduceMul, Nat.reduceSub, Nat.reduceLeDiff, Int.reduceBEq, Int.reduceBNe, Int.reduceLT, Int.reduceLE, Int.reduceGT, Int.reduceGE, Int.reduceEq, ↓reduceIte, reduceCtorEq]
  refine diskName_runs hs ?_
  simp only [go_sem, Nat.reduceEqDiff, Nat.reduceAdd, Nat.reduceMul, Nat.reduceSub, Nat.reduceLeDiff, Int.reduceBEq, Int.reduceBNe, Int.reduceLT, Int.reduceLE, Int.reduceGT, Int.reduceGE, Int.reduceEq, ↓reduceIte, reduceCtorEq]
  refine wi_call ?_
  simp only [go_sem, Nat.reduceEqDiff, Nat.reduceAdd, Nat.reduceMul, Nat.reduceSub, Nat.reduceLeDiff, Int.reduceBEq, Int.reduceBNe, Int.reduceLT, Int.reduceLE, Int.reduceGT, Int.reduceGE, Int.reduceEq, ↓reduceIte, reduceCtorEq]
  refine refName_runs hs ?_
  simp only [go_sem, Nat.reduceEqDiff, Nat.reduceAdd, Nat.reduceMul, Nat.reduceSub, Nat.reduceLeDiff, Int.reduceBEq, Int.reduceBNe, Int.reduceLT, Int.reduceLE, Int.reduceGT, Int.reduceGE, Int.reduceEq, ↓reduceIte, reduceCtorEq]
  exact hQ _
end Go.VM
