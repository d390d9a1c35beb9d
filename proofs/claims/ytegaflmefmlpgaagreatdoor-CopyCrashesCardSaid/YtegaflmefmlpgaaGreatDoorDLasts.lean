/-
  DiskLasts: the plain law. NEWPP
-/
import Derived.Test.YtegaflmefmlpgaaGreatDoorDOff
set_option linter.unusedVariables false
set_option linter.unusedSimpArgs false
namespace Go.VM
open Go Go.RowKit Go.Proofs

def LastsEnd (f s t : List UInt8) (keep : List Int) (e3 e4 : Int) (D : DS) : Prop :=
  ¬ (e4 = 0 ∧ e3 ≠ 0) ∧ (D.restart keep).readE [97] = 0 ∧ (∃ n, n ≤ s.length ∧ (D.restart keep).bytes [97] = f ++ s.take n) ∧ (e4 = 0 → (D.restart keep).readE [99] = 0 ∧ (D.restart keep).bytes [99] = t) ∧ (e4 ≠ 0 → (D.restart keep).readE [99] = 8 ∧ (D.restart keep).bytes [99] = []) ∧ D.files.length ≤ 2
def LastsOk (f s t : List UInt8) (keep : List Int) (D : DS) : Prop :=
  LastsEnd f s t keep ((((D.grow [97] s false).2).grow [98] t true).2.sync [98]).1 (((((D.grow [97] s false).2).grow [98] t true).2.sync [98]).2.rename [98] [99]).1 (((((D.grow [97] s false).2).grow [98] t true).2.sync [98]).2.rename [98] [99]).2

theorem rename_ok {D D' : DS} {s t : List UInt8} {e : Int} (hn : nameOk s = true) (ht : nameOk t = true) (hst : s ≠ t) (h : ¬ (D.off = false ∧ ∃ x, findF s D.files = some x ∧ x.sure < x.p.length)) (hc : D.change s (renF s t) = (e, D')) : D.rename s t = (e, D') := by
  unfold DS.rename; rw [if_neg (by simp [hn, ht]), if_neg hst, if_neg h, hc]

theorem cut_a (f s : List UInt8) (keep : List Int) (j : Nat) : ∃ n, n ≤ s.length ∧ cutF keep j ⟨[97], f ++ s, f.length⟩ = ⟨[97], f ++ s.take n, f.length + n⟩ := by
  obtain ⟨h0, h1⟩ := keepI_le keep j ⟨[97], f ++ s, f.length⟩ (by simp)
  simp at h1
  refine ⟨(keepI keep j ⟨[97], f ++ s, f.length⟩).toNat, by omega, ?_⟩
  simp only [cutF, List.take_length_add_append]
theorem lasts_one (f s t : List UInt8) (keep : List Int) {room used ops arm : Int} {off : Bool} : LastsEnd f s t keep 10 10 ⟨[⟨[97], f ++ s, f.length⟩], room, used, ops, arm, off⟩ := by
  have hN : (⟨[⟨[97], f ++ s, f.length⟩], room, used, ops, arm, off⟩ : DS).names = [[97]] := List.mergeSort_singleton _
  obtain ⟨n, hn, hc⟩ := cut_a f s keep 0
  have hA : nameOk [97] = true := by decide
  have hC : nameOk [99] = true := by decide
  have hfiles : ((⟨[⟨[97], f ++ s, f.length⟩], room, used, ops, arm, off⟩ : DS).restart keep).files = [⟨[97], f ++ s.take n, f.length + n⟩] := by
    unfold DS.restart
    rw [hN]
    simp only [runR, stepR, findF, if_true, putF]
    rw [hc]; simp
  have hoff : ((⟨[⟨[97], f ++ s, f.length⟩], room, used, ops, arm, off⟩ : DS).restart keep).off = false := rfl
  refine ⟨by decide, ?_, ⟨n, hn, ?_⟩, fun h => absurd h (by decide), fun _ => ?_, by simp⟩
  · simp [DS.readE, hA, hoff, hfiles, findF]
  · simp [DS.bytes, hA, hoff, hfiles, findF]
  · simp [DS.readE, DS.bytes, hC, hoff, hfiles, findF]
theorem names_two {a b : List UInt8} (h : a < b) : sortS [a, b] = [a, b] := by
  refine List.mergeSort_of_pairwise ?_
  simp [leB]
  exact List.le_of_lt h
theorem lasts_two (f s t : List UInt8) (keep : List Int) (name : List UInt8) (sure : Nat) (e3 e4 : Int) {room used ops arm : Int} {off : Bool} (hlt : [97] < name) (hne : name ≠ [97]) (hs : sure ≤ t.length) (h1 : ¬ (e4 = 0 ∧ e3 ≠ 0)) (h2 : e4 = 0 → name = [99] ∧ sure = t.length) (h3 : e4 ≠ 0 → name ≠ [99]) :
    LastsEnd f s t keep e3 e4 ⟨[⟨[97], f ++ s, f.length⟩, ⟨name, t, sure⟩], room, used, ops, arm, off⟩ := by
  have hN : (⟨[⟨[97], f ++ s, f.length⟩, ⟨name, t, sure⟩], room, used, ops, arm, off⟩ : DS).names = [[97], name] := names_two hlt
  obtain ⟨n, hn, hc⟩ := cut_a f s keep 0
  have hA : nameOk [97] = true := by decide
  have hC : nameOk [99] = true := by decide
  have hne' : ¬ [97] = name := fun e => hne e.symm
  have hfiles : ((⟨[⟨[97], f ++ s, f.length⟩, ⟨name, t, sure⟩], room, used, ops, arm, off⟩ : DS).restart keep).files = [⟨[97], f ++ s.take n, f.length + n⟩, cutF keep 1 ⟨name, t, sure⟩] := by
    unfold DS.restart
    rw [hN]
    simp only [runR, stepR, findF, if_true, putF, hc]
    simp [putF, findF, hne', cutF]
  have hoff : ((⟨[⟨[97], f ++ s, f.length⟩, ⟨name, t, sure⟩], room, used, ops, arm, off⟩ : DS).restart keep).off = false := rfl
  have hcn : (cutF keep 1 ⟨name, t, sure⟩).name = name := rfl
  refine ⟨h1, ?_, ⟨n, hn, ?_⟩, fun h => ?_, fun h => ?_, by simp⟩
  · simp [DS.readE, hA, hoff, hfiles, findF]
  · simp [DS.bytes, hA, hoff, hfiles, findF]
  · obtain ⟨rfl, rfl⟩ := h2 h
    have : (cutF keep 1 ⟨[99], t, t.length⟩).p = t := by
      simp only [cutF]
      exact List.take_of_length_le (by omega)
    simp [DS.readE, DS.bytes, hC, hoff, hfiles, findF, hcn, this]
  · have := h3 h
    simp [DS.readE, DS.bytes, hC, hoff, hfiles, findF, hcn, this]
theorem lasts0 (f s t : List UInt8) (keep : List Int) (hl : f.length + s.length + t.length ≤ 3000) : LastsOk f s t keep ⟨[⟨[97], f, f.length⟩], 10000, 0 + (f.length : Int), 2, 0, false⟩ := by
  have e1 : (⟨[⟨[97], f, f.length⟩], 10000, 0 + (f.length : Int), 2, 0, false⟩ : DS).grow [97] s false = (0, ⟨[⟨[97], f ++ s, f.length⟩], 10000, 0 + (f.length : Int) + s.length, 3, 0, false⟩) := by rw [grow_done (by decide) rfl (by simp) (by simp only; omega)]; rfl
  have e2 : (⟨[⟨[97], f ++ s, f.length⟩], 10000, 0 + (f.length : Int) + s.length, 3, 0, false⟩ : DS).grow [98] t true = (0, ⟨[⟨[97], f ++ s, f.length⟩, ⟨[98], t, 0⟩], 10000, 0 + (f.length : Int) + s.length + t.length, 4, 0, false⟩) := by rw [grow_done (by decide) rfl (by simp [findF]) (by simp only; omega)]; rfl
  have e3 : (⟨[⟨[97], f ++ s, f.length⟩, ⟨[98], t, 0⟩], 10000, 0 + (f.length : Int) + s.length + t.length, 4, 0, false⟩ : DS).sync [98] = (0, ⟨[⟨[97], f ++ s, f.length⟩, ⟨[98], t, t.length⟩], 10000, 0 + (f.length : Int) + s.length + t.length, 5, 0, false⟩) := rfl
  have e4 : (⟨[⟨[97], f ++ s, f.length⟩, ⟨[98], t, t.length⟩], 10000, 0 + (f.length : Int) + s.length + t.length, 5, 0, false⟩ : DS).rename [98] [99] = (0, ⟨[⟨[97], f ++ s, f.length⟩, ⟨[99], t, t.length⟩], 10000, 0 + (f.length : Int) + s.length + t.length, 6, 0, false⟩) := rename_ok (by decide) (by decide) (by decide) (by rintro ⟨_, x, hx, hx2⟩; cases hx; exact absurd hx2 (Nat.lt_irrefl _)) rfl
  unfold LastsOk; simp only [e1, e2, e3, e4]
  exact lasts_two f s t keep [99] t.length 0 0 (by decide) (by decide) (by omega) (by decide) (by simp) (by simp)
theorem lasts1 (f s t : List UInt8) (keep : List Int) (hl : f.length + s.length + t.length ≤ 3000) : LastsOk f s t keep ⟨[⟨[97], f, f.length⟩], 10000, 0 + (f.length : Int), 2, 1, false⟩ := by
  have e1 : (⟨[⟨[97], f, f.length⟩], 10000, 0 + (f.length : Int), 2, 1, false⟩ : DS).grow [97] s false = (10, ⟨[⟨[97], f ++ s, f.length⟩], 10000, 0 + (f.length : Int) + s.length, 3, 0, true⟩) := by rw [grow_done (by decide) rfl (by simp) (by simp only; omega)]; rfl
  have e2 : (⟨[⟨[97], f ++ s, f.length⟩], 10000, 0 + (f.length : Int) + s.length, 3, 0, true⟩ : DS).grow [98] t true = (10, ⟨[⟨[97], f ++ s, f.length⟩], 10000, 0 + (f.length : Int) + s.length, 3, 0, true⟩) := grow_off (by decide) rfl
  have e3 : (⟨[⟨[97], f ++ s, f.length⟩], 10000, 0 + (f.length : Int) + s.length, 3, 0, true⟩ : DS).sync [98] = (10, ⟨[⟨[97], f ++ s, f.length⟩], 10000, 0 + (f.length : Int) + s.length, 3, 0, true⟩) := change_off _ (by decide) rfl
  have e4 : (⟨[⟨[97], f ++ s, f.length⟩], 10000, 0 + (f.length : Int) + s.length, 3, 0, true⟩ : DS).rename [98] [99] = (10, ⟨[⟨[97], f ++ s, f.length⟩], 10000, 0 + (f.length : Int) + s.length, 3, 0, true⟩) := rename_off (by decide) (by decide) (by decide) rfl
  unfold LastsOk; simp only [e1, e2, e3, e4]
  exact lasts_one f s t keep
theorem lasts2 (f s t : List UInt8) (keep : List Int) (hl : f.length + s.length + t.length ≤ 3000) : LastsOk f s t keep ⟨[⟨[97], f, f.length⟩], 10000, 0 + (f.length : Int), 2, 2, false⟩ := by
  have e1 : (⟨[⟨[97], f, f.length⟩], 10000, 0 + (f.length : Int), 2, 2, false⟩ : DS).grow [97] s false = (0, ⟨[⟨[97], f ++ s, f.length⟩], 10000, 0 + (f.length : Int) + s.length, 3, 1, false⟩) := by rw [grow_done (by decide) rfl (by simp) (by simp only; omega)]; rfl
  have e2 : (⟨[⟨[97], f ++ s, f.length⟩], 10000, 0 + (f.length : Int) + s.length, 3, 1, false⟩ : DS).grow [98] t true = (10, ⟨[⟨[97], f ++ s, f.length⟩, ⟨[98], t, 0⟩], 10000, 0 + (f.length : Int) + s.length + t.length, 4, 0, true⟩) := by rw [grow_done (by decide) rfl (by simp [findF]) (by simp only; omega)]; rfl
  have e3 : (⟨[⟨[97], f ++ s, f.length⟩, ⟨[98], t, 0⟩], 10000, 0 + (f.length : Int) + s.length + t.length, 4, 0, true⟩ : DS).sync [98] = (10, ⟨[⟨[97], f ++ s, f.length⟩, ⟨[98], t, 0⟩], 10000, 0 + (f.length : Int) + s.length + t.length, 4, 0, true⟩) := change_off _ (by decide) rfl
  have e4 : (⟨[⟨[97], f ++ s, f.length⟩, ⟨[98], t, 0⟩], 10000, 0 + (f.length : Int) + s.length + t.length, 4, 0, true⟩ : DS).rename [98] [99] = (10, ⟨[⟨[97], f ++ s, f.length⟩, ⟨[98], t, 0⟩], 10000, 0 + (f.length : Int) + s.length + t.length, 4, 0, true⟩) := rename_off (by decide) (by decide) (by decide) rfl
  unfold LastsOk; simp only [e1, e2, e3, e4]
  exact lasts_two f s t keep [98] 0 10 10 (by decide) (by decide) (by omega) (by decide) (by simp) (by simp)
theorem lasts3 (f s t : List UInt8) (keep : List Int) (hl : f.length + s.length + t.length ≤ 3000) : LastsOk f s t keep ⟨[⟨[97], f, f.length⟩], 10000, 0 + (f.length : Int), 2, 3, false⟩ := by
  have e1 : (⟨[⟨[97], f, f.length⟩], 10000, 0 + (f.length : Int), 2, 3, false⟩ : DS).grow [97] s false = (0, ⟨[⟨[97], f ++ s, f.length⟩], 10000, 0 + (f.length : Int) + s.length, 3, 2, false⟩) := by rw [grow_done (by decide) rfl (by simp) (by simp only; omega)]; rfl
  have e2 : (⟨[⟨[97], f ++ s, f.length⟩], 10000, 0 + (f.length : Int) + s.length, 3, 2, false⟩ : DS).grow [98] t true = (0, ⟨[⟨[97], f ++ s, f.length⟩, ⟨[98], t, 0⟩], 10000, 0 + (f.length : Int) + s.length + t.length, 4, 1, false⟩) := by rw [grow_done (by decide) rfl (by simp [findF]) (by simp only; omega)]; rfl
  have e3 : (⟨[⟨[97], f ++ s, f.length⟩, ⟨[98], t, 0⟩], 10000, 0 + (f.length : Int) + s.length + t.length, 4, 1, false⟩ : DS).sync [98] = (10, ⟨[⟨[97], f ++ s, f.length⟩, ⟨[98], t, 0⟩], 10000, 0 + (f.length : Int) + s.length + t.length, 5, 0, true⟩) := rfl
  have e4 : (⟨[⟨[97], f ++ s, f.length⟩, ⟨[98], t, 0⟩], 10000, 0 + (f.length : Int) + s.length + t.length, 5, 0, true⟩ : DS).rename [98] [99] = (10, ⟨[⟨[97], f ++ s, f.length⟩, ⟨[98], t, 0⟩], 10000, 0 + (f.length : Int) + s.length + t.length, 5, 0, true⟩) := rename_off (by decide) (by decide) (by decide) rfl
  unfold LastsOk; simp only [e1, e2, e3, e4]
  exact lasts_two f s t keep [98] 0 10 10 (by decide) (by decide) (by omega) (by decide) (by simp) (by simp)
theorem lasts4 (f s t : List UInt8) (keep : List Int) (hl : f.length + s.length + t.length ≤ 3000) : LastsOk f s t keep ⟨[⟨[97], f, f.length⟩], 10000, 0 + (f.length : Int), 2, 4, false⟩ := by
  have e1 : (⟨[⟨[97], f, f.length⟩], 10000, 0 + (f.length : Int), 2, 4, false⟩ : DS).grow [97] s false = (0, ⟨[⟨[97], f ++ s, f.length⟩], 10000, 0 + (f.length : Int) + s.length, 3, 3, false⟩) := by rw [grow_done (by decide) rfl (by simp) (by simp only; omega)]; rfl
  have e2 : (⟨[⟨[97], f ++ s, f.length⟩], 10000, 0 + (f.length : Int) + s.length, 3, 3, false⟩ : DS).grow [98] t true = (0, ⟨[⟨[97], f ++ s, f.length⟩, ⟨[98], t, 0⟩], 10000, 0 + (f.length : Int) + s.length + t.length, 4, 2, false⟩) := by rw [grow_done (by decide) rfl (by simp [findF]) (by simp only; omega)]; rfl
  have e3 : (⟨[⟨[97], f ++ s, f.length⟩, ⟨[98], t, 0⟩], 10000, 0 + (f.length : Int) + s.length + t.length, 4, 2, false⟩ : DS).sync [98] = (0, ⟨[⟨[97], f ++ s, f.length⟩, ⟨[98], t, t.length⟩], 10000, 0 + (f.length : Int) + s.length + t.length, 5, 1, false⟩) := rfl
  have e4 : (⟨[⟨[97], f ++ s, f.length⟩, ⟨[98], t, t.length⟩], 10000, 0 + (f.length : Int) + s.length + t.length, 5, 1, false⟩ : DS).rename [98] [99] = (10, ⟨[⟨[97], f ++ s, f.length⟩, ⟨[98], t, t.length⟩], 10000, 0 + (f.length : Int) + s.length + t.length, 6, 0, true⟩) := rename_ok (by decide) (by decide) (by decide) (by rintro ⟨_, x, hx, hx2⟩; cases hx; exact absurd hx2 (Nat.lt_irrefl _)) rfl
  unfold LastsOk; simp only [e1, e2, e3, e4]
  exact lasts_two f s t keep [98] t.length 0 10 (by decide) (by decide) (by omega) (by decide) (by simp) (by simp)
theorem lasts5 (f s t : List UInt8) (keep : List Int) (hl : f.length + s.length + t.length ≤ 3000) : LastsOk f s t keep ⟨[⟨[97], f, f.length⟩], 10000, 0 + (f.length : Int), 2, 5, false⟩ := by
  have e1 : (⟨[⟨[97], f, f.length⟩], 10000, 0 + (f.length : Int), 2, 5, false⟩ : DS).grow [97] s false = (0, ⟨[⟨[97], f ++ s, f.length⟩], 10000, 0 + (f.length : Int) + s.length, 3, 4, false⟩) := by rw [grow_done (by decide) rfl (by simp) (by simp only; omega)]; rfl
  have e2 : (⟨[⟨[97], f ++ s, f.length⟩], 10000, 0 + (f.length : Int) + s.length, 3, 4, false⟩ : DS).grow [98] t true = (0, ⟨[⟨[97], f ++ s, f.length⟩, ⟨[98], t, 0⟩], 10000, 0 + (f.length : Int) + s.length + t.length, 4, 3, false⟩) := by rw [grow_done (by decide) rfl (by simp [findF]) (by simp only; omega)]; rfl
  have e3 : (⟨[⟨[97], f ++ s, f.length⟩, ⟨[98], t, 0⟩], 10000, 0 + (f.length : Int) + s.length + t.length, 4, 3, false⟩ : DS).sync [98] = (0, ⟨[⟨[97], f ++ s, f.length⟩, ⟨[98], t, t.length⟩], 10000, 0 + (f.length : Int) + s.length + t.length, 5, 2, false⟩) := rfl
  have e4 : (⟨[⟨[97], f ++ s, f.length⟩, ⟨[98], t, t.length⟩], 10000, 0 + (f.length : Int) + s.length + t.length, 5, 2, false⟩ : DS).rename [98] [99] = (0, ⟨[⟨[97], f ++ s, f.length⟩, ⟨[99], t, t.length⟩], 10000, 0 + (f.length : Int) + s.length + t.length, 6, 1, false⟩) := rename_ok (by decide) (by decide) (by decide) (by rintro ⟨_, x, hx, hx2⟩; cases hx; exact absurd hx2 (Nat.lt_irrefl _)) rfl
  unfold LastsOk; simp only [e1, e2, e3, e4]
  exact lasts_two f s t keep [99] t.length 0 0 (by decide) (by decide) (by omega) (by decide) (by simp) (by simp)
theorem lasts6 (f s t : List UInt8) (keep : List Int) (hl : f.length + s.length + t.length ≤ 3000) : LastsOk f s t keep ⟨[⟨[97], f, f.length⟩], 10000, 0 + (f.length : Int), 2, 6, false⟩ := by
  have e1 : (⟨[⟨[97], f, f.length⟩], 10000, 0 + (f.length : Int), 2, 6, false⟩ : DS).grow [97] s false = (0, ⟨[⟨[97], f ++ s, f.length⟩], 10000, 0 + (f.length : Int) + s.length, 3, 5, false⟩) := by rw [grow_done (by decide) rfl (by simp) (by simp only; omega)]; rfl
  have e2 : (⟨[⟨[97], f ++ s, f.length⟩], 10000, 0 + (f.length : Int) + s.length, 3, 5, false⟩ : DS).grow [98] t true = (0, ⟨[⟨[97], f ++ s, f.length⟩, ⟨[98], t, 0⟩], 10000, 0 + (f.length : Int) + s.length + t.length, 4, 4, false⟩) := by rw [grow_done (by decide) rfl (by simp [findF]) (by simp only; omega)]; rfl
  have e3 : (⟨[⟨[97], f ++ s, f.length⟩, ⟨[98], t, 0⟩], 10000, 0 + (f.length : Int) + s.length + t.length, 4, 4, false⟩ : DS).sync [98] = (0, ⟨[⟨[97], f ++ s, f.length⟩, ⟨[98], t, t.length⟩], 10000, 0 + (f.length : Int) + s.length + t.length, 5, 3, false⟩) := rfl
  have e4 : (⟨[⟨[97], f ++ s, f.length⟩, ⟨[98], t, t.length⟩], 10000, 0 + (f.length : Int) + s.length + t.length, 5, 3, false⟩ : DS).rename [98] [99] = (0, ⟨[⟨[97], f ++ s, f.length⟩, ⟨[99], t, t.length⟩], 10000, 0 + (f.length : Int) + s.length + t.length, 6, 2, false⟩) := rename_ok (by decide) (by decide) (by decide) (by rintro ⟨_, x, hx, hx2⟩; cases hx; exact absurd hx2 (Nat.lt_irrefl _)) rfl
  unfold LastsOk; simp only [e1, e2, e3, e4]
  exact lasts_two f s t keep [99] t.length 0 0 (by decide) (by decide) (by omega) (by decide) (by simp) (by simp)
end Go.VM
