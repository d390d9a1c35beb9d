/-
  Sure and Read by what the disk is as plain data; awake; DiskNames. NEWPP
-/
import Derived.Test.YtegaflmefmlpgaaGreatDoorDRestart
set_option linter.unusedVariables false
set_option linter.unusedSimpArgs false
namespace Go.VM
open Go Go.RowKit Go.Proofs

def DS.sureOf (D : DS) (s : List UInt8) : Int := match findF s D.files with | some x => x.sure | none => 0
def DS.readE (D : DS) (s : List UInt8) : Int := if nameOk s = false then 1 else if D.off = true then 10 else match findF s D.files with | some _ => 0 | none => 8
def DS.bytes (D : DS) (s : List UInt8) : List UInt8 := if nameOk s = false then [] else if D.off = true then [] else match findF s D.files with | some x => x.p | none => []
theorem read_abs {w0 : World} {S : St} {Q : AEnd → St → Prop} {i : Nat} {D : Dk} {s : List UInt8} (h : DiskAt S i D) (hl : s.length ≤ 1000000000000000)
    (hQ : ∀ S' v, IsBytes v (D.abs.bytes s) → Keeps (fun _ => False) S S' → Q (.ret (.tup [v, .int .i64 (D.abs.readE s)])) S') : RSim Tryz.prog w0 n_disk_Disk_Read [.ptr (some (i, 0)), .str (mkS s)] S Q := by
  refine read_runs h hl (fun a e b S' v hn ho he hs ha hv k => ?_) fun hno => ?_
  · have : findF s D.abs.files = some e.file := by simp only [Dk.abs, he]; exact findF_some hs ha
    have ho' : D.abs.off = false := ho
    simp only [DS.bytes, DS.readE, hn, ho', this, if_false, reduceCtorEq] at hQ
    exact hQ S' v hv k
  · have hq := hQ S (.sl [] 0 1 .nil)
    simp only [DS.bytes, DS.readE] at hq
    by_cases h1 : nameOk s = false
    · simp only [h1, if_true, Dk.thereE] at hq ⊢
      exact hq isBytes_nil (Keeps.refl _ _)
    · by_cases h2 : D.off = true
      · have h2' : D.abs.off = true := h2
        simp only [h1, h2, h2', if_true, if_false, Dk.thereE] at hq ⊢
        exact hq isBytes_nil (Keeps.refl _ _)
      · have h2' : ¬ D.abs.off = true := h2
        have h3 : ∀ x ∈ D.ents, x.name ≠ s := by
          rcases hno with h | h | h
          · exact absurd h h1
          · exact absurd h h2
          · exact h
        have : findF s D.abs.files = none := findF_none h3
        simp only [h1, h2, h2', if_false, Dk.thereE, this] at hq ⊢
        exact hq isBytes_nil (Keeps.refl _ _)

theorem bytesIn_mk (S : St) (o : Nat → Prop) (bs : List UInt8) {t : Tok} (h : t ≠ .nil) : BytesIn S o (.sl (bs.map u8V) bs.length 1 t) bs := (isBytes_mk bs h).into S o
theorem keeps_new {S S1 S2 : St} {o : Nat → Prop} (h : Keeps (fun _ => False) S S1) (k : Keeps o S1 S2) (ho : ∀ j, o j → S.n ≤ j) : Keeps (fun _ => False) S S2 :=
  h.trans k fun j hj h' => by have := ho j h'; omega

end Go.VM
