/-
  NodeTables, walked up to where the node is opened; the rest is run by the kernel, case by case.
-/
import Derived.Test.YthpiomallkidlaaGreatDoorK11
import Derived.Test.YthpiomallkidlaaGreatDoorK09
set_option maxRecDepth 1000000
set_option linter.unusedVariables false
set_option linter.unusedSimpArgs false
namespace Go.VM
open Go Go.Proofs Go.RowKit
def Cd.tl : Cd → Cd
 | .seq _ b => b
 | c => c
def restNT : Cd := b_l20_NodeTables.tl.tl.tl.tl.tl
theorem ntSplit : b_l20_NodeTables = (.seq (.reg [] [fi 8 (.mv (.c (.bool false)))])
   (.seq (.seq (.reg [] [ei 18 (.call 5 []),
    fi 19 (.un .not (.t 18))])
   (.ite (.t 19)
   (.seq (.reg [] [fi 8 (.mv (.c (.bool false)))])
   .ret)
   .skip))
   (.seq (.reg [] [fi 20 (.mv (.t 0)),
    fi 21 (.conv (.int .i64) (.t 20)),
    fi 22 (.bin .rem (.t 21) (.c (.int .i64 5))),
    fi 23 (.bin .add (.c (.int .i64 1)) (.t 22)),
    fi 9 (.mv (.t 23))])
   (.seq (.reg [] [fi 24 (.mv (.t 9)),
    fi 25 (.mv (.t 1)),
    fi 26 (.conv (.int .i64) (.t 25)),
    fi 27 (.bin .rem (.t 26) (.c (.int .i64 8))),
    fi 28 (.bin .add (.c (.int .i64 1)) (.t 27)),
    fi 29 (.mv (.t 2)),
    fi 30 (.conv (.int .i64) (.t 29)),
    fi 31 (.mv (.t 9)),
    fi 32 (.bin .rem (.t 30) (.t 31)),
    fi 33 (.bin .add (.c (.int .i64 1)) (.t 32)),
    fi 34 (.build [(.int .i64 0), (.int .i64 0), (.int .i64 0), (.int .i64 0), (.int .i64 0), (.int .i64 0)] [(0, 1, (.t 24)), (1, 1, (.t 28)), (2, 1, (.t 33)), (3, 1, (.c (.int .i64 1))), (4, 1, (.c (.int .i64 2))), (5, 1, (.c (.int .i64 1048576)))]),
    ei 10 (.alloc [(.int .i64 0), (.int .i64 0), (.int .i64 0), (.int .i64 0), (.int .i64 0), (.int .i64 0)]),
    st (.store 6 (.t 10) (.t 34))])
   (.seq (.reg [] [fi 35 (.mv (.t 3)),
    fi 36 (.conv (.int .i64) (.t 35)),
    fi 37 (.mv (.t 9)),
    fi 38 (.bin .rem (.t 36) (.t 37)),
    fi 11 (.mv (.t 38))])
   restNT))))) := by kernel_rfl
noncomputable def Fr8 (l : List (Nat × V)) : F8 := List.rec (motive := fun _ => F8 → F8) (fun fr => fr) (fun p _ ih fr => ih ((zSet p.1).f p.2 fr)) l F8.nil
theorem Fr8_den {l : List (Nat × V)} (h : l.all (fun p => Nat.blt p.1 512) = true) : (Fr8 l).den = l.foldl (fun fr p => fr.put (some p.1) p.2) fr00 := by
 have key : ∀ (l : List (Nat × V)) (fr : F8), l.all (fun p => Nat.blt p.1 512) = true → F8.den (List.rec (motive := fun _ => F8 → F8) (fun fr => fr) (fun p _ ih fr => ih ((zSet p.1).f p.2 fr)) l fr) = l.foldl (fun fr p => fr.put (some p.1) p.2) fr.den := by
  intro l
  induction l with
  | nil => intro fr _; rfl
  | cons p l ih =>
   intro fr h
   rw [List.all_cons, Bool.and_eq_true] at h
   rw [List.foldl_cons, ← F8.set_den (blt_n h.1)]
   exact ih _ h.2
 have e : F8.nil.den = fr00 := F8.nil_den
 rw [← e]
 exact key l F8.nil h
def iV (n : Nat) : V := .int .i64 (.ofNat n)
def ntSlots (a b c d : Int) (n s cc k : Nat) : List (Nat × V) := [(0, .int .u8 a), (1, .int .u8 b), (2, .int .u8 c), (3, .int .u8 d), (8, .bool false), (18, .bool true), (19, .bool false), (20, .int .u8 a), (21, .int .i64 a), (22, iV (Nat.pred n)), (23, iV n), (9, iV n), (24, iV n), (25, .int .u8 b), (26, .int .i64 b), (27, iV (Nat.pred s)), (28, iV s), (29, .int .u8 c), (30, .int .i64 c), (31, iV n), (32, iV (Nat.pred cc)), (33, iV cc), (34, .agg [iV n, iV s, iV cc, iV 1, iV 2, iV 1048576]), (10, .ptr (some (1000, 0))), (35, .int .u8 d), (36, .int .i64 d), (37, iV n), (38, iV k), (11, iV k)]
def ntStore (n s cc : Nat) : CSt := ((⟨Hp.nil, 1000⟩ : CSt).add (.cells [iV 0, iV 0, iV 0, iV 0, iV 0, iV 0])).set 1000 (.cells [iV n, iV s, iV cc, iV 1, iV 2, iV 1048576])
noncomputable def kNT : KD := fun e fr _ => AX.rec (motive := fun _ => Bool) false (fun _ => false) (asBool ((zGet 8).f fr) fun b => b) e
noncomputable def okNT (a b c d : Int) (n s cc k : Nat) : Bool := (zC restNT).f (zCall tabT.get primT 40) (Fr8 (ntSlots a b c d n s cc k)) (ntStore n s cc) kNT
noncomputable def okK (a b c d : Int) (n s cc m : Nat) : Bool := Nat.rec (motive := fun _ => Bool) true (fun k ih => cnd (okNT a b c d n s cc k) ih false) m
theorem okK_ok {a b c d : Int} {n s cc k : Nat} : ∀ {m : Nat}, okK a b c d n s cc m = true → k < m → okNT a b c d n s cc k = true
 | 0, _, h => by omega
 | m + 1, h, hk => by
  have h' : cnd (okNT a b c d n s cc m) (okK a b c d n s cc m) false = true := h
  obtain ⟨h1, h2⟩ := cond_f h'
  by_cases e : k = m
  ·rw [e]; exact h1
  ·exact okK_ok h2 (by omega)
abbrev Is (b : Bool) : Prop := (Bool.rec (motive := fun _ => Prop) False True b : Prop) = True
theorem Is.ok {b : Bool} (h : Is b) : b = true := by
 cases b
 ·exact (cast h.symm trivial : False).elim
 ·rfl
end Go.VM
