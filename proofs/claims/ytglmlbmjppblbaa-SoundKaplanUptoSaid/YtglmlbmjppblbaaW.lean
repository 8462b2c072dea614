/- Keys that are places and pairs. -/
import Derived.Test.YtglmlbmjppblbaaV
import Derived.DeepKeys4
namespace Go.Proofs.Ytglmlbmjppblbaa
open Go.RowKit Go.Kap Go.Maps
set_option maxRecDepth 100000

structure Pl where
  s : Int
  i : Int
  j : Int
  deriving DecidableEq
def plV (p : Pl) : Value := .agg #[.int .i64 p.s, .int .i64 p.i, .int .i64 p.j]
def prV (p : Int × Int) : Value := .agg #[.int .i64 p.1, .int .i64 p.2]
def wfI (x : Int) : Prop := (Lit.int .i64 x).wf = true

theorem laidOutT : laidOutB Try.prog = true := by kernel_rfl
theorem row68 : (68 : TypeId) < Try.prog.types.size := of_decide_eq_true (by kernel_rfl)
theorem row80 : (80 : TypeId) < Try.prog.types.size := of_decide_eq_true (by kernel_rfl)
theorem wide68 : (match Try.prog.underlying 68 with | some (.array _ _) | some (.struct _) => true | _ => false) = true := by kernel_rfl
theorem wide80 : (match Try.prog.underlying 80 with | some (.array _ _) | some (.struct _) => true | _ => false) = true := by kernel_rfl
theorem law68 : Keyed Try.prog 68 := Keyed.of_law (deep_law_laid laidOutT (m := 3) (by omega) row68 (by kernel_rfl) wide68)
theorem law80 : Keyed Try.prog 80 := Keyed.of_law (deep_law_laid laidOutT (m := 3) (by omega) row80 (by kernel_rfl) wide80)
theorem cells68 : Try.prog.cellsOf 68 = 3 := by kernel_rfl
theorem cells80 : Try.prog.cellsOf 80 = 2 := by kernel_rfl
theorem cells3 : Try.prog.cellsOf 3 = 1 := by kernel_rfl
theorem keyT68 : Try.prog.keyType 68 = true := by kernel_rfl
theorem keyT80 : Try.prog.keyType 80 = true := by kernel_rfl
theorem keyOf68 (p : Pl) (h : wfI p.s ∧ wfI p.i ∧ wfI p.j) : ∃ l, Go.keyOf Try.prog 68 (plV p) = some l := by
  obtain ⟨h1, h2, h3⟩ := h
  unfold wfI at h1 h2 h3
  have hs : ∃ m, Try.prog.types.size + 1 = m + 2 := ⟨Try.prog.types.size - 1, by have h0 : (68 : Nat) < Try.prog.types.size := row68; generalize Try.prog.types.size = z at *; omega⟩
  obtain ⟨m, hm⟩ := hs
  unfold Go.keyOf plV
  rw [Try.underlying68, hm]
  simp [keyT68, Value.formed, Try.underlying68, cells68, Program.keyLits, Try.underlying3, Value.cells, cells3, h1, h2, h3]
theorem keyOf80 (p : Int × Int) (h : wfI p.1 ∧ wfI p.2) : ∃ l, Go.keyOf Try.prog 80 (prV p) = some l := by
  obtain ⟨h1, h2⟩ := h
  unfold wfI at h1 h2
  have hs : ∃ m, Try.prog.types.size + 1 = m + 2 := ⟨Try.prog.types.size - 1, by have h0 : (80 : Nat) < Try.prog.types.size := row80; generalize Try.prog.types.size = z at *; omega⟩
  obtain ⟨m, hm⟩ := hs
  unfold Go.keyOf prV
  rw [Try.underlying80, hm]
  simp [keyT80, Value.formed, Try.underlying80, cells80, Program.keyLits, Try.underlying3, Value.cells, cells3, h1, h2, List.range_succ]
def plK : KeyEnc Try.prog 68 Pl where
  enc := plV
  ok := fun p => wfI p.s ∧ wfI p.i ∧ wfI p.j
  key := keyOf68
  inj := fun x y h => by
    unfold plV at h
    injection h with h
    simp at h
    obtain ⟨h1, h2, h3⟩ := h
    cases x; cases y
    simp_all
def prK : KeyEnc Try.prog 80 (Int × Int) where
  enc := prV
  ok := fun p => wfI p.1 ∧ wfI p.2
  key := keyOf80
  inj := fun x y h => by
    unfold prV at h
    injection h with h
    simp at h
    exact Prod.ext h.1 h.2
theorem wfI_of {x : Int} (h0 : 0 ≤ x) (h1 : x ≤ 1000000) : wfI x := WalkArith.wf_i64 (by omega)
theorem info68 : (Try.prog.info? 68).map (fun i => (i.zero, i.size, i.bytes)) = some (some (.agg #[.int .i64 0, .int .i64 0, .int .i64 0]), 3, 24) := by kernel_rfl
theorem info80 : (Try.prog.info? 80).map (fun i => (i.zero, i.size, i.bytes)) = some (some (.agg #[.int .i64 0, .int .i64 0]), 2, 16) := by kernel_rfl
end Go.Proofs.Ytglmlbmjppblbaa
