/- Machines in memory; machine.Check of a right one. -/
import Derived.Test.YtglmlbmjppblbaaS
import Derived.Maps.RangeWalk
namespace Go.Proofs.Ytglmlbmjppblbaa
open Go.RowKit Go.Kap Go.Maps
set_option maxRecDepth 100000

def arcD : ArcM := ⟨0, 0, 0, 0⟩
/-- The five cells of an arc. -/
structure ArcAtM (w : World) (b off : Nat) (a : ArcM) : Prop where
  c0 : w.cell? ⟨b, off, none⟩ = some (.int .i64 a.f)
  c1 : w.cell? ⟨b, off + 1, none⟩ = some (.int .i64 a.t)
  c2 : w.cell? ⟨b, off + 2, none⟩ = some (.int .i64 a.i)
  c3 : w.cell? ⟨b, off + 3, none⟩ = some (.int .i64 a.o)
  c4 : w.cell? ⟨b, off + 4, none⟩ = some (.int .i64 0)
theorem ArcAtM.new_ {w w' : World} {b off : Nat} {a : ArcM} (h : ArcAtM w b off a) (hn : New w w') : ArcAtM w' b off a :=
  ⟨hn.cell_ h.c0, hn.cell_ h.c1, hn.cell_ h.c2, hn.cell_ h.c3, hn.cell_ h.c4⟩
/-- The slice reads as these arcs. -/
def ArcsV (w : World) (A : Option Addr) (n c : Nat) (l : List ArcM) : Prop :=
  l.length = n ∧ (n ≤ c ∧ c ≤ 9223372036854775807) ∧ (0 < n → ∃ b off, A = some ⟨b, off, none⟩ ∧ ∀ j, j < n → ArcAtM w b (off + j * 5) (l.getD j arcD))
def FinsV (w : World) (A : Option Addr) (n c : Nat) (l : List Int) : Prop :=
  l.length = n ∧ (n ≤ c ∧ c ≤ 9223372036854775807) ∧ (0 < n → ∃ b off, A = some ⟨b, off, none⟩ ∧ ∀ j, j < n → w.cell? ⟨b, off + j * 2, none⟩ = some (.int .i64 (l.getD j 0)) ∧ w.cell? ⟨b, off + j * 2 + 1, none⟩ = some (.int .i64 0))
theorem ArcsV.new_ {w w' : World} {A : Option Addr} {n c : Nat} {l : List ArcM} (h : ArcsV w A n c l) (hn : New w w') : ArcsV w' A n c l :=
  ⟨h.1, h.2.1, fun h0 => by
    obtain ⟨b, off, e, hc⟩ := h.2.2 h0
    exact ⟨b, off, e, fun j hj => (hc j hj).new_ hn⟩⟩
theorem FinsV.new_ {w w' : World} {A : Option Addr} {n c : Nat} {l : List Int} (h : FinsV w A n c l) (hn : New w w') : FinsV w' A n c l :=
  ⟨h.1, h.2.1, fun h0 => by
    obtain ⟨b, off, e, hc⟩ := h.2.2 h0
    exact ⟨b, off, e, fun j hj => ⟨hn.cell_ (hc j hj).1, hn.cell_ (hc j hj).2⟩⟩⟩
theorem arcCells_len (l : List ArcM) : (arcCells l).length = l.length * 5 := by
  induction l with
  | nil => rfl
  | cons a r ih =>
    have : arcCells (a :: r) = [.int .i64 a.f, .int .i64 a.t, .int .i64 a.i, .int .i64 a.o, .int .i64 0] ++ arcCells r := rfl
    rw [this, List.length_append, ih]
    simp
    omega
theorem arcCells_get : ∀ (l : List ArcM) (j : Nat), j < l.length → (arcCells l)[j * 5]? = some (.int .i64 (l.getD j arcD).f) ∧ (arcCells l)[j * 5 + 1]? = some (.int .i64 (l.getD j arcD).t) ∧ (arcCells l)[j * 5 + 2]? = some (.int .i64 (l.getD j arcD).i) ∧
    (arcCells l)[j * 5 + 3]? = some (.int .i64 (l.getD j arcD).o) ∧ (arcCells l)[j * 5 + 4]? = some (.int .i64 0)
  | [], j, h => by simp at h
  | a :: r, 0, _ => by
    have : arcCells (a :: r) = [.int .i64 a.f, .int .i64 a.t, .int .i64 a.i, .int .i64 a.o, .int .i64 0] ++ arcCells r := rfl
    rw [this]
    exact ⟨rfl, rfl, rfl, rfl, rfl⟩
  | a :: r, j + 1, h => by
    have ih := arcCells_get r j (by simpa using h)
    have : arcCells (a :: r) = [.int .i64 a.f, .int .i64 a.t, .int .i64 a.i, .int .i64 a.o, .int .i64 0] ++ arcCells r := rfl
    rw [this]
    have e : ∀ k, ([Value.int .i64 a.f, .int .i64 a.t, .int .i64 a.i, .int .i64 a.o, .int .i64 0] ++ arcCells r)[(j + 1) * 5 + k]? = (arcCells r)[j * 5 + k]? := by
      intro k
      rw [List.getElem?_append_right (by simp; omega)]
      congr 1
      simp
      omega
    exact ⟨by rw [← Nat.add_zero ((j + 1) * 5), e]; exact ih.1, by rw [e]; exact ih.2.1, by rw [e]; exact ih.2.2.1, by rw [e]; exact ih.2.2.2.1, by rw [e]; exact ih.2.2.2.2⟩
theorem finCells_get : ∀ (l : List Int) (j : Nat), j < l.length → (finCells l)[j * 2]? = some (.int .i64 (l.getD j 0)) ∧ (finCells l)[j * 2 + 1]? = some (.int .i64 0)
  | [], j, h => by simp at h
  | a :: r, 0, _ => by
    have : finCells (a :: r) = [.int .i64 a, .int .i64 0] ++ finCells r := rfl
    rw [this]
    exact ⟨rfl, rfl⟩
  | a :: r, j + 1, h => by
    have ih := finCells_get r j (by simpa using h)
    have : finCells (a :: r) = [.int .i64 a, .int .i64 0] ++ finCells r := rfl
    rw [this]
    have e : ∀ k, ([Value.int .i64 a, .int .i64 0] ++ finCells r)[(j + 1) * 2 + k]? = (finCells r)[j * 2 + k]? := by
      intro k
      rw [List.getElem?_append_right (by simp; omega)]
      congr 1
      simp
      omega
    exact ⟨by rw [← Nat.add_zero ((j + 1) * 2), e]; exact ih.1, by rw [e]; exact ih.2⟩
theorem Row.arcsV {w : World} {base n : Nat} {v : Value} {l : List ArcM} (h : Row w base 72 5 v n (arcCells l)) : ∃ A c, v = .slice A n c ∧ ArcsV w A n c l := by
  obtain ⟨A, c, rfl, h1, h2, _⟩ := h.len
  have hl : l.length = n := by have := h.1; rw [arcCells_len] at this; omega
  refine ⟨A, c, rfl, hl, ⟨h1, by simpa [maxLen] using h2⟩, fun h0 => ?_⟩
  obtain ⟨g, off, rfl, _, _, hc⟩ := h.cell h0
  refine ⟨g, off, rfl, fun j hj => ?_⟩
  obtain ⟨e0, e1, e2, e3, e4⟩ := arcCells_get l j (by omega)
  exact ⟨by rw [hc _ (by omega)]; exact e0, by rw [Nat.add_assoc, hc _ (by omega)]; exact e1, by rw [Nat.add_assoc, hc _ (by omega)]; exact e2, by rw [Nat.add_assoc, hc _ (by omega)]; exact e3, by rw [Nat.add_assoc, hc _ (by omega)]; exact e4⟩
theorem Row.finsV {w : World} {base n : Nat} {v : Value} {l : List Int} (h : Row w base 75 2 v n (finCells l)) : ∃ A c, v = .slice A n c ∧ FinsV w A n c l := by
  obtain ⟨A, c, rfl, h1, h2, _⟩ := h.len
  have hl : l.length = n := by
    have := h.1
    have e : (finCells l).length = l.length * 2 := by
      clear h this
      induction l with
      | nil => rfl
      | cons a r ih =>
        have : finCells (a :: r) = [.int .i64 a, .int .i64 0] ++ finCells r := rfl
        rw [this, List.length_append, ih]
        simp
        omega
    omega
  refine ⟨A, c, rfl, hl, ⟨h1, by simpa [maxLen] using h2⟩, fun h0 => ?_⟩
  obtain ⟨g, off, rfl, _, _, hc⟩ := h.cell h0
  refine ⟨g, off, rfl, fun j hj => ?_⟩
  obtain ⟨e0, e1⟩ := finCells_get l j (by omega)
  exact ⟨by rw [hc _ (by omega)]; exact e0, by rw [Nat.add_assoc, hc _ (by omega)]; exact e1⟩

/-- A machine's value. -/
structure MachH where
  a : Option Addr
  na : Nat
  ca : Nat
  f : Option Addr
  nf : Nat
  cf : Nat
structure MachV (w : World) (n : Nat) (h : MachH) (arcs : List ArcM) (fins : List Int) : Prop where
  good : GoodM n arcs fins
  arcsV : ArcsV w h.a h.na h.ca arcs
  finsV : FinsV w h.f h.nf h.cf fins
theorem MachV.new_ {w w' : World} {n : Nat} {h : MachH} {arcs : List ArcM} {fins : List Int} (x : MachV w n h arcs fins) (hn : New w w') : MachV w' n h arcs fins := ⟨x.good, x.arcsV.new_ hn, x.finsV.new_ hn⟩
def machVal (n : Nat) (h : MachH) : Value := .agg #[.int .i64 n, .slice h.a h.na h.ca, .slice h.f h.nf h.cf]

theorem is41 (x : Int) (n b : Nat) (w : World) (hm : w.cell? ⟨b, 0, none⟩ = some (.int .i64 n)) (h0 : 0 ≤ x) (h1 : x < n) :
    Calls Try.prog 41 #[.int .i64 x, .pointer (some ⟨b, 0, none⟩)] w fun e w' => e = .returned (.bool true) ∧ w = w' := by
  go_enter Try.func41, Try.ntmps41
  go_wp2
  go_ret
  exact ⟨rfl, rfl⟩
theorem sym42 (x : Int) (w : World) (h0 : 0 ≤ x) (h1 : x ≤ 60) :
    Calls Try.prog 42 #[.int .i64 x] w fun e w' => e = .returned (.bool true) ∧ w = w' := by
  go_enter Try.func42, Try.ntmps42
  go_wp2
  go_ret
  exact ⟨rfl, rfl⟩
theorem cost43 (x : Int) (w : World) (h0 : 0 ≤ x) (h1 : x ≤ 1000000) :
    Calls Try.prog 43 #[.int .i64 x] w fun e w' => e = .returned (.bool true) ∧ w = w' := by
  go_enter Try.func43, Try.ntmps43
  go_wp2
  go_ret
  exact ⟨rfl, rfl⟩

/-- Keys that are ints. -/
def intKey (P : Program) (K : TypeId) (hK : P.underlying K = some (.int .i64)) : KeyEnc P K Int where
  enc := fun x => .int .i64 x
  ok := fun x => (Lit.int .i64 x).wf = true
  key := fun x hx => ⟨_, keyOf_int_mk hK hx⟩
  inj := fun x y h => by injection h
def int3 : KeyEnc Try.prog 3 Int := intKey Try.prog 3 Try.underlying3
theorem law3 : Keyed Try.prog 3 := int_keyed Try.underlying3
end Go.Proofs.Ytglmlbmjppblbaa
