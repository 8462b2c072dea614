/- The netter: what lies in memory. -/
import Derived.Test.YtglmlbmjppblbaaH
namespace Go.Proofs.Ytglmlbmjppblbaa
open Go.RowKit Go.Kap
open Go.Maps (Keyed string_keyed)
set_option maxRecDepth 100000

structure ArcM where
  f : Int
  t : Int
  i : Int
  o : Int
  deriving DecidableEq
structure NS where
  names : List (List UInt8)
  arcs : List ArcM
  finals : List Int
  sts : List (List Int × List Int)

def arcCells (l : List ArcM) : List Value := l.flatMap fun a => [.int .i64 a.f, .int .i64 a.t, .int .i64 a.i, .int .i64 a.o, .int .i64 0]
def finCells (l : List Int) : List Value := l.flatMap fun s => [.int .i64 s, .int .i64 0]
def nameFrom (i : Int) : List (List UInt8) → List UInt8 → Option Int
  | [], _ => none
  | y :: r, x => if x = y then some i else nameFrom (i + 1) r x
def nameAt (names : List (List UInt8)) (x : List UInt8) : Option Int := nameFrom 0 names x
theorem nameFrom_app (k : List UInt8) : ∀ (l : List (List UInt8)) (i : Int) (y : List UInt8), nameFrom i (l ++ [k]) y = match nameFrom i l y with | some v => some v | none => if y = k then some (i + l.length) else none
  | [], i, y => by simp [nameFrom]
  | z :: r, i, y => by
    simp only [List.cons_append, nameFrom]
    by_cases h : y = z
    · simp [h]
    · rw [if_neg h, if_neg h, nameFrom_app k r (i + 1) y]
      have : (i + 1 + (r.length : Int)) = i + ((z :: r).length : Int) := by simp; omega
      rw [this]
theorem nameAt_new {names : List (List UInt8)} {k : List UInt8} (h : nameAt names k = none) : (fun y => if y = k then some (names.length : Int) else nameAt names y) = nameAt (names ++ [k]) := by
  funext y
  unfold nameAt at *
  rw [nameFrom_app]
  by_cases hy : y = k
  · subst hy
    rw [h]
    simp
  · rw [if_neg hy]
    cases nameFrom 0 names y <;> simp [hy]

def strK : KeyEnc Try.prog 9 (List UInt8) := strKey Try.prog 9 Try.underlying9
theorem law9 : Keyed Try.prog 9 := string_keyed Try.underlying9
theorem zero3 (w : World) : (zeroValue 3).run Try.prog w = .ok (.int .i64 0) w := by kernel_rfl

/-- Ints in a block of ints. -/
def IntsK (w : World) (A : Option Addr) (n c : Nat) (xs : List Int) : Prop :=
  Ints w w.heap.size A n c xs ∧ ∀ b off sp, A = some ⟨b, off, sp⟩ → 0 < n → ∃ cs fr, w.heap[b]? = some (.cells cs 3 fr)
theorem Row.intsK {w : World} {base n : Nat} {v : Value} {xs : List Int} (h : Row w base 3 1 v n (xs.map (.int .i64))) (hn : n ≤ 4611686018427387904) : ∃ A c, v = .slice A n c ∧ IntsK w A n c xs ∧ (A = none → n = 0) := by
  obtain ⟨A, c, rfl, hi⟩ := Row.ints h hn
  refine ⟨A, c, rfl, ⟨hi, fun b off sp hA h0 => ?_⟩, fun hA => ?_⟩
  · rcases h.2 with ⟨_, rfl⟩ | ⟨g, o, cap, cur, hv, hb, hg, _⟩
    · omega
    · injection hv with hv
      rw [hA] at hv
      injection hv with hv
      injection hv with hv _ _
      subst hv
      exact ⟨_, _, hg⟩
  · subst hA
    obtain ⟨_, _, e, _, _, h3⟩ := h.len
    injection e with e
    subst e
    exact (h3 rfl).1

/-- The frame of the netter's own doings. -/
structure NFr (B0 : Nat) (w w' : World) : Prop where
  below : Below B0 w w'
  typed : ∀ (b : Nat) (cs : Array Value) (t : TypeId) (fr : Nat × Nat), w.heap[b]? = some (.cells cs t fr) → t ≠ 54 → t ≠ 72 → t ≠ 75 → t ≠ 56 → w'.heap[b]? = w.heap[b]?
theorem NFr.refl (B0 : Nat) (w : World) : NFr B0 w w := ⟨Below.refl _ _, fun _ _ _ _ _ _ _ _ _ => rfl⟩
theorem NFr.trans {B0 : Nat} {a b c : World} (h : NFr B0 a b) (k : NFr B0 b c) : NFr B0 a c :=
  ⟨h.below.trans k.below, fun x cs t fr hx h1 h2 h3 h4 => by
    have e := h.typed x cs t fr hx h1 h2 h3 h4
    rw [k.typed x cs t fr (e.trans hx) h1 h2 h3 h4, e]⟩
theorem NFr.of_new {B0 : Nat} {w w' : World} (h : New w w') (hB : B0 ≤ w.heap.size) : NFr B0 w w' :=
  ⟨h.mono hB, fun _ _ _ _ hx _ _ _ _ => h.block _ (lt_heap hx)⟩
theorem NFr.size {B0 : Nat} {w w' : World} (h : NFr B0 w w') : w.heap.size ≤ w'.heap.size := h.below.size
def netType (t : TypeId) : Prop := t = 54 ∨ t = 72 ∨ t = 75 ∨ t = 56
theorem NFr.setCell {B0 : Nat} (w : World) {p : Addr} {cs : Array Value} {t : TypeId} {fr : Nat × Nat} (hp : w.heap[p.block]? = some (.cells cs t fr)) (ht : netType t) (hB : B0 ≤ p.block) (u : Value) : NFr B0 w (w.setCell p u) :=
  ⟨(Below.refl _ _).setCell hB u, fun b cs' t' fr' hx h1 h2 h3 h4 => Below.heap_setCell w p u b (by
    rintro rfl
    rw [hp] at hx
    injection hx with hx
    injection hx with _ hx
    subst hx
    rcases ht with h | h | h | h <;> contradiction)⟩
theorem NFr.grown {B0 : Nat} {w w' : World} {base : Nat} {e : TypeId} {size n : Nat} {v : Value} {xs : List Value} (hr : Row w base e size v n xs) (hg : w.grownBy w' v.ownBlock) (he : netType e) (hB : B0 ≤ base) (hs : B0 ≤ w.heap.size) : NFr B0 w w' :=
  ⟨(Below.refl _ _).grown hg hs (fun k hk => Nat.le_trans hB (hr.lt k hk).1), fun b cs t fr hx h1 h2 h3 h4 => hg.block b (lt_heap hx) (fun hk => by
    obtain ⟨cur, hc⟩ := hr.typed hk.symm
    rw [hx] at hc
    injection hc with hc
    injection hc with _ hc
    subst hc
    rcases he with h | h | h | h <;> contradiction)⟩
theorem NFr.map {B0 : Nat} {w w' : World} {b : Nat} (hg : w.grownBy w' (some b)) (hm : ∃ es clock, w.heap[b]? = some (.map es clock)) (hB : B0 ≤ b) (hs : B0 ≤ w.heap.size) : NFr B0 w w' :=
  ⟨(Below.refl _ _).grown hg hs (fun k hk => by cases hk; exact hB), fun x cs t fr hx _ _ _ _ => hg.block x (lt_heap hx) (fun hk => by
    cases hk
    obtain ⟨es, clock, h0⟩ := hm
    rw [hx] at h0; cases h0)⟩
theorem NFr.heap {B0 : Nat} {w w' : World} (h : NFr B0 w w') {base : Nat} {e : TypeId} {size n : Nat} {v : Value} {xs : List Value} (hr : Row w base e size v n xs) (h1 : e ≠ 54) (h2 : e ≠ 72) (h3 : e ≠ 75) (h4 : e ≠ 56) : Row w' base e size v n xs :=
  hr.of_heap fun k hk => by obtain ⟨cur, hc⟩ := hr.typed hk; exact h.typed k _ _ _ hc h1 h2 h3 h4
theorem NFr.ints {B0 : Nat} {w w' : World} (h : NFr B0 w w') {A : Option Addr} {n c : Nat} {xs : List Int} (hi : IntsK w A n c xs) : IntsK w' A n c xs := by
  obtain ⟨⟨h1, h2, h3⟩, hk⟩ := hi
  refine ⟨⟨h1, h2, fun h0 => ?_⟩, fun b off sp hA h0 => ?_⟩
  · obtain ⟨b, off, e, hb, hc⟩ := h3 h0
    obtain ⟨cs, fr, hx⟩ := hk b off none e h0
    have hx' := h.typed b cs 3 fr hx (by decide) (by decide) (by decide) (by decide)
    exact ⟨b, off, e, Nat.lt_of_lt_of_le hb h.size, fun j hj => (World.cell?_of_block (a := ⟨b, off + j, none⟩) hx').trans (hc j hj)⟩
  · obtain ⟨cs, fr, hx⟩ := hk b off sp hA h0
    exact ⟨cs, fr, (h.typed b cs 3 fr hx (by decide) (by decide) (by decide) (by decide)).trans hx⟩
theorem NFr.view {B0 : Nat} {w w' : World} (h : NFr B0 w w') {A : Option Addr} {n c : Nat} {xs : List Int} (hi : Ints w B0 A n c xs) : Ints w' B0 A n c xs := hi.below h.below

/-- The table of states. -/
def StsCells (w : World) (cs : List Value) (sts : List (List Int × List Int)) : Prop :=
  cs.length = sts.length * 2 ∧ ∀ j, j < sts.length → ∃ A n c A' n' c', cs[j * 2]? = some (.slice A n c) ∧ cs[j * 2 + 1]? = some (.slice A' n' c') ∧ IntsK w A n c (sts.getD j ([], [])).1 ∧ IntsK w A' n' c' (sts.getD j ([], [])).2 ∧
    (j ≠ 0 → (sts.getD j ([], [])) = ([], []) → A = none ∧ A' = none)
theorem StsCells.keep {B0 : Nat} {w w' : World} {cs : List Value} {sts : List (List Int × List Int)} (h : StsCells w cs sts) (hf : NFr B0 w w') : StsCells w' cs sts :=
  ⟨h.1, fun j hj => by
    obtain ⟨A, n, c, A', n', c', h1, h2, h3, h4, h5⟩ := h.2 j hj
    exact ⟨A, n, c, A', n', c', h1, h2, hf.ints h3, hf.ints h4, h5⟩⟩

/-- The netter in memory: block p. -/
structure NetW (w : World) (B0 p : Nat) (k : Int) (H : ChgH) (va vf vs : Value) (mb : Nat) (cs : List Value) (s : NS) : Prop where
  base : B0 ≤ p ∧ B0 ≤ mb
  blk : w.heap[p]? = some (.cells #[.int .i64 k, .slice H.a1 H.n1 H.c1, .slice H.a2 H.n2 H.c2, .slice H.a3 H.n3 H.c3, .slice H.a4 H.n4 H.c4, .int .i64 s.names.length, va, vf, .map (some mb), vs] 54 (0, 0))
  arcs : Row w B0 72 5 va s.arcs.length (arcCells s.arcs)
  fins : Row w B0 75 2 vf s.finals.length (finCells s.finals)
  sts : Row w B0 56 2 vs s.sts.length cs
  ent : StsCells w cs s.sts
  map : MapI strK w 3 mb s.names.length (nameAt s.names)
section
variable {w w' : World} {B0 p : Nat} {k : Int} {H : ChgH} {va vf vs : Value} {mb : Nat} {cs : List Value} {s : NS}
theorem NetW.new_ (h : NetW w B0 p k H va vf vs mb cs s) (hn : New w w') (hB : B0 ≤ w.heap.size) : NetW w' B0 p k H va vf vs mb cs s :=
  ⟨h.base, (hn.block p (lt_heap h.blk)).trans h.blk, h.arcs.new_ hn, h.fins.new_ hn, h.sts.new_ hn, h.ent.keep (NFr.of_new hn hB), h.map.new_ hn⟩
theorem NetW.size (h : NetW w B0 p k H va vf vs mb cs s) : B0 ≤ w.heap.size := by have := lt_heap h.blk; have := h.base; omega
theorem NetW.cell (h : NetW w B0 p k H va vf vs mb cs s) (i : Nat) : w.cell? ⟨p, i, none⟩ = (#[.int .i64 k, .slice H.a1 H.n1 H.c1, .slice H.a2 H.n2 H.c2, .slice H.a3 H.n3 H.c3, .slice H.a4 H.n4 H.c4, .int .i64 s.names.length, va, vf, .map (some mb), vs] : Array Value)[i]? := by
  simp [World.cell?, h.blk]
theorem NetW.free (h : NetW w B0 p k H va vf vs mb cs s) (i : Nat) : w.frozen? ⟨p, i, none⟩ = false := by
  simp [World.frozen?, h.blk]
/-- The netter behind a store into one of its cells. -/
theorem NetW.store (h : NetW w B0 p k H va vf vs mb cs s) (i : Nat) (u : Value) :
    NFr B0 w (w.setCell ⟨p, i, none⟩ u) ∧ Row (w.setCell ⟨p, i, none⟩ u) B0 72 5 va s.arcs.length (arcCells s.arcs) ∧ Row (w.setCell ⟨p, i, none⟩ u) B0 75 2 vf s.finals.length (finCells s.finals) ∧ Row (w.setCell ⟨p, i, none⟩ u) B0 56 2 vs s.sts.length cs ∧
    MapI strK (w.setCell ⟨p, i, none⟩ u) 3 mb s.names.length (nameAt s.names) :=
  have hf : NFr B0 w (w.setCell ⟨p, i, none⟩ u) := NFr.setCell w (p := ⟨p, i, none⟩) h.blk (.inl rfl) h.base.1 u
  ⟨hf, h.arcs.set_other (q := ⟨p, i, none⟩) h.blk (by decide) u, h.fins.set_other (q := ⟨p, i, none⟩) h.blk (by decide) u, h.sts.set_other (q := ⟨p, i, none⟩) h.blk (by decide) u, h.map.setCell (p := ⟨p, i, none⟩) h.blk u⟩

theorem info72 : (Try.prog.info? 72).map (fun i => (i.zero, i.size, i.bytes)) = some (some (.agg #[.int .i64 0, .int .i64 0, .int .i64 0, .int .i64 0, .int .i64 0]), 5, 40) := by kernel_rfl
theorem info75 : (Try.prog.info? 75).map (fun i => (i.zero, i.size, i.bytes)) = some (some (.agg #[.int .i64 0, .int .i64 0]), 2, 16) := by kernel_rfl

/-- What a method leaves. -/
def NetPost (B0 p : Nat) (k : Int) (H : ChgH) (w : World) (r : Value) (s' : NS) (en : Ending) (w' : World) : Prop :=
  en = .returned r ∧ (∃ va vf vs mb cs, NetW w' B0 p k H va vf vs mb cs s') ∧ NFr B0 w w'

theorem arc_any (f t i o : Int) (h : NetW w B0 p k H va vf vs mb cs s) (hl : s.arcs.length ≤ 1000000) :
    Calls Try.prog 18 #[.pointer (some ⟨p, 0, none⟩), .int .i64 f, .int .i64 t, .int .i64 i, .int .i64 o] w (NetPost B0 p k H w (.tuple #[]) { s with arcs := s.arcs ++ [⟨f, t, i, o⟩] }) := by
  obtain ⟨i0, hi0, hz0, hz1, hz2⟩ := info_parts info72
  have c6 := h.cell 6
  have f6 := h.free 6
  simp at c6
  have hpl := lt_heap h.blk
  have hB := h.size
  have HH := Lib.hid h
  have HA := Lib.hid h.arcs
  clear h
  go_enter Try.func18, Try.ntmps18
  go_wp2_with (at_builtin; refine wpList_append_row _ rfl _ _ 32 rfl B0 72 i0 _ 5 40 Try.underlying32 hi0 hz0 hz1 hz2 rfl (by decide) _ _ _ rfl (HA.out.alloc _) (some ⟨w.heap.size, 0, none⟩) 1 1 [.int .i64 f, .int .i64 t, .int .i64 i, .int .i64 o, .int .i64 0] rfl (Src.lit w #[.int .i64 f, .int .i64 t, .int .i64 i, .int .i64 o, .int .i64 0] 72 1 (by simp) (by simp [Value.oneCell'])) ?c1 ?c2 ?c3 ?_)
  case c1 => unfold maxLen; omega
  case c2 => omega
  case c3 => simp; omega
  intro v' w1 hr1 hg1 hat hnil
  have hg0 : NFr B0 w w1 := (NFr.of_new (new_alloc w _) hB).trans (NFr.grown (HA.out.alloc _) hg1 (.inr (.inl rfl)) (Nat.le_refl _) (by simp; omega))
  have hn0 := HH.out.new_ (new_alloc w (.cells #[.int .i64 f, .int .i64 t, .int .i64 i, .int .i64 o, .int .i64 0] 72)) hB
  have hblk : w1.heap[p]? = w.heap[p]? := by
    rw [hg1.block p (by simp; omega) (fun e => by obtain ⟨c, hc⟩ := hn0.arcs.typed e.symm; exact ne_typed hn0.blk hc (by decide) rfl)]
    exact hn0.blk.trans HH.out.blk.symm
  have hx6 : w1.cell? ⟨p, 6, none⟩ = some va := (World.cell?_of_block hblk).trans c6
  have hf6 : w1.frozen? ⟨p, 6, none⟩ = false := (World.frozen?_of_block hblk).trans f6
  have HB := Lib.hid (hblk.trans HH.out.blk)
  have hmb : MapI strK w1 3 mb s.names.length (nameAt s.names) := hn0.map.kept hg1 (fun e => by
    obtain ⟨c, hc⟩ := hn0.arcs.typed e.symm
    obtain ⟨es, cl, hm⟩ := hn0.map.isMap
    rw [hm] at hc; cases hc)
  have hw1 : NetW (w1.setCell ⟨p, 6, none⟩ v') B0 p k H v' vf vs mb cs { s with arcs := s.arcs ++ [⟨f, t, i, o⟩] } ∧ NFr B0 w1 (w1.setCell ⟨p, 6, none⟩ v') := by
    have hfr : NFr B0 w1 (w1.setCell ⟨p, 6, none⟩ v') := NFr.setCell w1 (p := ⟨p, 6, none⟩) HB.out (.inl rfl) HH.out.base.1 v'
    refine ⟨⟨HH.out.base, ?_, ?_, ?_, ?_, ?_, ?_⟩, hfr⟩
    · rw [blk_set HB.out]; rfl
    · have : Row w1 B0 72 5 v' (s.arcs ++ [(⟨f, t, i, o⟩ : ArcM)]).length (arcCells (s.arcs ++ [(⟨f, t, i, o⟩ : ArcM)])) := by simpa [arcCells] using hr1
      exact this.set_other (q := ⟨p, 6, none⟩) HB.out (by decide) _
    · exact (Row.other hn0.fins hn0.arcs hg1 (by decide)).set_other (q := ⟨p, 6, none⟩) HB.out (by decide) _
    · exact (Row.other hn0.sts hn0.arcs hg1 (by decide)).set_other (q := ⟨p, 6, none⟩) HB.out (by decide) _
    · exact HH.out.ent.keep (hg0.trans hfr)
    · exact hmb.setCell (p := ⟨p, 6, none⟩) HB.out _
  obtain ⟨A1, k1, hv1, _⟩ := hr1.len
  have HW := Lib.hid hw1
  subst hv1
  clear hw1 hmb hblk hn0 hg1 hat hnil c6 f6
  go_wp2
  go_end0
  exact ⟨rfl, ⟨_, _, _, _, _, HW.out.1⟩, hg0.trans HW.out.2⟩

theorem fresh_any (n : Nat) (hn : n ≤ 1000000) (h5 : w.cell? ⟨p, 5, none⟩ = some (.int .i64 n)) (f5 : w.frozen? ⟨p, 5, none⟩ = false) :
    Calls Try.prog 49 #[.pointer (some ⟨p, 0, none⟩)] w fun e w' => e = .returned (.int .i64 n) ∧ w.setCell ⟨p, 5, none⟩ (.int .i64 ((n : Int) + 1)) = w' := by
  have h5' : (w.setCell ⟨p, 5, none⟩ (.int .i64 ((n : Int) + 1))).cell? ⟨p, 5, none⟩ = some (.int .i64 ((n : Int) + 1)) := by
    have hs : ∃ cs t fr, w.heap[p]? = some (.cells cs t fr) ∧ 5 < cs.size := by
      unfold World.cell? at h5
      split at h5
      · rename_i c t fr hb
        refine ⟨c, t, fr, hb, ?_⟩
        simp at h5
        exact (Array.getElem?_eq_some_iff.1 h5).1
      · cases h5
    obtain ⟨cs, t, fr, hb, hl⟩ := hs
    simp [World.setCell, World.cell?, Array.getElem?_modify, hb, hl]
  go_enter Try.func49, Try.ntmps49
  go_wp2
  go_ret
  exact ⟨ret_int (by omega), rfl⟩

theorem named_had (x : List UInt8) (i : Int) (h : NetW w B0 p k H va vf vs mb cs s) (hx : x.length ≤ 1000000) (hf : nameAt s.names x = some i) :
    Calls Try.prog 38 #[.pointer (some ⟨p, 0, none⟩), .string ⟨x.toArray⟩] w fun e w' => e = .returned (.tuple #[.int .i64 i, .bool true]) ∧ w = w' := by
  have c8 := h.cell 8
  simp at c8
  have HF := Lib.hid hf
  have HM := Lib.hid h.map
  clear hf h
  go_enter Try.func38, Try.ntmps38
  go_wp2_with (at_lookup; refine wpList_lookup_mapI_ok rfl _ _ 51 rfl law9 Try.underlying51 Try.underlying3 (zero3 _) rfl HM.out x rfl (by show x.length ≤ maxLen; unfold maxLen; omega) (some i) HF ?_)
  go_ret2
  exact ⟨rfl, rfl⟩

theorem named_new (x : List UInt8) (h : NetW w B0 p k H va vf vs mb cs s) (hx : x.length ≤ 1000000) (hl : s.names.length ≤ 1000000) (hf : nameAt s.names x = none) :
    Calls Try.prog 38 #[.pointer (some ⟨p, 0, none⟩), .string ⟨x.toArray⟩] w (NetPost B0 p k H w (.tuple #[.int .i64 s.names.length, .bool false]) { s with names := s.names ++ [x] }) := by
  have c8 := h.cell 8
  have c5 := h.cell 5
  have f5 := h.free 5
  simp at c8 c5
  have HF := Lib.hid hf
  have HH := Lib.hid h
  have HM := Lib.hid h.map
  have HS := Lib.hid (h.store 5 (.int .i64 ((s.names.length : Int) + 1)))
  have hB := h.size
  have hc8 : (w.setCell ⟨p, 5, none⟩ (.int .i64 ((s.names.length : Int) + 1))).cell? ⟨p, 8, none⟩ = some (.map (some mb)) := by
    rw [World.cell?_setCell_other _ _ _ _ (by simp)]; exact c8
  have HNA := Lib.hid (nameAt_new hf)
  clear hf h
  go_enter Try.func38, Try.ntmps38
  go_wp2_with (at_lookup; refine wpList_lookup_mapI_ok rfl _ _ 51 rfl law9 Try.underlying51 Try.underlying3 (zero3 _) rfl HM.out x rfl (by show x.length ≤ maxLen; unfold maxLen; omega) none HF ?_)
  refine (fresh_any s.names.length hl c5 f5).mono ?_
  rintro e w1 ⟨rfl, rfl⟩
  go_wp2_with (at_mapUpdate; refine wpList_update_mapI rfl _ _ _ 51 rfl law9 Try.underlying51 Try.underlying3 rfl HS.out.2.2.2.2 (by unfold maxLen; omega) x rfl (by show x.length ≤ maxLen; unfold maxLen; omega) _ rfl (WalkArith.wf_i64 (by omega)) ?_)
  intro w2 hm2 hg2
  rw [HNA.out] at hm2
  obtain ⟨hf1, ha1, hfi1, hs1, hmm⟩ := HS.out
  have hpm : p ≠ mb := by
    rintro rfl
    obtain ⟨es, cl, hm⟩ := HH.out.map.isMap
    rw [HH.out.blk] at hm; cases hm
  have hrow : ∀ {base : Nat} {e : TypeId} {size n : Nat} {v : Value} {xs : List Value}, Row (w.setCell ⟨p, 5, none⟩ (.int .i64 ((s.names.length : Int) + 1))) base e size v n xs → Row w2 base e size v n xs := by
    intro base e size n v xs h
    refine h.of_heap fun k hk => hg2.block k (h.lt k hk).2 (fun e0 => ?_)
    obtain ⟨c, hc⟩ := h.typed hk
    obtain ⟨es, cl, hm⟩ := hmm.isMap
    injection e0 with e0
    subst e0
    rw [hc] at hm; cases hm
  have hn2 : NFr B0 (w.setCell ⟨p, 5, none⟩ (.int .i64 ((s.names.length : Int) + 1))) w2 := NFr.map hg2 hmm.isMap HH.out.base.2 (by simp [World.setCell]; exact hB)
  have HW : Hid (NetW w2 B0 p k H va vf vs mb cs { s with names := s.names ++ [x] }) := by
    refine ⟨HH.out.base, ?_, hrow ha1, hrow hfi1, hrow hs1, HH.out.ent.keep (hf1.trans hn2), ?_⟩
    · rw [hg2.block p (by have := lt_heap HH.out.blk; simpa [World.setCell] using this) (by simpa using hpm), blk_set HH.out.blk]
      simp
    · simpa using hm2
  have HF2 := Lib.hid (hf1.trans hn2)
  clear hf1 ha1 hfi1 hs1 hmm hrow hn2 hm2 hg2
  go_wp2
  go_ret2
  exact ⟨rfl, ⟨_, _, _, _, _, HW.out⟩, HF2.out⟩
end
end Go.Proofs.Ytglmlbmjppblbaa
