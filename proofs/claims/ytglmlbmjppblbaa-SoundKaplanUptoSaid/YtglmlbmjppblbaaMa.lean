/- One machine through another one: what lies in memory; the maker's methods. -/
import Derived.Test.YtglmlbmjppblbaaY
namespace Go.Proofs.Ytglmlbmjppblbaa
open Go.RowKit Go.Kap Go.Maps
set_option maxRecDepth 1000000

def prCells (l : List (Int × Int)) : List Value := l.flatMap fun p => [.int .i64 p.1, .int .i64 p.2]
theorem prCells_app (l m : List (Int × Int)) : prCells (l ++ m) = prCells l ++ prCells m := by simp [prCells]
theorem prCells_get : ∀ (l : List (Int × Int)) (j : Nat), j < l.length → (prCells l)[j * 2]? = some (.int .i64 (l.getD j (0, 0)).1) ∧ (prCells l)[j * 2 + 1]? = some (.int .i64 (l.getD j (0, 0)).2)
  | [], j, h => by simp at h
  | a :: r, 0, _ => by
    have : prCells (a :: r) = [.int .i64 a.1, .int .i64 a.2] ++ prCells r := rfl
    rw [this]
    exact ⟨rfl, rfl⟩
  | a :: r, j + 1, h => by
    have ih := prCells_get r j (by simpa using h)
    have : prCells (a :: r) = [.int .i64 a.1, .int .i64 a.2] ++ prCells r := rfl
    rw [this]
    have e : ∀ k, ([Value.int .i64 a.1, .int .i64 a.2] ++ prCells r)[(j + 1) * 2 + k]? = (prCells r)[j * 2 + k]? := by
      intro k
      rw [List.getElem?_append_right (by simp; omega)]
      congr 1
      simp
      omega
    exact ⟨by rw [← Nat.add_zero ((j + 1) * 2), e]; exact ih.1, by rw [e]; exact ih.2⟩

/-- The blocks of a making: the maker, the variables that hold it, the numbers, the list; the map; the list's first block. -/
structure TB where
  p : Nat
  b7 : Nat
  b8 : Nat
  b9 : Nat
  mb : Nat
  lb : Nat
/-- What the making leaves alone, below block B. -/
structure Fr (t : TB) (B : Nat) (w w' : World) : Prop where
  os : w'.os = w.os
  tape : w'.tape = w.tape
  output : w'.output = w.output
  size : w.heap.size ≤ w'.heap.size
  block : ∀ b, b < B → b ≠ t.p → b ≠ t.mb → b ≠ t.b9 → b ≠ t.lb → w'.heap[b]? = w.heap[b]?
section
variable {t : TB} {B : Nat} {w w' w'' : World}
theorem Fr.refl (t : TB) (B : Nat) (w : World) : Fr t B w w := ⟨rfl, rfl, rfl, Nat.le_refl _, fun _ _ _ _ _ _ => rfl⟩
theorem Fr.trans (h : Fr t B w w') (k : Fr t B w' w'') : Fr t B w w'' :=
  ⟨k.os.trans h.os, k.tape.trans h.tape, k.output.trans h.output, Nat.le_trans h.size k.size, fun b h0 h1 h2 h3 h4 => (k.block b h0 h1 h2 h3 h4).trans (h.block b h0 h1 h2 h3 h4)⟩
theorem Fr.of_new (h : New w w') (hB : B ≤ w.heap.size) : Fr t B w w' := ⟨h.os, h.tape, h.output, h.size, fun b h0 _ _ _ _ => h.block b (by omega)⟩
theorem Fr.grown {row : Option Nat} (h : w.grownBy w' row) (hB : B ≤ w.heap.size) (hr : ∀ k, row = some k → k = t.p ∨ k = t.mb ∨ k = t.b9 ∨ k = t.lb ∨ B ≤ k) : Fr t B w w' :=
  ⟨h.os, h.tape, h.output, h.size, fun b h0 h1 h2 h3 h4 => h.block b (by omega) (fun e => by
    rcases hr b e.symm with h | h | h | h | h <;> first | contradiction | omega)⟩
theorem Fr.setCell (w : World) {q : Addr} (hq : q.block = t.p ∨ q.block = t.mb ∨ q.block = t.b9 ∨ q.block = t.lb ∨ B ≤ q.block) (u : Value) : Fr t B w (w.setCell q u) :=
  ⟨rfl, rfl, rfl, by simp [World.setCell], fun b h0 h1 h2 h3 h4 => Below.heap_setCell w q u b (by
    rintro rfl
    rcases hq with h | h | h | h | h <;> first | contradiction | omega)⟩
/-- What was ahead of it all. -/
theorem Fr.below {w0 : World} (h0 : New w0 w) (h : Fr t B w w') (hB : w0.heap.size ≤ B) (h1 : w0.heap.size ≤ t.p) (h2 : w0.heap.size ≤ t.mb) (h3 : w0.heap.size ≤ t.b9) (h4 : w0.heap.size ≤ t.lb) : New w0 w' :=
  ⟨h.os.trans h0.os, h.tape.trans h0.tape, h.output.trans h0.output, Nat.le_trans h0.size h.size, fun b hb => (h.block b (by omega) (by omega) (by omega) (by omega) (by omega)).trans (h0.block b hb)⟩
end

def posI (l : List (Int × Int)) (x : Int × Int) : Option Int := (posF x l).map fun (n : Nat) => (n : Int)
theorem posI_snoc {l : List (Int × Int)} {x : Int × Int} (h : posF x l = none) : (fun y => if y = x then some (l.length : Int) else posI l y) = posI (l ++ [x]) := by
  funext y
  unfold posI
  by_cases e : y = x
  · subst e
    rw [if_pos rfl, posF_new h]
    rfl
  · rw [if_neg e]
    cases hy : posF y l with
    | some j => rw [posF_app [x] hy]
    | none =>
      have : posF y (l ++ [x]) = none := by
        rw [posF_none] at hy ⊢
        simp only [List.mem_append, List.mem_singleton]
        rintro (h1 | h1)
        · exact hy h1
        · exact e h1
      rw [this]

/-- A making in memory. -/
structure ThW (w : World) (B : Nat) (t : TB) (va vf vl : Value) (l : List (Int × Int)) (arcs : List ArcM) (fins : List Int) : Prop where
  old : t.p < B ∧ t.b7 < B ∧ t.b8 < B ∧ t.b9 < B ∧ t.mb < B ∧ t.lb < B ∧ B ≤ w.heap.size
  blk : w.heap[t.p]? = some (.cells #[.int .i64 l.length, va, vf, .bool false] 79 (0, 0))
  c7 : w.heap[t.b7]? = some (.cells #[.pointer (some ⟨t.p, 0, none⟩)] 77 (0, 0))
  c8 : w.heap[t.b8]? = some (.cells #[.map (some t.mb)] 81 (0, 0))
  c9 : w.heap[t.b9]? = some (.cells #[vl] 82 (0, 0))
  arcs : Row w B 72 5 va arcs.length (arcCells arcs)
  fins : Row w B 75 2 vf fins.length (finCells fins)
  lst : Row w 0 80 2 vl l.length (prCells l)
  lown : ∀ k, vl.ownBlock = some k → k = t.lb ∨ B ≤ k
  map : MapI prK w 3 t.mb l.length (posI l)
section
variable {w w' : World} {B : Nat} {t : TB} {va vf vl : Value} {l : List (Int × Int)} {arcs : List ArcM} {fins : List Int}
theorem ThW.size (h : ThW w B t va vf vl l arcs fins) : B ≤ w.heap.size := h.old.2.2.2.2.2.2
theorem ThW.new_ (h : ThW w B t va vf vl l arcs fins) (hn : New w w') : ThW w' B t va vf vl l arcs fins :=
  ⟨⟨h.old.1, h.old.2.1, h.old.2.2.1, h.old.2.2.2.1, h.old.2.2.2.2.1, h.old.2.2.2.2.2.1, Nat.le_trans h.size hn.size⟩, (hn.block _ (lt_heap h.blk)).trans h.blk, (hn.block _ (lt_heap h.c7)).trans h.c7, (hn.block _ (lt_heap h.c8)).trans h.c8, (hn.block _ (lt_heap h.c9)).trans h.c9,
    h.arcs.new_ hn, h.fins.new_ hn, h.lst.new_ hn, h.lown, h.map.new_ hn⟩
theorem ThW.cellP (h : ThW w B t va vf vl l arcs fins) (i : Nat) : w.cell? ⟨t.p, i, none⟩ = (#[.int .i64 l.length, va, vf, .bool false] : Array Value)[i]? ∧ w.frozen? ⟨t.p, i, none⟩ = false := by
  simp [World.cell?, World.frozen?, h.blk]
theorem ThW.cell7 (h : ThW w B t va vf vl l arcs fins) : w.cell? ⟨t.b7, 0, none⟩ = some (.pointer (some ⟨t.p, 0, none⟩)) := by simp [World.cell?, h.c7]
theorem ThW.cell8 (h : ThW w B t va vf vl l arcs fins) : w.cell? ⟨t.b8, 0, none⟩ = some (.map (some t.mb)) := by simp [World.cell?, h.c8]
theorem ThW.cell9 (h : ThW w B t va vf vl l arcs fins) : w.cell? ⟨t.b9, 0, none⟩ = some vl ∧ w.frozen? ⟨t.b9, 0, none⟩ = false := by simp [World.cell?, World.frozen?, h.c9]

theorem grown_cells {w w' : World} {base size n : Nat} {e : TypeId} {v : Value} {xs : List Value} (hr : Row w base e size v n xs) (hg : w.grownBy w' v.ownBlock) {b : Nat} {c : Array Value} {ty : TypeId} (hb : w.heap[b]? = some (.cells c ty (0, 0))) (hne : ty ≠ e) : w'.heap[b]? = some (.cells c ty (0, 0)) := by
  rw [hg.block b (lt_heap hb) (fun e0 => by obtain ⟨c2, hc2⟩ := hr.typed e0.symm; exact ne_typed hb hc2 hne rfl)]
  exact hb
theorem grown_mapc {w w' : World} {mb : Nat} (hm : ∃ es clock, w.heap[mb]? = some (.map es clock)) (hg : w.grownBy w' (some mb)) {b : Nat} {c : Array Value} {ty : TypeId} (hb : w.heap[b]? = some (.cells c ty (0, 0))) : w'.heap[b]? = some (.cells c ty (0, 0)) := by
  rw [hg.block b (lt_heap hb) (fun e0 => by
    cases e0
    obtain ⟨es, cl, h0⟩ := hm
    rw [hb] at h0; cases h0)]
  exact hb
theorem set_cells {w : World} {q : Addr} {b : Nat} {c c2 : Array Value} {ty t2 : TypeId} (hb : w.heap[b]? = some (.cells c ty (0, 0))) (hq : w.heap[q.block]? = some (.cells c2 t2 (0, 0))) (hne : ty ≠ t2) (u : Value) : (w.setCell q u).heap[b]? = some (.cells c ty (0, 0)) := by
  rw [Below.heap_setCell w q u b (by rintro rfl; exact ne_typed hb hq hne rfl)]
  exact hb

/-- A block beside the making. -/
structure Loc (t : TB) (va vf vl : Value) (w : World) (b : Nat) (c : Array Value) (ty : TypeId) : Prop where
  blk : w.heap[b]? = some (.cells c ty (0, 0))
  np : b ≠ t.p
  nm : b ≠ t.mb
  n9 : b ≠ t.b9
  na : va.ownBlock ≠ some b
  nf : vf.ownBlock ≠ some b
  nl : vl.ownBlock ≠ some b
theorem Loc.new_ {b : Nat} {c : Array Value} {ty : TypeId} (h : Loc t va vf vl w b c ty) (hn : New w w') : Loc t va vf vl w' b c ty := ⟨(hn.block b (lt_heap h.blk)).trans h.blk, h.np, h.nm, h.n9, h.na, h.nf, h.nl⟩
theorem Loc.set_ {b : Nat} {c : Array Value} {ty : TypeId} (h : Loc t va vf vl w b c ty) {q : Addr} (hq : q.block ≠ b) (u : Value) : Loc t va vf vl (w.setCell q u) b c ty := ⟨(Below.heap_setCell w q u b (Ne.symm hq)).trans h.blk, h.np, h.nm, h.n9, h.na, h.nf, h.nl⟩
theorem Loc.fresh (h : ThW w B t va vf vl l arcs fins) (c : Array Value) (ty : TypeId) : Loc t va vf vl (w.alloc (.cells c ty)) w.heap.size c ty := by
  obtain ⟨h1, _, _, h4, h5, _, h7⟩ := h.old
  exact ⟨heap_alloc_new w _, by omega, by omega, by omega, fun e => by have := (h.arcs.lt _ e).2; omega, fun e => by have := (h.fins.lt _ e).2; omega, fun e => by have := (h.lst.lt _ e).2; omega⟩
theorem Loc.row {w1 : World} {b : Nat} {c : Array Value} {ty : TypeId} (h : Loc t va vf vl w b c ty) {row : Option Nat} (hg : w.grownBy w1 row) (hr : row ≠ some b) : w1.heap[b]? = some (.cells c ty (0, 0)) := (hg.block b (lt_heap h.blk) (Ne.symm hr)).trans h.blk
theorem own_ne {v v' : Value} {n b : Nat} (hat : v'.ownBlock = v.ownBlock ∨ v'.ownBlock = some n) (hv : v.ownBlock ≠ some b) (hb : b < n) : v'.ownBlock ≠ some b := by
  rcases hat with h | h
  · rw [h]; exact hv
  · rw [h]; intro e; injection e with e; omega
theorem Loc.arcsGrow {w1 : World} {b : Nat} {c : Array Value} {ty : TypeId} (h : Loc t va vf vl w b c ty) (hg : w.grownBy w1 va.ownBlock) {v' : Value} (hat : v'.ownBlock = va.ownBlock ∨ v'.ownBlock = some w.heap.size) (u : Value) (k : Nat) : Loc t v' vf vl (w1.setCell ⟨t.p, k, none⟩ u) b c ty :=
  Loc.set_ (⟨h.row hg h.na, h.np, h.nm, h.n9, own_ne hat h.na (lt_heap h.blk), h.nf, h.nl⟩ : Loc t v' vf vl w1 b c ty) (q := ⟨t.p, k, none⟩) (Ne.symm h.np) u
theorem Loc.finsGrow {w1 : World} {b : Nat} {c : Array Value} {ty : TypeId} (h : Loc t va vf vl w b c ty) (hg : w.grownBy w1 vf.ownBlock) {v' : Value} (hat : v'.ownBlock = vf.ownBlock ∨ v'.ownBlock = some w.heap.size) (u : Value) (k : Nat) : Loc t va v' vl (w1.setCell ⟨t.p, k, none⟩ u) b c ty :=
  Loc.set_ (⟨h.row hg h.nf, h.np, h.nm, h.n9, h.na, own_ne hat h.nf (lt_heap h.blk), h.nl⟩ : Loc t va v' vl w1 b c ty) (q := ⟨t.p, k, none⟩) (Ne.symm h.np) u
/-- The arcs have grown. -/
theorem ThW.arcsGrow (h : ThW w B t va vf vl l arcs fins) {w1 : World} (hg : w.grownBy w1 va.ownBlock) {v' : Value} {m : Nat} {arcs' : List ArcM} (hr : Row w1 B 72 5 v' m (arcCells arcs')) (hm : m = arcs'.length) :
    (w1.cell? ⟨t.p, 1, none⟩ = some va ∧ w1.frozen? ⟨t.p, 1, none⟩ = false ∧ w1.cell? ⟨t.p, 3, none⟩ = some (.bool false) ∧ w1.frozen? ⟨t.p, 3, none⟩ = false) ∧ ThW (w1.setCell ⟨t.p, 1, none⟩ v') B t v' vf vl l arcs' fins ∧ Fr t B w (w1.setCell ⟨t.p, 1, none⟩ v') := by
  subst hm
  have hb := grown_cells h.arcs hg h.blk (by decide)
  have h7 := grown_cells h.arcs hg h.c7 (by decide)
  have h8 := grown_cells h.arcs hg h.c8 (by decide)
  have h9 := grown_cells h.arcs hg h.c9 (by decide)
  refine ⟨by simp [World.cell?, World.frozen?, hb], ⟨⟨h.old.1, h.old.2.1, h.old.2.2.1, h.old.2.2.2.1, h.old.2.2.2.2.1, h.old.2.2.2.2.2.1, by simp [World.setCell]; exact Nat.le_trans h.size hg.size⟩, ?_, set_cells h7 (q := ⟨t.p, 1, none⟩) hb (by decide) _, set_cells h8 (q := ⟨t.p, 1, none⟩) hb (by decide) _, set_cells h9 (q := ⟨t.p, 1, none⟩) hb (by decide) _, ?_, ?_, ?_, h.lown, ?_⟩, ?_⟩
  · rw [blk_set hb]; rfl
  · exact hr.set_other (q := ⟨t.p, 1, none⟩) hb (by decide) _
  · exact (Row.other h.fins h.arcs hg (by decide)).set_other (q := ⟨t.p, 1, none⟩) hb (by decide) _
  · exact (Row.other h.lst h.arcs hg (by decide)).set_other (q := ⟨t.p, 1, none⟩) hb (by decide) _
  · exact (h.map.rowOther h.arcs hg).setCell (p := ⟨t.p, 1, none⟩) hb _
  · exact (Fr.grown hg h.size (fun k hk => .inr (.inr (.inr (.inr (h.arcs.lt k hk).1))))).trans (Fr.setCell _ (.inl rfl) _)
/-- The finals have grown. -/
theorem ThW.finsGrow (h : ThW w B t va vf vl l arcs fins) {w1 : World} (hg : w.grownBy w1 vf.ownBlock) {v' : Value} {m : Nat} {fins' : List Int} (hr : Row w1 B 75 2 v' m (finCells fins')) (hm : m = fins'.length) :
    (w1.cell? ⟨t.p, 2, none⟩ = some vf ∧ w1.frozen? ⟨t.p, 2, none⟩ = false) ∧ ThW (w1.setCell ⟨t.p, 2, none⟩ v') B t va v' vl l arcs fins' ∧ Fr t B w (w1.setCell ⟨t.p, 2, none⟩ v') := by
  subst hm
  have hb := grown_cells h.fins hg h.blk (by decide)
  have h7 := grown_cells h.fins hg h.c7 (by decide)
  have h8 := grown_cells h.fins hg h.c8 (by decide)
  have h9 := grown_cells h.fins hg h.c9 (by decide)
  refine ⟨by simp [World.cell?, World.frozen?, hb], ⟨⟨h.old.1, h.old.2.1, h.old.2.2.1, h.old.2.2.2.1, h.old.2.2.2.2.1, h.old.2.2.2.2.2.1, by simp [World.setCell]; exact Nat.le_trans h.size hg.size⟩, ?_, set_cells h7 (q := ⟨t.p, 2, none⟩) hb (by decide) _, set_cells h8 (q := ⟨t.p, 2, none⟩) hb (by decide) _, set_cells h9 (q := ⟨t.p, 2, none⟩) hb (by decide) _, ?_, ?_, ?_, h.lown, ?_⟩, ?_⟩
  · rw [blk_set hb]; rfl
  · exact (Row.other h.arcs h.fins hg (by decide)).set_other (q := ⟨t.p, 2, none⟩) hb (by decide) _
  · exact hr.set_other (q := ⟨t.p, 2, none⟩) hb (by decide) _
  · exact (Row.other h.lst h.fins hg (by decide)).set_other (q := ⟨t.p, 2, none⟩) hb (by decide) _
  · exact (h.map.rowOther h.fins hg).setCell (p := ⟨t.p, 2, none⟩) hb _
  · exact (Fr.grown hg h.size (fun k hk => .inr (.inr (.inr (.inr (h.fins.lt k hk).1))))).trans (Fr.setCell _ (.inl rfl) _)

theorem ThW.costly (h : ThW w B t va vf vl l arcs fins) : ThW (w.setCell ⟨t.p, 3, none⟩ (.bool false)) B t va vf vl l arcs fins ∧ Fr t B w (w.setCell ⟨t.p, 3, none⟩ (.bool false)) := by
  refine ⟨⟨⟨h.old.1, h.old.2.1, h.old.2.2.1, h.old.2.2.2.1, h.old.2.2.2.2.1, h.old.2.2.2.2.2.1, by simp [World.setCell]; exact h.size⟩, ?_, set_cells h.c7 (q := ⟨t.p, 3, none⟩) h.blk (by decide) _, set_cells h.c8 (q := ⟨t.p, 3, none⟩) h.blk (by decide) _, set_cells h.c9 (q := ⟨t.p, 3, none⟩) h.blk (by decide) _, h.arcs.set_other (q := ⟨t.p, 3, none⟩) h.blk (by decide) _, h.fins.set_other (q := ⟨t.p, 3, none⟩) h.blk (by decide) _, h.lst.set_other (q := ⟨t.p, 3, none⟩) h.blk (by decide) _, h.lown, h.map.setCell (p := ⟨t.p, 3, none⟩) h.blk _⟩, Fr.setCell _ (.inl rfl) _⟩
  rw [blk_set h.blk]; rfl
/-- What a method leaves. -/
def ThPost (B : Nat) (t : TB) (va0 vf0 vl0 : Value) (w : World) (r : Value) (l : List (Int × Int)) (arcs : List ArcM) (fins : List Int) (en : Ending) (w' : World) : Prop :=
  en = .returned r ∧ (∃ va vf vl, ThW w' B t va vf vl l arcs fins ∧ ∀ (b : Nat) (c : Array Value) (ty : TypeId), Loc t va0 vf0 vl0 w b c ty → Loc t va vf vl w' b c ty) ∧ Fr t B w w'

theorem mArc_any (f tt i o : Int) (h : ThW w B t va vf vl l arcs fins) (hl : arcs.length ≤ 1000000) :
    Calls Try.prog 28 #[.pointer (some ⟨t.p, 0, none⟩), .int .i64 f, .int .i64 tt, .int .i64 i, .int .i64 o, .int .i64 0] w (ThPost B t va vf vl w (.tuple #[]) l (arcs ++ [⟨f, tt, i, o⟩]) fins) := by
  obtain ⟨i0, hi0, hz0, hz1, hz2⟩ := info_parts info72
  have p1 := h.cellP 1
  simp at p1
  obtain ⟨p1, p1f⟩ := p1
  have hB := h.size
  have hpl := lt_heap h.blk
  have hn0 := new_alloc w (.cells #[.int .i64 f, .int .i64 tt, .int .i64 i, .int .i64 o, .int .i64 0] 72)
  have HH := Lib.hid (h.new_ hn0)
  have HA := Lib.hid h.arcs
  clear h
  go_enter Try.func28, Try.ntmps28
  go_wp2_with (at_builtin; refine wpList_append_row _ rfl _ _ 32 rfl B 72 i0 _ 5 40 Try.underlying32 hi0 hz0 hz1 hz2 rfl (by decide) _ _ _ rfl (HA.out.alloc _) (some ⟨w.heap.size, 0, none⟩) 1 1 [.int .i64 f, .int .i64 tt, .int .i64 i, .int .i64 o, .int .i64 0] rfl (Src.lit w #[.int .i64 f, .int .i64 tt, .int .i64 i, .int .i64 o, .int .i64 0] 72 1 (by simp) (by simp [Value.oneCell'])) ?c1 ?c2 ?c3 ?_)
  case c1 => unfold maxLen; omega
  case c2 => omega
  case c3 => simp; omega
  intro v' w1 hr1 hg1 hat1 _
  have HLC : Hid (∀ (b : Nat) (c : Array Value) (ty : TypeId), Loc t va vf vl w b c ty → Loc t v' vf vl ((w1.setCell ⟨t.p, 1, none⟩ v').setCell ⟨t.p, 3, none⟩ (.bool false)) b c ty) := fun b c ty hb =>
    ((hb.new_ hn0).arcsGrow hg1 (by rw [World.size_alloc]; exact hat1) _ _).set_ (q := ⟨t.p, 3, none⟩) (Ne.symm hb.np) _
  have hr1' : Row w1 B 72 5 v' (arcs ++ [(⟨f, tt, i, o⟩ : ArcM)]).length (arcCells (arcs ++ [(⟨f, tt, i, o⟩ : ArcM)])) := by simpa [arcCells] using hr1
  obtain ⟨⟨x1, x2, x3, x4⟩, hT, hF⟩ := HH.out.arcsGrow hg1 hr1' rfl
  obtain ⟨A1, k1, hv1, _⟩ := hr1.len
  have hT3 := hT.cellP 3
  simp at hT3
  obtain ⟨t3, t3f⟩ := hT3
  obtain ⟨hT', hF'⟩ := hT.costly
  have HT := Lib.hid hT'
  have HF := Lib.hid (((Fr.of_new hn0 hB).trans hF).trans hF')
  subst hv1
  clear hr1 hg1 hr1' hT hF hT' hF' hat1
  go_wp2
  go_end0
  exact ⟨rfl, ⟨_, _, _, HT.out, HLC.out⟩, HF.out⟩

theorem mFinal_any (st : Int) (h : ThW w B t va vf vl l arcs fins) (hl : fins.length ≤ 1000000) :
    Calls Try.prog 29 #[.pointer (some ⟨t.p, 0, none⟩), .int .i64 st, .int .i64 0] w (ThPost B t va vf vl w (.tuple #[]) l arcs (fins ++ [st])) := by
  obtain ⟨i0, hi0, hz0, hz1, hz2⟩ := info_parts info75
  have p1 := h.cellP 2
  simp at p1
  obtain ⟨p1, p1f⟩ := p1
  have hB := h.size
  have hpl := lt_heap h.blk
  have hn0 := new_alloc w (.cells #[.int .i64 st, .int .i64 0] 75)
  have HH := Lib.hid (h.new_ hn0)
  have HA := Lib.hid h.fins
  clear h
  go_enter Try.func29, Try.ntmps29
  go_wp2_with (at_builtin; refine wpList_append_row _ rfl _ _ 33 rfl B 75 i0 _ 2 16 Try.underlying33 hi0 hz0 hz1 hz2 rfl (by decide) _ _ _ rfl (HA.out.alloc _) (some ⟨w.heap.size, 0, none⟩) 1 1 [.int .i64 st, .int .i64 0] rfl (Src.lit w #[.int .i64 st, .int .i64 0] 75 1 (by simp) (by simp [Value.oneCell'])) ?c1 ?c2 ?c3 ?_)
  case c1 => unfold maxLen; omega
  case c2 => omega
  case c3 => simp; omega
  intro v' w1 hr1 hg1 hat1 _
  have HLC : Hid (∀ (b : Nat) (c : Array Value) (ty : TypeId), Loc t va vf vl w b c ty → Loc t va v' vl (w1.setCell ⟨t.p, 2, none⟩ v') b c ty) := fun b c ty hb => (hb.new_ hn0).finsGrow hg1 (by rw [World.size_alloc]; exact hat1) _ _
  have hr1' : Row w1 B 75 2 v' (fins ++ [st]).length (finCells (fins ++ [st])) := by simpa [finCells] using hr1
  obtain ⟨⟨x1, x2⟩, hT, hF⟩ := HH.out.finsGrow hg1 hr1' rfl
  obtain ⟨A1, k1, hv1, _⟩ := hr1.len
  have HT := Lib.hid hT
  have HF := Lib.hid ((Fr.of_new hn0 hB).trans hF)
  subst hv1
  clear hr1 hg1 hr1' hT hF hat1
  go_wp2
  go_end0
  exact ⟨rfl, ⟨_, _, _, HT.out, HLC.out⟩, HF.out⟩

theorem both_any (n n' : Nat) (hA hB : MachH) (arcs' : List ArcM) (fins' : List Int) (h : MachV w n hA arcs fins) (h' : MachV w n' hB arcs' fins') :
    Calls Try.prog 26 #[machVal n hA, machVal n' hB] w (ZeroPost w) := by
  obtain ⟨A, na, ca, F, nf, cf⟩ := hA
  obtain ⟨A', na', ca', F', nf', cf'⟩ := hB
  show Calls Try.prog 26 #[.agg #[.int .i64 n, .slice A na ca, .slice F nf cf], .agg #[.int .i64 n', .slice A' na' ca', .slice F' nf' cf']] w (ZeroPost w)
  have hn0 : New w ((w.alloc (.cells #[.int .i64 n, .slice A na ca, .slice F nf cf] 35)).alloc (.cells #[.int .i64 n', .slice A' na' ca', .slice F' nf' cf'] 35)) := ((New.refl w).alloc _).alloc _
  have H0 := Lib.hid (h.new_ hn0)
  have H1 := Lib.hid h'
  clear h h'
  go_enter Try.func26, Try.ntmps26
  go_wp2_with fail
  refine (mcheck_any n ⟨A, na, ca, F, nf, cf⟩ arcs fins _ H0.out).mono ?_
  rintro en w1 ⟨rfl, hw1⟩
  have hn1 := New.trans hn0 hw1
  have hx : ∀ i, i < 3 → w1.cell? ⟨w.heap.size + 1, i, none⟩ = (#[.int .i64 n', .slice A' na' ca', .slice F' nf' cf'] : Array Value)[i]? := by
    intro i hi
    rw [hw1.cell (by simp)]
    simp [go_sem]
  have x0 := hx 0 (by omega)
  have x1 := hx 1 (by omega)
  have x2 := hx 2 (by omega)
  simp at x0 x1 x2
  clear hx
  go_wp2_with fail
  refine (mcheck_any n' ⟨A', na', ca', F', nf', cf'⟩ arcs' fins' _ (H1.out.new_ hn1)).mono ?_
  rintro en w2 ⟨rfl, hw2⟩
  go_wp2
  go_ret
  exact ⟨rfl, New.trans hn1 hw2⟩

/-- Behind the numbering of a new pair. -/
theorem ThW.atGrow (h : ThW w B t va vf vl l arcs fins) {x : Int × Int} {w1 w2 : World} (hm : MapI prK w1 3 t.mb (l.length + 1) (posI (l ++ [x]))) (hg : w.grownBy w1 (some t.mb)) (o : Obj) {v' : Value} (hr : Row w2 0 80 2 v' (l.length + 1) (prCells l ++ [.int .i64 x.1, .int .i64 x.2]))
    (hg2 : (w1.alloc o).grownBy w2 vl.ownBlock) (hat : v'.ownBlock = vl.ownBlock ∨ v'.ownBlock = some (w1.alloc o).heap.size) :
    (w2.cell? ⟨t.b9, 0, none⟩ = some vl ∧ w2.frozen? ⟨t.b9, 0, none⟩ = false) ∧ ((w2.setCell ⟨t.b9, 0, none⟩ v').cell? ⟨t.b7, 0, none⟩ = some (.pointer (some ⟨t.p, 0, none⟩)) ∧ (w2.setCell ⟨t.b9, 0, none⟩ v').cell? ⟨t.p, 0, none⟩ = some (.int .i64 l.length) ∧ (w2.setCell ⟨t.b9, 0, none⟩ v').frozen? ⟨t.p, 0, none⟩ = false) ∧
      ThW ((w2.setCell ⟨t.b9, 0, none⟩ v').setCell ⟨t.p, 0, none⟩ (.int .i64 ((l.length : Int) + 1))) B t va vf v' (l ++ [x]) arcs fins ∧ Fr t B w ((w2.setCell ⟨t.b9, 0, none⟩ v').setCell ⟨t.p, 0, none⟩ (.int .i64 ((l.length : Int) + 1))) := by
  have hl1 : Row w1 0 80 2 vl l.length (prCells l) := h.lst.mapOther hg h.map.isMap
  have hl1' := hl1.alloc o
  have up : ∀ {b : Nat} {c : Array Value} {ty : TypeId}, w.heap[b]? = some (.cells c ty (0, 0)) → ty ≠ 80 → w2.heap[b]? = some (.cells c ty (0, 0)) := by
    intro b c ty hb hne
    have h1 := grown_mapc h.map.isMap hg hb
    have h2 : (w1.alloc o).heap[b]? = some (.cells c ty (0, 0)) := by rw [Below.heap_alloc w1 o b (lt_heap h1)]; exact h1
    exact grown_cells hl1' hg2 h2 hne
  have hb := up h.blk (by decide)
  have h7 := up h.c7 (by decide)
  have h8 := up h.c8 (by decide)
  have h9 := up h.c9 (by decide)
  have k7 := set_cells h7 (q := ⟨t.b9, 0, none⟩) h9 (by decide) v'
  have k8 := set_cells h8 (q := ⟨t.b9, 0, none⟩) h9 (by decide) v'
  have kb := set_cells hb (q := ⟨t.b9, 0, none⟩) h9 (by decide) v'
  have k9 := blk_set h9 0 v'
  have hsz : B ≤ w2.heap.size := by
    have h1 := hg.size
    have h2 := hg2.size
    have h3 := h.size
    simp at h2
    omega
  have rows : ∀ {base size n : Nat} {e : TypeId} {v : Value} {xs : List Value}, Row w base e size v n xs → e ≠ 80 → e ≠ 82 → e ≠ 79 → Row ((w2.setCell ⟨t.b9, 0, none⟩ v').setCell ⟨t.p, 0, none⟩ (.int .i64 ((l.length : Int) + 1))) base e size v n xs := by
    intro base size n e v xs hrw e1 e2 e3
    have r1 := (hrw.mapOther hg h.map.isMap).alloc o
    have r2 := Row.other r1 hl1' hg2 e1
    exact (r2.set_other (q := ⟨t.b9, 0, none⟩) h9 e2 _).set_other (q := ⟨t.p, 0, none⟩) kb e3 _
  have hlo : ∀ k, vl.ownBlock = some k → k = t.p ∨ k = t.mb ∨ k = t.b9 ∨ k = t.lb ∨ B ≤ k := fun k hk => (h.lown k hk).elim (fun e => .inr (.inr (.inr (.inl e)))) (fun e => .inr (.inr (.inr (.inr e))))
  refine ⟨by simp [World.cell?, World.frozen?, h9], by simp [World.cell?, World.frozen?, k7, kb], ⟨⟨h.old.1, h.old.2.1, h.old.2.2.1, h.old.2.2.2.1, h.old.2.2.2.2.1, h.old.2.2.2.2.2.1, by simp [World.setCell]; exact hsz⟩, ?_, set_cells k7 (q := ⟨t.p, 0, none⟩) kb (by decide) _, set_cells k8 (q := ⟨t.p, 0, none⟩) kb (by decide) _, set_cells k9 (q := ⟨t.p, 0, none⟩) kb (by decide) _,
    rows h.arcs (by decide) (by decide) (by decide), rows h.fins (by decide) (by decide) (by decide), ?_, ?_, ?_⟩, ?_⟩
  · rw [blk_set kb]
    simp
  · rw [List.length_append, prCells_app]
    exact (hr.set_other (q := ⟨t.b9, 0, none⟩) h9 (by decide) _).set_other (q := ⟨t.p, 0, none⟩) kb (by decide) _
  · intro k hk
    rcases hat with h0 | h0
    · rw [h0] at hk; exact h.lown k hk
    · rw [h0] at hk
      injection hk with hk
      have h1 := hg.size
      have h3 := h.size
      simp at hk
      exact .inr (by omega)
  · rw [List.length_append]
    exact (((hm.alloc o).rowOther hl1' hg2).setCell (p := ⟨t.b9, 0, none⟩) h9 _).setCell (p := ⟨t.p, 0, none⟩) kb _
  · have f1 : Fr t B w w1 := Fr.grown hg h.size (fun k hk => by cases hk; exact .inr (.inl rfl))
    have hB1 : B ≤ w1.heap.size := Nat.le_trans h.size hg.size
    have f2 : Fr t B w1 (w1.alloc o) := Fr.of_new (new_alloc w1 o) hB1
    have f3 : Fr t B (w1.alloc o) w2 := Fr.grown hg2 (by simp; omega) hlo
    exact (((f1.trans f2).trans f3).trans (Fr.setCell _ (.inr (.inr (.inl rfl))) _)).trans (Fr.setCell _ (.inl rfl) _)
/-- The number of a pair. -/
def atM (l : List (Int × Int)) (x : Int × Int) : List (Int × Int) × Nat := match posF x l with
  | some n => (l, n)
  | none => (l ++ [x], l.length)

theorem at_any (i j : Int) (hi : wfI i ∧ wfI j) (h : ThW w B t va vf vl l arcs fins) (hl : l.length ≤ 1000000) :
    Calls Try.prog 27 #[.int .i64 i, .int .i64 j, .pointer (some ⟨t.b8, 0, none⟩), .pointer (some ⟨t.b9, 0, none⟩), .pointer (some ⟨t.b7, 0, none⟩)] w (ThPost B t va vf vl w (.int .i64 (atM l (i, j)).2) (atM l (i, j)).1 arcs fins) := by
  have hB := h.size
  have hn0 := new_alloc w (.cells #[.int .i64 i, .int .i64 j] 80)
  have h0 := h.new_ hn0
  have HH := Lib.hid h0
  have x8 := h0.cell8
  have x9 := h0.cell9
  have x7 := h0.cell7
  have HK : Hid (prK.ok (i, j)) := hi
  cases hp : posF (i, j) l with
  | some n =>
    have HR : Hid (posI l (i, j) = some (n : Int)) := by unfold Hid posI; rw [hp]; rfl
    have HA : Hid (atM l (i, j) = (l, n)) := by unfold Hid atM; rw [hp]
    clear hp h h0 hi
    go_enter Try.func27, Try.ntmps27
    go_wp2_with (at_lookup; refine wpList_lookup_mapI_ok rfl _ _ 81 rfl law80 Try.underlying81 Try.underlying3 (zero3 _) rfl HH.out.map (i, j) rfl HK.out (some (n : Int)) HR ?_)
    go_ret
    rw [HA.out]
    exact ⟨rfl, ⟨_, _, _, HH.out, fun b c ty hb => hb.new_ hn0⟩, Fr.of_new hn0 hB⟩
  | none =>
    have HR : Hid (posI l (i, j) = none) := by unfold Hid posI; rw [hp]; rfl
    have HA : Hid (atM l (i, j) = (l ++ [(i, j)], l.length)) := by unfold Hid atM; rw [hp]
    have HP := Lib.hid (posI_snoc hp)
    obtain ⟨i8, hi8, hz80, hz81, hz82⟩ := info_parts info80
    obtain ⟨Al, kl, rfl, _⟩ := h.lst.len
    have hlw : (Lit.int .i64 (l.length : Int)).wf = true := WalkArith.wf_i64 (by omega)
    have HLW := Lib.hid hlw
    clear hp h h0 hi hlw
    go_enter Try.func27, Try.ntmps27
    go_wp2_with (first
      | (at_lookup; refine wpList_lookup_mapI_ok rfl _ _ 81 rfl law80 Try.underlying81 Try.underlying3 (zero3 _) rfl HH.out.map (i, j) rfl HK.out none HR ?_)
      | (at_mapUpdate; refine wpList_update_mapI rfl _ _ _ 81 rfl law80 Try.underlying81 Try.underlying3 rfl HH.out.map (by unfold maxLen; omega) (i, j) rfl HK.out (l.length : Int) rfl HLW.out ?_)
      | fail)
    intro w1 hm1 hg1
    rw [HP.out] at hm1
    have hisM := HH.out.map.isMap
    have hb9 := grown_mapc hisM hg1 HH.out.c9
    have y9 : w1.cell? ⟨t.b9, 0, none⟩ = some (.slice Al l.length kl) := by simp [World.cell?, hb9]
    have hlc : w1.heap[w.heap.size]? = some (.cells #[.int .i64 i, .int .i64 j] 80 (0, 0)) := grown_mapc hisM hg1 (heap_alloc_new w _)
    have z0 : w1.cell? ⟨w.heap.size, 0, none⟩ = some (.int .i64 i) := by simp [World.cell?, hlc]
    have z1 : w1.cell? ⟨w.heap.size, 1, none⟩ = some (.int .i64 j) := by simp [World.cell?, hlc]
    have HL1 := Lib.hid (HH.out.lst.mapOther hg1 hisM)
    have HM1 := Lib.hid hm1
    have HG1 := Lib.hid hg1
    have hsz1 := hg1.size
    clear hm1 hg1 hisM hb9 hlc x7 x8 x9
    go_wp2_with (at_builtin; refine wpList_append_row _ rfl _ _ 82 rfl 0 80 i8 _ 2 16 Try.underlying82 hi8 hz80 hz81 hz82 rfl (by decide) _ _ _ rfl (HL1.out.alloc _) (some ⟨w1.heap.size, 0, none⟩) 1 1 [.int .i64 i, .int .i64 j] rfl (Src.lit w1 #[.int .i64 i, .int .i64 j] 80 1 (by simp) (by simp [Value.oneCell'])) ?c1 ?c2 ?c3 ?_)
    case c1 => unfold maxLen; omega
    case c2 => omega
    case c3 => omega
    intro v2 w2 hr2 hg2 hat2 _
    obtain ⟨⟨g1, g2⟩, ⟨g3, g4, g5⟩, hT, hF⟩ := HH.out.atGrow (x := (i, j)) HM1.out HG1.out _ hr2 hg2 (by rw [World.size_alloc]; exact hat2)
    obtain ⟨A2, k2, hv2, _⟩ := hr2.len
    have HT := Lib.hid hT
    have HF := Lib.hid ((Fr.of_new hn0 hB).trans hF)
    have HLC : Hid (∀ (b : Nat) (c : Array Value) (ty : TypeId), Loc t va vf (.slice Al l.length kl) w b c ty → Loc t va vf v2 ((w2.setCell ⟨t.b9, 0, none⟩ v2).setCell ⟨t.p, 0, none⟩ (.int .i64 ((l.length : Int) + 1))) b c ty) := by
      intro b c ty hb
      have hbl := lt_heap hb.blk
      have hb1 := hb.new_ hn0
      have h1 := hb1.row HG1.out (fun e => hb1.nm (by injection e with e; exact e.symm))
      have hbl1 := lt_heap h1
      have h2 : (w1.alloc (.cells #[.int .i64 i, .int .i64 j] 80)).heap[b]? = some (.cells c ty (0, 0)) := by rw [Below.heap_alloc w1 _ b hbl1]; exact h1
      have h3 : w2.heap[b]? = some (.cells c ty (0, 0)) := (hg2.block b (lt_heap h2) (Ne.symm hb1.nl)).trans h2
      exact ((⟨h3, hb.np, hb.nm, hb.n9, hb.na, hb.nf, own_ne hat2 hb.nl (by omega)⟩ : Loc t va vf v2 w2 b c ty).set_ (q := ⟨t.b9, 0, none⟩) (Ne.symm hb.n9) _).set_ (q := ⟨t.p, 0, none⟩) (Ne.symm hb.np) _
    subst hv2
    clear hr2 hg2 hat2 hT hF
    go_wp2
    go_ret
    rw [HA.out]
    exact ⟨rfl, ⟨_, _, _, HT.out, HLC.out⟩, HF.out⟩
end
end Go.Proofs.Ytglmlbmjppblbaa
