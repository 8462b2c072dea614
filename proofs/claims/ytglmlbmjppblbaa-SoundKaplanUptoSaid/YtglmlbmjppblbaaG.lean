/- Words for rows of memory that a call itself made, and appends onto them. -/
import Derived.WalkKit
import Derived.WalkLawsBesides
import Derived.WalkSpells
import Derived.BigQuiet
import Derived.Deep.QuietTactic
import Derived.Deep.RegionLaw
import Derived.StillTailTactics
import Derived.Lib.Hide
import Derived.Maps.OwnSet
namespace Go.Kap
open Go.RowKit

/-- The slice value v, of n elements of type e (size cells each), lies in a block from base on, not frozen; its cells read xs; its spare room is there. -/
def Row (w : World) (base : Nat) (e : TypeId) (size : Nat) (v : Value) (n : Nat) (xs : List Value) : Prop :=
  xs.length = n * size ∧
  ((v = .slice none 0 0 ∧ n = 0) ∨
   ∃ g off cap cur, v = .slice (some ⟨g, off, none⟩) n cap ∧ base ≤ g ∧ w.heap[g]? = some (.cells cur e (0, 0)) ∧ n ≤ cap ∧ cap ≤ maxLen ∧ off + cap * size ≤ cur.size ∧ (cur.toList.drop off).take (n * size) = xs)

/-- What is appended: m elements at A read news. -/
def Src (w : World) (A : Option Addr) (m size : Nat) (news : List Value) : Prop :=
  news.length = m * size ∧ (∀ u ∈ news, u.oneCell' = true) ∧ (0 < m → ∃ ad, A = some ad ∧ ∀ j u, news[j]? = some u → w.cell? (ad.add j) = some u)

section
variable {w w' : World} {base : Nat} {e : TypeId} {size n : Nat} {v : Value} {xs : List Value}
theorem Row.nil_ (w : World) (base : Nat) (e : TypeId) (size : Nat) : Row w base e size (.slice none 0 0) 0 [] := ⟨by simp, .inl ⟨rfl, rfl⟩⟩
theorem lt_heap {g : Nat} {o : Obj} (h : w.heap[g]? = some o) : g < w.heap.size := (Array.getElem?_eq_some_iff.1 h).1
theorem Row.lt (h : Row w base e size v n xs) : ∀ k, v.ownBlock = some k → base ≤ k ∧ k < w.heap.size := by
  rcases h.2 with ⟨rfl, _⟩ | ⟨g, off, cap, cur, rfl, hb, hg, _⟩
  · intro k hk; simp [Value.ownBlock] at hk
  · intro k hk; simp [Value.ownBlock] at hk; subst hk; exact ⟨hb, lt_heap hg⟩
theorem Row.of_heap (h : Row w base e size v n xs) (hk : ∀ k, v.ownBlock = some k → w'.heap[k]? = w.heap[k]?) : Row w' base e size v n xs := by
  refine ⟨h.1, ?_⟩
  rcases h.2 with h0 | ⟨g, off, cap, cur, rfl, hb, hg, h1⟩
  · exact .inl h0
  · exact .inr ⟨g, off, cap, cur, rfl, hb, (hk g rfl).trans hg, h1⟩
theorem Row.kept {row : Option Nat} (h : Row w base e size v n xs) (hg : w.grownBy w' row) (hne : v.ownBlock = none ∨ v.ownBlock ≠ row) : Row w' base e size v n xs :=
  h.of_heap fun k hk => hg.block k (h.lt k hk).2 (by
    rw [hk] at hne
    rcases hne with h0 | h0
    · cases h0
    · exact h0)
theorem Row.alloc (h : Row w base e size v n xs) (o : Obj) : Row (w.alloc o) base e size v n xs := h.of_heap fun k hk => Below.heap_alloc w o k (h.lt k hk).2
theorem Row.drew (h : Row w base e size v n xs) : Row w.drew base e size v n xs := h
theorem Row.drewN (h : Row w base e size v n xs) (k : Nat) : Row (w.drewN k) base e size v n xs := h
theorem Row.new_ (h : Row w base e size v n xs) (hb : Below w.heap.size w w') : Row w' base e size v n xs := h.of_heap fun k hk => hb.block k (h.lt k hk).2
theorem Row.below {B : Nat} (h : Row w base e size v n xs) (hb : Below B w w') (hB : ∀ k, v.ownBlock = some k → k < B) : Row w' base e size v n xs := h.of_heap fun k hk => hb.block k (hB k hk)
theorem Row.mono {base' : Nat} (h : Row w base e size v n xs) (hb : base' ≤ base) : Row w base' e size v n xs := by
  refine ⟨h.1, ?_⟩
  rcases h.2 with h0 | ⟨g, off, cap, cur, rfl, hb', hg, h1⟩
  · exact .inl h0
  · exact .inr ⟨g, off, cap, cur, rfl, by omega, hg, h1⟩
theorem Row.setCell (h : Row w base e size v n xs) {p : Addr} (hp : v.ownBlock = none ∨ v.ownBlock ≠ some p.block) (u : Value) : Row (w.setCell p u) base e size v n xs :=
  h.of_heap fun k hk => Below.heap_setCell w p u k (by
    rintro rfl
    rw [hk] at hp
    rcases hp with h0 | h0
    · cases h0
    · exact h0 rfl)
theorem Row.len (h : Row w base e size v n xs) : ∃ A c, v = .slice A n c ∧ n ≤ c ∧ c ≤ maxLen ∧ (A = none → n = 0 ∧ c = 0) := by
  rcases h.2 with ⟨rfl, rfl⟩ | ⟨g, off, cap, cur, rfl, hb, hg, h1, h2, _⟩
  · exact ⟨none, 0, rfl, Nat.le_refl _, Nat.zero_le _, fun _ => ⟨rfl, rfl⟩⟩
  · exact ⟨_, _, rfl, h1, h2, fun h => by cases h⟩
/-- Its cells. -/
theorem Row.cell {A : Option Addr} {c : Nat} (h : Row w base e size (.slice A n c) n xs) (hn : 0 < n) : ∃ g off, A = some ⟨g, off, none⟩ ∧ base ≤ g ∧ g < w.heap.size ∧ ∀ j, j < n * size → w.cell? ⟨g, off + j, none⟩ = xs[j]? := by
  rcases h.2 with ⟨_, rfl⟩ | ⟨g, off, cap, cur, hv, hb, hg, h1, h2, h3, h4⟩
  · omega
  · injection hv with hA hn' hc
    refine ⟨g, off, hA, hb, lt_heap hg, fun j hj => ?_⟩
    subst h4
    simp [World.cell?, hg, hj, List.getElem?_drop]
theorem Row.free {A : Option Addr} {c : Nat} (h : Row w base e size (.slice A n c) n xs) {g off : Nat} (hA : A = some ⟨g, off, none⟩) (i : Nat) : w.frozen? ⟨g, i, none⟩ = false := by
  rcases h.2 with ⟨h0, _⟩ | ⟨g', off', cap, cur, hv, hb, hg, _⟩
  · injection h0 with h0; rw [hA] at h0; cases h0
  · injection hv with hv; rw [hA] at hv; injection hv with hv; injection hv with hv; subst hv
    simp [World.frozen?, hg]
theorem Row.src (h : Row w base e size v n xs) (h1 : ∀ u ∈ xs, u.oneCell' = true) : ∃ A c, v = .slice A n c ∧ Src w A n size xs := by
  obtain ⟨A, c, rfl, _⟩ := h.len
  refine ⟨A, c, rfl, h.1, h1, fun hn => ?_⟩
  obtain ⟨g, off, rfl, _, _, hc⟩ := h.cell hn
  refine ⟨_, rfl, fun j u hu => ?_⟩
  have hj : j < n * size := by rw [← h.1]; exact (List.getElem?_eq_some_iff.1 hu).1
  rw [Addr.add_lit, hc j hj, hu]
/-- A block that was just laid. -/
theorem Row.fresh (w : World) (cs : Array Value) (k : Nat) (hb : base ≤ w.heap.size) (hs : cs.size = k * size) (hm : k ≤ maxLen) : Row (w.alloc (.cells cs e)) base e size (.slice (some ⟨w.heap.size, 0, none⟩) k k) k cs.toList :=
  ⟨by simpa using hs, .inr ⟨w.heap.size, 0, k, cs, rfl, hb, heap_alloc_new w _, Nat.le_refl _, hm, by omega, by rw [← hs]; simp [List.take_of_length_le]⟩⟩

theorem cell_lt {a : Addr} {u : Value} (h : w.cell? a = some u) : a.block < w.heap.size := by
  unfold World.cell? at h
  split at h
  · rename_i hb; exact lt_heap hb
  · cases h
theorem add_block (a : Addr) (k : Nat) : (a.add k).block = a.block := by unfold Addr.add; split <;> rfl
theorem Src.new_ {A : Option Addr} {m : Nat} {news : List Value} (h : Src w A m size news) (hb : Below w.heap.size w w') : Src w' A m size news :=
  ⟨h.1, h.2.1, fun hm => by
    obtain ⟨ad, e, hc⟩ := h.2.2 hm
    exact ⟨ad, e, fun j u hu => (hb.cell (cell_lt (hc j u hu))).trans (hc j u hu)⟩⟩
theorem Row.typed {w : World} {base : Nat} {e : TypeId} {size n : Nat} {v : Value} {xs : List Value} (h : Row w base e size v n xs) {k : Nat} (hk : v.ownBlock = some k) : ∃ cur, w.heap[k]? = some (.cells cur e (0, 0)) := by
  rcases h.2 with ⟨rfl, _⟩ | ⟨g, off, cap, cur, rfl, hb, hg, _⟩
  · simp [Value.ownBlock] at hk
  · simp [Value.ownBlock] at hk; subst hk; exact ⟨_, hg⟩
theorem ne_typed {w : World} {x y : Nat} {cx cy : Array Value} {tx ty : TypeId} {fx fy : Nat × Nat} (hx : w.heap[x]? = some (.cells cx tx fx)) (hy : w.heap[y]? = some (.cells cy ty fy)) (h : tx ≠ ty) : x ≠ y := by
  rintro rfl
  rw [hx] at hy
  injection hy with hy
  injection hy with _ hy
  exact h hy
/-- A row of another type is kept. -/
theorem Row.other {w w' : World} {base base' : Nat} {e e' : TypeId} {size size' n n' : Nat} {v v' : Value} {xs xs' : List Value} (h : Row w base e size v n xs) (h' : Row w base' e' size' v' n' xs') (hg : w.grownBy w' v'.ownBlock) (hne : e ≠ e') : Row w' base e size v n xs :=
  h.of_heap fun k hk => hg.block k (h.lt k hk).2 (fun e0 => by
    obtain ⟨c1, h1⟩ := h.typed hk
    obtain ⟨c2, h2⟩ := h'.typed e0.symm
    exact ne_typed h1 h2 hne rfl)
theorem Row.set_other {w : World} {base : Nat} {e : TypeId} {size n : Nat} {v : Value} {xs : List Value} (h : Row w base e size v n xs) {q : Addr} {c : Array Value} {t : TypeId} {fr : Nat × Nat} (hp : w.heap[q.block]? = some (.cells c t fr)) (hne : e ≠ t) (u : Value) : Row (w.setCell q u) base e size v n xs :=
  h.of_heap fun k hk => Below.heap_setCell w q u k (by
    obtain ⟨c1, h1⟩ := h.typed hk
    exact ne_typed h1 hp hne)
theorem blk_set {w : World} {q : Nat} {c : Array Value} {t : TypeId} (h : w.heap[q]? = some (.cells c t (0, 0))) (i : Nat) (u : Value) : (w.setCell ⟨q, i, none⟩ u).heap[q]? = some (.cells (c.setIfInBounds i u) t (0, 0)) := by
  simp [World.setCell, Array.getElem?_modify, h]

theorem Src.none_ (w : World) (A : Option Addr) (size : Nat) : Src w A 0 size [] := ⟨by simp, by simp, fun h => absurd h (by omega)⟩
/-- What was just laid. -/
theorem Src.lit (w : World) (cs : Array Value) (e : TypeId) (m : Nat) (hs : cs.size = m * size) (h1 : ∀ u ∈ cs.toList, u.oneCell' = true) : Src (w.alloc (.cells cs e)) (some ⟨w.heap.size, 0, none⟩) m size cs.toList :=
  ⟨by simpa using hs, h1, fun _ => ⟨_, rfl, fun j u hu => by
    have hc : (w.alloc (.cells cs e)).cell? ⟨w.heap.size, 0 + j, none⟩ = cs[j]? := by simp [go_sem]
    rw [Addr.add_lit, hc, ← hu]
    simp⟩⟩
theorem Src.nil_of {A : Option Addr} {news : List Value} (h : Src w A 0 size news) : news = [] := List.eq_nil_of_length_eq_zero (by simpa using h.1)
/-- Only new blocks. -/
abbrev New (w w' : World) : Prop := Below w.heap.size w w'
theorem New.refl (w : World) : New w w := Below.refl _ _
theorem New.trans {a b c : World} (h : New a b) (k : New b c) : New a c := Below.trans h (Below.mono k h.size)
theorem New.alloc {a w : World} (h : New a w) (o : Obj) : New a (w.alloc o) := Below.alloc h h.size o
theorem New.drewN {a w : World} (h : New a w) (n : Nat) : New a (w.drewN n) := ⟨h.os, h.tape, h.output, h.size, h.block⟩
theorem New.drew_ {a w : World} (h : New a w) : New a w.drew := Below.drew h
theorem New.setCell {a w : World} (h : New a w) {p : Addr} (hp : a.heap.size ≤ p.block) (u : Value) : New a (w.setCell p u) := Below.setCell h hp u
theorem New.cell_ {a w : World} (h : New a w) {p : Addr} {u : Value} (hc : a.cell? p = some u) : w.cell? p = some u := (Below.cell h (cell_lt hc)).trans hc
theorem New.free_ {a w : World} (h : New a w) {p : Addr} {u : Value} (hc : a.cell? p = some u) (hf : a.frozen? p = false) : w.frozen? p = false := (Below.frozen h (cell_lt hc)).trans hf
/-- An append onto a row that lies in new memory. -/
theorem New.grown {a w w' : World} (h : New a w) {row : Option Nat} (hg : w.grownBy w' row) (hr : ∀ k, row = some k → a.heap.size ≤ k) : New a w' := Below.grown h hg h.size hr
theorem New.row {a w w' : World} (h : New a w) {base : Nat} {e : TypeId} {size n : Nat} {v : Value} {xs : List Value} (hr : Row w base e size v n xs) (hB : a.heap.size ≤ base) (hg : w.grownBy w' v.ownBlock) : New a w' :=
  New.grown h hg fun k hk => Nat.le_trans hB (hr.lt k hk).1
end

section
variable {P : Program} (w : World)

theorem run_append_row (base : Nat) (t ty e : TypeId) (i : TypeInfo) (z : Value) (size bytes : Nat) (ht : P.underlying t = some (.slice e)) (hi : P.info? e = some i) (hz : i.zero = some z)
    (hsize : i.size = size) (hby : i.bytes = bytes) (hzs : z.cells.size = size) (hsz : 0 < size)
    (v : Value) (n : Nat) (xs : List Value) (hown : Row w base e size v n xs)
    (A : Option Addr) (m c : Nat) (news : List Value) (hr : Src w A m size news)
    (h63 : n + m ≤ maxLen) (hbytes : (n + m) * bytes ≤ 140737488355328) (hbase : base ≤ w.heap.size) :
    ∃ v' w', (Builtin.append_ #[t, t] ty #[v, .slice A m c]).run P w = .ok v' w' ∧ Row w' base e size v' (n + m) (xs ++ news) ∧ w.grownBy w' v.ownBlock ∧
      (v'.ownBlock = v.ownBlock ∨ v'.ownBlock = some w.heap.size) ∧ (v' = .slice none 0 0 ↔ v = .slice none 0 0 ∧ m = 0) := by
  subst hsize
  subst hby
  obtain ⟨hl, h1, hr⟩ := hr
  have hsmall : n + m ≤ 9223372036854775807 := by simp only [maxLen] at h63; omega
  have hlen : (xs ++ news).length = (n + m) * i.size := by rw [List.length_append, hown.1, hl, Nat.add_mul]
  have grown : ∀ (old : Nat), old < n + m → ∀ (row : Option Nat),
      Row (w.drew.alloc (.cells (xs.toArray ++ news.toArray ++ Builtin.zeroCells z.cells (grownCap w (n + m) old e - (n + m))) e)) base e i.size
        (.slice (some ⟨w.heap.size, 0, none⟩) (n + m) (grownCap w (n + m) old e)) (n + m) (xs ++ news) ∧
      w.grownBy (w.drew.alloc (.cells (xs.toArray ++ news.toArray ++ Builtin.zeroCells z.cells (grownCap w (n + m) old e - (n + m))) e)) row := by
    intro old ho row
    have hge := grownCap_ge w (n + m) old e
    have hcm : grownCap w (n + m) old e ≤ maxLen := grownCap_le_maxLen w (n + m) old e h63
    refine ⟨⟨hlen, .inr ⟨w.heap.size, 0, _, _, rfl, hbase, heap_alloc_new w.drew _, hge, hcm, ?_, ?_⟩⟩, ⟨rfl, rfl, rfl, by simp, fun k hk _ => Below.heap_alloc w.drew _ k hk⟩⟩
    · simp only [Array.size_append, List.size_toArray, size_zeroCells, hzs, hown.1, hl, ← Nat.add_mul, Nat.zero_add]
      exact Nat.le_of_eq (by congr 1; omega)
    · simp only [Array.toList_append, List.append_assoc, List.drop_zero]
      rw [← List.append_assoc, ← hlen]
      exact List.take_left
  rcases hown.2 with ⟨rfl, rfl⟩ | ⟨g, off, cap, cur, rfl, hbg, hg, hnc, hcm, hcs, htake⟩
  · have hx : xs = [] := List.eq_nil_of_length_eq_zero (by simpa using hown.1)
    subst hx
    by_cases hm : m = 0
    · subst hm
      have hn : news = [] := List.eq_nil_of_length_eq_zero (by simpa using hl)
      subst hn
      refine ⟨.slice none 0 0, w, ?_, Row.nil_ w base e i.size, ⟨rfl, rfl, rfl, Nat.le_refl _, fun _ _ _ => rfl⟩, .inl rfl, by simp⟩
      cases A <;> simp [Builtin.append_, run_underlying ht, sizeOf, typeInfo, hi, Builtin.lenOf, Builtin.firstCells, loadCells, loadCellsFrom]
    · obtain ⟨a, rfl, hnews⟩ := hr (by omega)
      have hr := run_append_nil (P := P) w t ty e i z ht hi hz a m c news hl hnews (by omega) (by omega) (by have hb := hbytes; simp only [Nat.zero_add] at hb; omega)
      have hgr := grown 0 (by omega) (Value.ownBlock (.slice none 0 0))
      simp only [Nat.zero_add, List.nil_append, Array.empty_append] at hgr ⊢
      exact ⟨_, _, hr, hgr.1, hgr.2, .inr rfl, by simp [hm]⟩
  · by_cases hroom : n + m ≤ cap
    · have hmul : (n + m) * i.size ≤ cap * i.size := Nat.mul_le_mul_right _ hroom
      rw [Nat.add_mul] at hmul
      have hst := run_storeCells_at (P := P) g (off + n * i.size) e news 0 cur w hg (by rw [hl]; omega) h1
      simp only [Nat.add_zero] at hst
      have hrun : (Builtin.append_ #[t, t] ty #[.slice (some ⟨g, off, none⟩) n cap, .slice A m c]).run P w =
          .ok (.slice (some ⟨g, off, none⟩) (n + m) cap) (w.setRow g (cur.toList.take (off + n * i.size) ++ news ++ cur.toList.drop (off + n * i.size + news.length)).toArray) := by
        by_cases hm : m = 0
        · subst hm
          have hn : news = [] := List.eq_nil_of_length_eq_zero (by simpa using hl)
          subst hn
          have hself : w.setRow g (cur.toList.take (off + n * i.size) ++ [] ++ cur.toList.drop (off + n * i.size + ([] : List Value).length)).toArray = w := by
            simp only [List.append_nil, List.length_nil, Nat.add_zero, List.take_append_drop, Array.toArray_toList]
            exact setRow_self w g cur e (0, 0) hg
          rw [hself]
          cases A <;> simp [Builtin.append_, run_underlying ht, sizeOf, typeInfo, hi, Builtin.lenOf, hnc, Builtin.firstCells, loadCells, loadCellsFrom, storeCells]
        · obtain ⟨a, rfl, hnews⟩ := hr (by omega)
          have hf := run_firstCells_some (P := P) w i.size m a m c news hl hnews
          simp [Builtin.append_, run_underlying ht, sizeOf, typeInfo, hi, Builtin.lenOf, hroom, hf, Addr.add_lit, hst]
      refine ⟨_, _, hrun, ⟨hlen, .inr ⟨g, off, cap, _, rfl, hbg, setRow_heap w g cur _ e _ hg, hroom, hcm, ?_, ?_⟩⟩, ⟨rfl, rfl, rfl, by simp, fun k _ hk => setRow_other w g k _ (fun e => hk (by simp [Value.ownBlock, e]))⟩, .inl rfl, by simp⟩
      · simp only [List.size_toArray, List.length_append, List.length_take, List.length_drop, Array.length_toList, hl]
        omega
      · have h0 : (cur.toList.take (off + n * i.size)).length = off + n * i.size := by rw [List.length_take, Array.length_toList]; omega
        have h2 : (cur.toList.take (off + n * i.size)).drop off = xs := by
          rw [List.drop_take, ← htake]
          congr 1
          omega
        rw [List.append_assoc, List.drop_append_of_le_length (by omega), h2, ← List.append_assoc, ← hlen]
        exact List.take_left
    · have holds : ∀ j u, xs[j]? = some u → w.cell? ((⟨g, off, none⟩ : Addr).add j) = some u := by
        intro j u hu
        have hj : j < xs.length := (List.getElem?_eq_some_iff.1 hu).1
        rw [hown.1] at hj
        rw [Addr.add_lit, ← hu, ← htake]
        simp [World.cell?, hg, hj]
      have hm : 0 < m := by omega
      obtain ⟨a, rfl, hnews⟩ := hr hm
      have hrun := run_append_grow (P := P) w t ty e i z ht hi hz ⟨g, off, none⟩ n cap xs hown.1 holds a m c news hl hnews (by omega) (by omega) (growslice_fits (by omega) hbytes)
      have hgr := grown cap (by omega) (Value.ownBlock (.slice (some ⟨g, off, none⟩) n cap))
      exact ⟨_, _, hrun, hgr.1, hgr.2, .inr rfl, by simp⟩

theorem wp_append_row {o : Oper} {a : Act} {K : Act → World → Prop} {Q : Exit → Act → World → Prop} (s x : Operand) (t : TypeId)
    (ho : o.op = .call { callee := .builtin .append, args := #[s, x], argTypes := #[t, t] })
    (base : Nat) (e : TypeId) (i : TypeInfo) (z : Value) (size bytes : Nat) (ht : P.underlying t = some (.slice e)) (hi : P.info? e = some i) (hz : i.zero = some z)
    (hsize : i.size = size) (hby : i.bytes = bytes) (hzs : z.cells.size = size) (hsz : 0 < size)
    (v : Value) (n : Nat) (xs : List Value) (hs : a.eval s = v) (hown : Row w base e size v n xs)
    (A : Option Addr) (m c : Nat) (news : List Value) (hx : a.eval x = .slice A m c) (hr : Src w A m size news)
    (h63 : n + m ≤ maxLen) (hbytes : (n + m) * bytes ≤ 140737488355328) (hbase : base ≤ w.heap.size)
    (h : ∀ v' w', Row w' base e size v' (n + m) (xs ++ news) → w.grownBy w' v.ownBlock → (v'.ownBlock = v.ownBlock ∨ v'.ownBlock = some w.heap.size) → (v' = .slice none 0 0 ↔ v = .slice none 0 0 ∧ m = 0) → K (a.put o.dst v') w') : o.wp P a w K Q := by
  obtain ⟨v', w', hrun, h2, h3, h4, h5⟩ := run_append_row (P := P) w base t o.type e i z size bytes ht hi hz hsize hby hzs hsz v n xs hown A m c news hr h63 hbytes hbase
  unfold Oper.wp execOp
  simp only [ho, resolve, invoke, builtin, Sem.run_bind, Sem.run_pure, Result.andThen_ok, List.map_toArray, List.map_cons, List.map_nil, hs, hx, hrun]
  exact h v' w' h2 h3 h4 h5

theorem wpList_append_row {ops : Array Oper} {rest : List Oper} {o : Oper} {a : Act} {Q : Exit → Act → World → Prop} (hgd : o.guard = none) (s x : Operand) (t : TypeId)
    (ho : o.op = .call { callee := .builtin .append, args := #[s, x], argTypes := #[t, t] })
    (base : Nat) (e : TypeId) (i : TypeInfo) (z : Value) (size bytes : Nat) (ht : P.underlying t = some (.slice e)) (hi : P.info? e = some i) (hz : i.zero = some z)
    (hsize : i.size = size) (hby : i.bytes = bytes) (hzs : z.cells.size = size) (hsz : 0 < size)
    (v : Value) (n : Nat) (xs : List Value) (hs : a.eval s = v) (hown : Row w base e size v n xs)
    (A : Option Addr) (m c : Nat) (news : List Value) (hx : a.eval x = .slice A m c) (hr : Src w A m size news)
    (h63 : n + m ≤ maxLen) (hbytes : (n + m) * bytes ≤ 140737488355328) (hbase : base ≤ w.heap.size)
    (h : ∀ v' w', Row w' base e size v' (n + m) (xs ++ news) → w.grownBy w' v.ownBlock → (v'.ownBlock = v.ownBlock ∨ v'.ownBlock = some w.heap.size) → (v' = .slice none 0 0 ↔ v = .slice none 0 0 ∧ m = 0) → wpList P ops Q rest (a.put o.dst v') w') : wpList P ops Q (o :: rest) a w :=
  wpList_plain hgd fun _ hK => wp_append_row w s x t ho base e i z size bytes ht hi hz hsize hby hzs hsz v n xs hs hown A m c news hx hr h63 hbytes hbase fun v' w' h2 h3 h4 h5 => hK _ _ (h v' w' h2 h3 h4 h5)

theorem step_append_row {ops : Array Oper} {o : Oper} {a : Act} {K : Act → World → Prop} {Q : Exit → Act → World → Prop} {E : Prop} (hgd : o.guard = none) (s x : Operand) (t : TypeId)
    (ho : o.op = .call { callee := .builtin .append, args := #[s, x], argTypes := #[t, t] })
    (base : Nat) (e : TypeId) (i : TypeInfo) (z : Value) (size bytes : Nat) (ht : P.underlying t = some (.slice e)) (hi : P.info? e = some i) (hz : i.zero = some z)
    (hsize : i.size = size) (hby : i.bytes = bytes) (hzs : z.cells.size = size) (hsz : 0 < size)
    (v : Value) (n : Nat) (xs : List Value) (hs : a.eval s = v) (hown : Row w base e size v n xs)
    (A : Option Addr) (m c : Nat) (news : List Value) (hx : a.eval x = .slice A m c) (hr : Src w A m size news)
    (h63 : n + m ≤ maxLen) (hbytes : (n + m) * bytes ≤ 140737488355328) (hbase : base ≤ w.heap.size)
    (h : ∀ v' w', Row w' base e size v' (n + m) (xs ++ news) → w.grownBy w' v.ownBlock → (v'.ownBlock = v.ownBlock ∨ v'.ownBlock = some w.heap.size) → (v' = .slice none 0 0 ↔ v = .slice none 0 0 ∧ m = 0) → K (a.put o.dst v') w') :
    if Region.wanted o (yielded ops a.tmps) = true then Oper.wp P o a w K Q else E := by
  have hw : Region.wanted o (yielded ops a.tmps) = true := by simp [Region.wanted, hgd]
  rw [if_pos hw]
  exact wp_append_row w s x t ho base e i z size bytes ht hi hz hsize hby hzs hsz v n xs hs hown A m c news hx hr h63 hbytes hbase h
end
end Go.Kap
