/- Words for the search: rows of places, what is kept. -/
import Derived.Test.YtglmlbmjppblbaaX
import Derived.Deep.LoopGhost
namespace Go.Kap
open Go.RowKit Go.Maps
section
variable {P : Program} {K : TypeId} {κ : Type} {C : KeyEnc P K κ} {w : World} {E : TypeId} {b n : Nat} {f : κ → Option Int}
theorem wpList_insert_mapI [DecidableEq κ] {ops : Array Oper} {rest : List Oper} {o : Oper} {a : Act} {Q : Exit → Act → World → Prop} (hg : o.guard = none) (m x v : Operand) (t : TypeId) (hop : o.op = Op.insert t m x v)
    (Kd : Keyed P K) (ht : P.underlying t = some (.map K E)) (he : P.underlying E = some (.int .i64)) (hm : a.eval m = .map (some b)) (hown : MapI C w E b n f) (hn : n < maxLen) (k : κ) (hx : a.eval x = C.enc k) (hk : C.ok k)
    (i : Int) (hv : a.eval v = .int .i64 i) (hwf : (Lit.int .i64 i).wf = true)
    (hK : ∀ w', MapI C w' E b (n + 1) (fun y => if y = k then some i else f y) → w.grownBy w' (some b) → wpList P ops Q rest (a.put o.dst undef) w') : wpList P ops Q (o :: rest) a w := by
  obtain ⟨D, h1, h2⟩ := hown
  obtain ⟨l, hl⟩ := C.key k hk
  refine wpList_plain hg fun K' hK' => ?_
  obtain ⟨w', hrun, r1, r2⟩ := h1.update Kd ht hn hl (plainElem_int he hwf)
  unfold Oper.wp
  simp [execOp, hop, hm, hx, hv, hrun, Result.andThen]
  exact hK' _ _ (hK w' (MapI.put Kd he hl h1 h2 r1) r2)
/-- A look-up's run. -/
theorem MapI.run (h : MapI C w E b n f) {t : TypeId} (Kd : Keyed P K) (ht : P.underlying t = some (.map K E)) (he : P.underlying E = some (.int .i64)) (hz : (zeroValue E).run P w = .ok (.int .i64 0) w) (k : κ) (hk : C.ok k) :
    (Instr.lookup t (.map (some b)) (C.enc k) false).run P w = .ok (.int .i64 ((f k).getD 0)) w := by
  obtain ⟨D, h1, h2⟩ := h
  obtain ⟨l, hl⟩ := C.key k hk
  obtain ⟨h3, h4⟩ := h2 k l hl
  obtain ⟨c, hrun, hc, _⟩ := h1.lookup_int Kd ht he hz hl
  have hcc : c = (f k).getD 0 := by
    cases hfr : f k with
    | some v =>
      have := h4 v hfr
      rw [this] at hc
      injection hc with hc; injection hc with _ hc
      exact hc.symm
    | none =>
      rw [hfr] at h3
      rw [atKey_of_not_has h3] at hc
      injection hc with hc; injection hc with _ hc
      exact hc.symm
  rw [← hcc]
  exact hrun
end
/-- The tail of a row. -/
theorem Row.tail1 {w : World} {base : Nat} {e : TypeId} {size n g off c : Nat} {xs : List Value} (h : Row w base e size (.slice (some ⟨g, off, none⟩) n c) n xs) (hn : 0 < n) :
    (c = 1 → n = 1 ∧ Row w base e size (.slice (some ⟨g, off, none⟩) 0 0) 0 []) ∧ (c ≠ 1 → Row w base e size (.slice (some ⟨g, off + size, none⟩) (n - 1) (c - 1)) (n - 1) (xs.drop size)) := by
  rcases h.2 with ⟨h0, _⟩ | ⟨g', off', cap, cur, hv, hb, hg, h1, h2, h3, h4⟩
  · cases h0
  · injection hv with e1 e2 e3
    injection e1 with e1
    injection e1 with e1 e1'
    subst e1 e1' e3
    have h5 : off + 0 * size ≤ cur.size := by simp; omega
    refine ⟨fun hc => ⟨by omega, by simp, .inr ⟨g, off, 0, cur, rfl, hb, hg, Nat.le_refl _, by omega, h5, by simp⟩⟩, fun hc => ⟨?_, .inr ⟨g, off + size, c - 1, cur, rfl, hb, hg, by omega, by omega, ?_, ?_⟩⟩⟩
    · rw [List.length_drop, h.1, Nat.sub_mul]; simp
    · have : c * size = (c - 1) * size + size := by
        have := Nat.succ_mul (c - 1) size
        rw [← this]; congr 1; omega
      omega
    · rw [← h4, List.drop_take, List.drop_drop, Nat.sub_mul]
      simp
theorem Row.tail {w : World} {base : Nat} {e : TypeId} {size n g off c : Nat} {xs : List Value} (h : Row w base e size (.slice (some ⟨g, off, none⟩) (n + 1) c) (n + 1) xs) :
    Row w base e size (.slice (if c = 1 then some ⟨g, off, none⟩ else some ⟨g, off + size, none⟩) n (c - 1)) n (xs.drop size) := by
  obtain ⟨h1, h2⟩ := h.tail1 (by omega)
  by_cases hc : c = 1
  · obtain ⟨hn, hr⟩ := h1 hc
    have hn0 : n = 0 := by omega
    subst hc hn0
    have : xs.drop size = [] := List.drop_eq_nil_of_le (by have := h.1; omega)
    rw [this]
    exact hr
  · rw [if_neg hc]
    exact h2 hc
end Go.Kap

namespace Go.Proofs.Ytglmlbmjppblbaa
open Go.RowKit Go.Kap Go.Maps
set_option maxRecDepth 100000

def plD : Pl := ⟨0, 0, 0⟩
def plCells (l : List Pl) : List Value := l.flatMap fun p => [.int .i64 p.s, .int .i64 p.i, .int .i64 p.j]
theorem plCells_cons (p : Pl) (l : List Pl) : plCells (p :: l) = [.int .i64 p.s, .int .i64 p.i, .int .i64 p.j] ++ plCells l := rfl
theorem plCells_app (l m : List Pl) : plCells (l ++ m) = plCells l ++ plCells m := by simp [plCells]

section
variable {w w' : World} {base g n : Nat} {vs : List Value} {arcs : List ArcM}
theorem Fan.heap (h : Fan w base g n vs arcs) (hk : ∀ (b : Nat) (c : Array Value) (t : TypeId), w.heap[b]? = some (.cells c t (0, 0)) → (t = 32 ∨ t = 72) → w'.heap[b]? = w.heap[b]?) : Fan w' base g n vs arcs :=
  ⟨h.lo, (hk g _ 32 h.blk (.inl rfl)).trans h.blk, h.len, fun j hj => (h.row j hj).of_heap fun k hk' => by
    obtain ⟨c, hc⟩ := (h.row j hj).typed hk'
    exact hk k c 72 hc (.inr rfl), h.apart⟩
theorem Fan.rowOther (h : Fan w base g n vs arcs) {b' size m : Nat} {e : TypeId} {v : Value} {xs : List Value} (hr : Row w b' e size v m xs) (hg : w.grownBy w' v.ownBlock) (h1 : e ≠ 32) (h2 : e ≠ 72) : Fan w' base g n vs arcs :=
  h.heap fun b c t hb ht => hg.block b (lt_heap hb) (fun e0 => by
    obtain ⟨c2, hc2⟩ := hr.typed e0.symm
    exact ne_typed hb hc2 (by rcases ht with h | h <;> (rw [h]; first | exact Ne.symm h1 | exact Ne.symm h2)) rfl)
theorem Fan.mapOther (h : Fan w base g n vs arcs) {mb : Nat} (hg : w.grownBy w' (some mb)) (hm : ∃ es clock, w.heap[mb]? = some (.map es clock)) : Fan w' base g n vs arcs :=
  h.heap fun b c t hb ht => hg.block b (lt_heap hb) (fun e0 => by
    cases e0
    obtain ⟨es, cl, h0⟩ := hm
    rw [hb] at h0; cases h0)
end
theorem _root_.Go.Kap.Row.mapOther {w w' : World} {base size n : Nat} {e : TypeId} {v : Value} {xs : List Value} (h : Row w base e size v n xs) {mb : Nat} (hg : w.grownBy w' (some mb)) (hm : ∃ es clock, w.heap[mb]? = some (.map es clock)) : Row w' base e size v n xs :=
  h.of_heap fun k hk => hg.block k (h.lt k hk).2 (fun e0 => by
    cases e0
    obtain ⟨c, hc⟩ := h.typed hk
    obtain ⟨es, cl, h0⟩ := hm
    rw [hc] at h0; cases h0)
theorem _root_.Go.Kap.MapI.rowOther {P : Program} {K : TypeId} {κ : Type} {C : KeyEnc P K κ} {w w' : World} {E : TypeId} {b n : Nat} {f : κ → Option Int} (h : MapI C w E b n f) {base size m : Nat} {e : TypeId} {v : Value} {xs : List Value} (hr : Row w base e size v m xs) (hg : w.grownBy w' v.ownBlock) : MapI C w' E b n f :=
  h.kept hg (fun e0 => by
    obtain ⟨c, hc⟩ := hr.typed e0.symm
    obtain ⟨es, cl, h0⟩ := h.isMap
    rw [hc] at h0; cases h0)

/-- The search in memory. -/
structure CostW (w0 : World) (g n : Nat) (vs : List Value) (mb : Nat) (arcs : List ArcM) (inn out : List Int) (dn V wk : List Pl) (v : Value) (wr : World) : Prop where
  inv : CInv n arcs inn out dn V
  row : Row wr w0.heap.size 68 3 v wk.length (plCells wk)
  map : MapI plK wr 3 mb V.length (fun x => if x ∈ V then some 0 else none)
  fan : Fan wr w0.heap.size g n vs arcs
  new : New w0 wr
  mlo : w0.heap.size ≤ mb
section
variable {w0 w w1 : World} {g n : Nat} {vs : List Value} {mb : Nat} {arcs : List ArcM} {inn out : List Int} {dn V wk : List Pl} {v : Value}
theorem CostW.new_ (h : CostW w0 g n vs mb arcs inn out dn V wk v w) (hn : New w w1) : CostW w0 g n vs mb arcs inn out dn V wk v w1 :=
  ⟨h.inv, h.row.new_ hn, h.map.new_ hn, h.fan.new_ hn, New.trans h.new hn, h.mlo⟩
theorem mem_snoc_if (V : List Pl) (q : Pl) : (fun y => if y = q then some (0 : Int) else if y ∈ V then some 0 else none) = fun x => if x ∈ V ++ [q] then some 0 else none := by
  funext y
  by_cases h : y = q
  · simp [h]
  · simp [h]
/-- Behind the store of a place's cost. -/
theorem CostW.mapped (h : CostW w0 g n vs mb arcs inn out dn V wk v w) {q : Pl} (hm : MapI plK w1 3 mb (V.length + 1) (fun y => if y = q then some 0 else if y ∈ V then some 0 else none)) (hg : w.grownBy w1 (some mb)) :
    Row w1 w0.heap.size 68 3 v wk.length (plCells wk) ∧ MapI plK w1 3 mb (V ++ [q]).length (fun x => if x ∈ V ++ [q] then some 0 else none) ∧ Fan w1 w0.heap.size g n vs arcs ∧ New w0 w1 := by
  rw [mem_snoc_if] at hm
  exact ⟨h.row.mapOther hg h.map.isMap, by simpa using hm, h.fan.mapOther hg h.map.isMap, New.grown h.new hg (fun k hk => by cases hk; exact h.mlo)⟩
/-- In the midst of a place's arcs; bp: where the place lies. -/
def CostI (w0 : World) (g n : Nat) (vs : List Value) (mb : Nat) (arcs : List ArcM) (inn out : List Int) (dn : List Pl) (pl : Pl) (bp k : Nat) (v : Value) (w : World) : Prop :=
  ∃ wk : List Pl, CostW w0 g n vs mb arcs inn out dn ((dn ++ [pl]) ++ wk) wk v w ∧ (∀ a ∈ (rowOf arcs pl.s.toNat).take k, ∀ q, stepC inn out pl a = some q → q ∈ (dn ++ [pl]) ++ wk) ∧
    v.ownBlock ≠ some bp ∧ w.heap[bp]? = some (.cells #[.int .i64 pl.s, .int .i64 pl.i, .int .i64 pl.j] 68 (0, 0))
theorem CostI.start {w0 wr : World} {g n : Nat} {vs : List Value} {mb : Nat} {arcs : List ArcM} {inn out : List Int} {dn : List Pl} {pl : Pl} {wk : List Pl} {gw ow cw : Nat}
    (h : CostW w0 g n vs mb arcs inn out dn (dn ++ pl :: wk) (pl :: wk) (.slice (some ⟨gw, ow, none⟩) (pl :: wk).length cw) wr) :
    CostI w0 g n vs mb arcs inn out dn pl wr.heap.size 0 (.slice (if cw = 1 then some ⟨gw, ow, none⟩ else some ⟨gw, ow + 3, none⟩) wk.length (cw - 1)) (wr.alloc (.cells #[.int .i64 pl.s, .int .i64 pl.i, .int .i64 pl.j] 68)) := by
  have hr := h.row
  simp only [List.length_cons] at hr
  have ht := hr.tail
  refine ⟨wk, ?_, by simp, ?_, heap_alloc_new wr _⟩
  · have e : (dn ++ [pl]) ++ wk = dn ++ pl :: wk := by simp
    rw [e]
    have e2 : (plCells (pl :: wk)).drop 3 = plCells wk := rfl
    rw [e2] at ht
    exact (CostW.mk h.inv ht h.map h.fan h.new h.mlo).new_ (new_alloc wr _)
  · intro e
    have := (ht.lt _ e).2
    omega
theorem CostI.done {w0 w : World} {g n : Nat} {vs : List Value} {mb : Nat} {arcs : List ArcM} {inn out : List Int} {dn : List Pl} {pl : Pl} {bp k : Nat} {v : Value} (h : CostI w0 g n vs mb arcs inn out dn pl bp k v w) (hk : (rowOf arcs pl.s.toNat).length ≤ k) (hs : 0 ≤ pl.s) :
    ∃ wk, CostW w0 g n vs mb arcs inn out (dn ++ [pl]) ((dn ++ [pl]) ++ wk) wk v w := by
  obtain ⟨wk, h1, h2, _, _⟩ := h
  rw [List.take_of_length_le hk] at h2
  exact ⟨wk, cinv_done h1.inv (fun a ha hf q hq => h2 a (mem_rowOf.2 ⟨ha, by omega⟩) q hq), h1.row, h1.map, h1.fan, h1.new, h1.mlo⟩
theorem cl_succ {α β : Type} {l : List α} {k : Nat} (d : α) (hk : k < l.length) {f : α → Option β} {V : List β} (h : ∀ a ∈ l.take k, ∀ q, f a = some q → q ∈ V) (h1 : ∀ q, f (l.getD k d) = some q → q ∈ V) : ∀ a ∈ l.take (k + 1), ∀ q, f a = some q → q ∈ V := by
  intro a ha q hq
  rw [List.take_succ_eq_append_getElem hk, List.mem_append] at ha
  rcases ha with ha | ha
  · exact h a ha q hq
  · simp at ha
    subst ha
    exact h1 q (by simpa [List.getD, hk] using hq)
/-- What comes of an arc is there. -/
theorem CostI.same {w0 w w' : World} {g n : Nat} {vs : List Value} {mb : Nat} {arcs : List ArcM} {inn out : List Int} {dn wk : List Pl} {pl : Pl} {bp k : Nat} {v : Value} (hC : CostW w0 g n vs mb arcs inn out dn ((dn ++ [pl]) ++ wk) wk v w)
    (hcl : ∀ a ∈ (rowOf arcs pl.s.toNat).take k, ∀ q, stepC inn out pl a = some q → q ∈ (dn ++ [pl]) ++ wk) (hown : v.ownBlock ≠ some bp) (hblk : w.heap[bp]? = some (.cells #[.int .i64 pl.s, .int .i64 pl.i, .int .i64 pl.j] 68 (0, 0))) (hn : New w w')
    (hk : k < (rowOf arcs pl.s.toNat).length) (hs : ∀ q, stepC inn out pl ((rowOf arcs pl.s.toNat).getD k arcD) = some q → q ∈ (dn ++ [pl]) ++ wk) : CostI w0 g n vs mb arcs inn out dn pl bp (k + 1) v w' :=
  ⟨wk, hC.new_ hn, cl_succ arcD hk hcl hs, hown, (hn.block bp (lt_heap hblk)).trans hblk⟩
/-- What comes of an arc is new. -/
theorem CostI.push {w0 w1 w2 : World} {g n : Nat} {vs : List Value} {mb : Nat} {arcs : List ArcM} {fins inn out : List Int} {dn wk : List Pl} {pl q : Pl} {bp k : Nat} {v v' : Value} (hg : GoodM n arcs fins)
    (hi : CInv n arcs inn out dn ((dn ++ [pl]) ++ wk)) (hr : Row w1 w0.heap.size 68 3 v wk.length (plCells wk)) (hm : MapI plK w1 3 mb (((dn ++ [pl]) ++ wk) ++ [q]).length (fun x => if x ∈ ((dn ++ [pl]) ++ wk) ++ [q] then some 0 else none))
    (hf : Fan w1 w0.heap.size g n vs arcs) (hnw : New w0 w1) (hlo : w0.heap.size ≤ mb)
    (hcl : ∀ a ∈ (rowOf arcs pl.s.toNat).take k, ∀ q, stepC inn out pl a = some q → q ∈ (dn ++ [pl]) ++ wk) (hown : v.ownBlock ≠ some bp) (hblk : w1.heap[bp]? = some (.cells #[.int .i64 pl.s, .int .i64 pl.i, .int .i64 pl.j] 68 (0, 0)))
    (hk : k < (rowOf arcs pl.s.toNat).length) (hs : stepC inn out pl ((rowOf arcs pl.s.toNat).getD k arcD) = some q) (hq : q ∉ (dn ++ [pl]) ++ wk) (hs0 : 0 ≤ pl.s)
    (o : Obj) (hr2 : Row w2 w0.heap.size 68 3 v' (wk.length + 1) (plCells wk ++ [.int .i64 q.s, .int .i64 q.i, .int .i64 q.j])) (hg2 : (w1.alloc o).grownBy w2 v.ownBlock) (hat : v'.ownBlock = v.ownBlock ∨ v'.ownBlock = some (w1.alloc o).heap.size) :
    CostI w0 g n vs mb arcs inn out dn pl bp (k + 1) v' w2 := by
  have e : (dn ++ [pl]) ++ (wk ++ [q]) = ((dn ++ [pl]) ++ wk) ++ [q] := by simp
  have hbl : bp < w1.heap.size := lt_heap hblk
  have hmem := getD_mem hk arcD
  obtain ⟨hma, hmf⟩ := mem_rowOf.1 hmem
  refine ⟨wk ++ [q], ⟨?_, ?_, ?_, ?_, ?_, hlo⟩, ?_, ?_, ?_⟩
  · rw [e]
    exact cinv_add hg hi (by simp) hma (by omega) hs hq
  · rw [plCells_app, List.length_append]
    exact hr2
  · rw [e]
    exact (hm.alloc o).rowOther (hr.alloc o) hg2
  · exact (hf.new_ (new_alloc w1 o)).rowOther (hr.alloc o) hg2 (by decide) (by decide)
  · exact New.row (hnw.alloc o) (hr.alloc o) (Nat.le_refl _) hg2
  · rw [e]
    refine cl_succ arcD hk (fun a ha x hx => by have := hcl a ha x hx; simp only [List.mem_append] at this ⊢; exact .inl this) (fun x hx => ?_)
    rw [hs] at hx
    injection hx with hx
    subst hx
    simp
  · rcases hat with h0 | h0
    · rw [h0]; exact hown
    · rw [h0]
      intro e0
      injection e0 with e0
      simp at e0
      omega
  · rw [hg2.block bp (by simp; omega) (Ne.symm hown), Below.heap_alloc w1 o bp hbl]
    exact hblk
end
end Go.Proofs.Ytglmlbmjppblbaa
