/- Words for maps to ints that a call itself made. -/
import Derived.Test.YtglmlbmjppblbaaG
import Derived.Maps.RangeWalk
import Derived.Deep.RegionLaw
namespace Go.Kap
open Go.RowKit Go.Maps
open Go.WideMaps (keyOf_string_mk)

/-- How keys are written. -/
structure KeyEnc (P : Program) (K : TypeId) (κ : Type) where
  enc : κ → Value
  ok : κ → Prop
  key : ∀ x, ok x → ∃ l, Go.keyOf P K (enc x) = some l
  inj : ∀ x y, enc x = enc y → x = y

section
variable {P : Program} {K : TypeId} {κ : Type}

/-- Block b is a map of at most n entries that holds what f says. -/
def MapI (C : KeyEnc P K κ) (w : World) (E : TypeId) (b n : Nat) (f : κ → Option Int) : Prop :=
  ∃ D : DataW Unit, w.ownsMap P K (plainElem P E) b n D ∧ ∀ x l, Go.keyOf P K (C.enc x) = some l → Maps.has D l = (f x).isSome ∧ ∀ v, f x = some v → D.atKey l (.lit (.int .i64 0)) = .lit (.int .i64 v)

variable {C : KeyEnc P K κ} {w w' : World} {E : TypeId} {b n : Nat} {f : κ → Option Int}
theorem MapI.made (C : KeyEnc P K κ) (w : World) (E : TypeId) : MapI C (w.alloc (.map #[] 0)) E w.heap.size 0 (fun _ => none) :=
  ⟨.map [], World.ownsMap_made w P K (plainElem P E), fun x l _ => ⟨rfl, fun v h => by cases h⟩⟩
theorem MapI.kept {row : Option Nat} (h : MapI C w E b n f) (hg : w.grownBy w' row) (hne : some b ≠ row) : MapI C w' E b n f :=
  let ⟨D, h1, h2⟩ := h; ⟨D, h1.kept hg hne, h2⟩
theorem MapI.lt (h : MapI C w E b n f) : b < w.heap.size := let ⟨_, h1, _⟩ := h; h1.lt
theorem MapI.alloc (h : MapI C w E b n f) (o : Obj) : MapI C (w.alloc o) E b n f := let ⟨D, h1, h2⟩ := h; ⟨D, h1.alloc o, h2⟩
theorem MapI.drew (h : MapI C w E b n f) : MapI C w.drew E b n f := h
theorem MapI.drewN (h : MapI C w E b n f) (k : Nat) : MapI C (w.drewN k) E b n f := h
theorem MapI.heap (h : MapI C w E b n f) (hb : w'.heap[b]? = w.heap[b]?) : MapI C w' E b n f := by
  obtain ⟨D, ⟨es, clock, h0, h1⟩, h2⟩ := h
  exact ⟨D, ⟨es, clock, hb.trans h0, h1⟩, h2⟩
theorem MapI.new_ (h : MapI C w E b n f) (hn : New w w') : MapI C w' E b n f := h.heap (hn.block b h.lt)
theorem MapI.setCell (h : MapI C w E b n f) {p : Addr} {cs : Array Value} {t : TypeId} {fr : Nat × Nat} (hp : w.heap[p.block]? = some (.cells cs t fr)) (u : Value) : MapI C (w.setCell p u) E b n f := by
  refine h.heap (Below.heap_setCell w p u b ?_)
  rintro rfl
  obtain ⟨D, ⟨es, clock, h0, _⟩, _⟩ := h
  rw [hp] at h0; cases h0
theorem MapI.isMap (h : MapI C w E b n f) : ∃ es clock, w.heap[b]? = some (.map es clock) := let ⟨_, ⟨es, clock, h0, _⟩, _⟩ := h; ⟨es, clock, h0⟩
theorem MapI.mono (h : MapI C w E b n f) {n' : Nat} (hn : n ≤ n') : MapI C w E b n' f := let ⟨D, h1, h2⟩ := h; ⟨D, h1.mono hn, h2⟩

theorem wpList_lookup_mapI_ok {ops : Array Oper} {rest : List Oper} {o : Oper} {a : Act} {Q : Exit → Act → World → Prop} (hg : o.guard = none) (m x : Operand) (t : TypeId) (hop : o.op = Op.lookup t m x true)
    (Kd : Keyed P K) (ht : P.underlying t = some (.map K E)) (he : P.underlying E = some (.int .i64)) (hz : (zeroValue E).run P w = .ok (.int .i64 0) w) (hm : a.eval m = .map (some b)) (hown : MapI C w E b n f) (k : κ) (hx : a.eval x = C.enc k) (hk : C.ok k)
    (r : Option Int) (hr : Hid (f k = r)) (hK : wpList P ops Q rest (a.put o.dst (.tuple #[.int .i64 (r.getD 0), .bool r.isSome])) w) : wpList P ops Q (o :: rest) a w := by
  obtain ⟨D, h1, h2⟩ := hown
  obtain ⟨l, hl⟩ := C.key k hk
  obtain ⟨h3, h4⟩ := h2 k l hl
  refine wpList_lookup_own_ok_int w hg m x t hop K E .i64 Kd ht he hz b n D hm h1 _ l hx hl (fun c hc _ => ?_)
  rw [h3, hr.out]
  have hcc : c = r.getD 0 := by
    cases hfr : r with
    | some v =>
      have := h4 v (hr.out.trans hfr)
      rw [this] at hc
      injection hc with hc; injection hc with _ hc
      exact hc.symm
    | none =>
      rw [hr.out, hfr] at h3
      rw [atKey_of_not_has h3] at hc
      injection hc with hc; injection hc with _ hc
      exact hc.symm
  rw [hcc]
  exact hK

theorem wpList_lookup_mapI {ops : Array Oper} {rest : List Oper} {o : Oper} {a : Act} {Q : Exit → Act → World → Prop} (hg : o.guard = none) (m x : Operand) (t : TypeId) (hop : o.op = Op.lookup t m x false)
    (Kd : Keyed P K) (ht : P.underlying t = some (.map K E)) (he : P.underlying E = some (.int .i64)) (hz : (zeroValue E).run P w = .ok (.int .i64 0) w) (hm : a.eval m = .map (some b)) (hown : MapI C w E b n f) (k : κ) (hx : a.eval x = C.enc k) (hk : C.ok k)
    (r : Option Int) (hr : Hid (f k = r)) (hK : wpList P ops Q rest (a.put o.dst (.int .i64 (r.getD 0))) w) : wpList P ops Q (o :: rest) a w := by
  obtain ⟨D, h1, h2⟩ := hown
  obtain ⟨l, hl⟩ := C.key k hk
  obtain ⟨h3, h4⟩ := h2 k l hl
  refine wpList_lookup_own_int w hg m x t hop K E .i64 Kd ht he hz b n D hm h1 _ l hx hl (fun c hc _ => ?_)
  have hcc : c = r.getD 0 := by
    cases hfr : r with
    | some v =>
      have := h4 v (hr.out.trans hfr)
      rw [this] at hc
      injection hc with hc; injection hc with _ hc
      exact hc.symm
    | none =>
      rw [hr.out, hfr] at h3
      rw [atKey_of_not_has h3] at hc
      injection hc with hc; injection hc with _ hc
      exact hc.symm
  rw [hcc]
  exact hK

theorem MapI.put [DecidableEq κ] (Kd : Keyed P K) (he : P.underlying E = some (.int .i64)) {k : κ} {l : Lit} (hl : Go.keyOf P K (C.enc k) = some l) {v : Int} {D : DataW Unit}
    (hown : w.ownsMap P K (plainElem P E) b n D) (h2 : ∀ x l, Go.keyOf P K (C.enc x) = some l → Maps.has D l = (f x).isSome ∧ ∀ v, f x = some v → D.atKey l (.lit (.int .i64 0)) = .lit (.int .i64 v))
    {m : Nat} (hw : w'.ownsMap P K (plainElem P E) b m (D.put l (.lit (.int .i64 v)))) : MapI C w' E b m (fun x => if x = k then some v else f x) := by
  have _ := he
  refine ⟨_, hw, fun x lx hx => ?_⟩
  by_cases hxk : x = k
  · subst hxk
    have : lx = l := by rw [hx] at hl; exact Option.some.inj hl
    subst this
    simp only [if_true, Option.isSome_some, Option.some.injEq]
    exact ⟨has_put_same hown.isMap (Kd.key hx) _, fun v' hv' => by rw [atKey_put_same hown.isMap (Kd.key hx), hv']⟩
  · have hne : lx ≠ l := by
      rintro rfl
      exact hxk (C.inj _ _ (Kd.inj hx hl))
    simp only [if_neg hxk]
    obtain ⟨h3, h4⟩ := h2 x lx hx
    exact ⟨by rw [has_put_other hne]; exact h3, fun v' hv' => by rw [atKey_put_other hne]; exact h4 v' hv'⟩

theorem wpList_update_mapI [DecidableEq κ] {ops : Array Oper} {rest : List Oper} {o : Oper} {a : Act} {Q : Exit → Act → World → Prop} (hg : o.guard = none) (m x v : Operand) (t : TypeId) (hop : o.op = Op.mapUpdate t m x v)
    (Kd : Keyed P K) (ht : P.underlying t = some (.map K E)) (he : P.underlying E = some (.int .i64)) (hm : a.eval m = .map (some b)) (hown : MapI C w E b n f) (hn : n < maxLen) (k : κ) (hx : a.eval x = C.enc k) (hk : C.ok k)
    (i : Int) (hv : a.eval v = .int .i64 i) (hwf : (Lit.int .i64 i).wf = true)
    (hK : ∀ w', MapI C w' E b (n + 1) (fun y => if y = k then some i else f y) → w.grownBy w' (some b) → wpList P ops Q rest (a.put o.dst undef) w') : wpList P ops Q (o :: rest) a w := by
  obtain ⟨D, h1, h2⟩ := hown
  obtain ⟨l, hl⟩ := C.key k hk
  exact wpList_mapUpdate_own w hg m x v t hop K E Kd ht (plainElem P E) b n D hm h1 hn _ _ l hx hv hl _ [] (plainElem_int he hwf) fun w' g1 g2 => hK w' (MapI.put Kd he hl h1 h2 g1) g2
end

/-- Keys that are strings. -/
def strKey (P : Program) (K : TypeId) (hK : P.underlying K = some .string) : KeyEnc P K (List UInt8) where
  enc := fun l => .string ⟨l.toArray⟩
  ok := fun l => l.length ≤ maxLen
  key := fun l hl => ⟨_, keyOf_string_mk hK (by show (⟨l.toArray⟩ : ByteArray).size ≤ maxLen; simpa [ByteArray.size] using hl)⟩
  inj := fun x y h => by
    injection h with h
    injection h with h
    injection h
end Go.Kap
