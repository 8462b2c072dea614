/- What is proved: SoundKaplan returns true for every two changes and two texts that are together of bulk at most 1048576, and its arguments read as they did. -/
import Derived.Test.YtglmlbmjppblbaaRows
import Derived.Test.YtglmlbmjppblbaaNa
import Derived.WalkKit
import Derived.ProofKit
import Derived.OpenShut
import Derived.JoinedCond
import Derived.Carry
import Derived.Deep.SlicePairs
import Derived.Lib.SmallJoins
namespace Go.Proofs.Ytglmlbmjppblbaa
open Go.ChangeShapes Go.WideShapes Go.ChangeAt Go.RowKit Go.Kap
set_option maxRecDepth 100000

section
variable {H : Type} {enc : TypeId × Value → H}

theorem bulk_one (d : DataW H) : 1 ≤ Rows.uptoBulk d := by
  cases d with
  | lit l => cases l <;> simp [Rows.uptoBulk]
  | nil => simp [Rows.uptoBulk]
  | ptr d => simp [Rows.uptoBulk]
  | slice elems spare => simp [Rows.uptoBulk]
  | agg parts => simp [Rows.uptoBulk]
  | iface t d => simp [Rows.uptoBulk]
  | map entries => simp [Rows.uptoBulk]
  | held h => simp [Rows.uptoBulk]
theorem bulk_part {d : DataW H} : ∀ {l : List (DataW H)}, d ∈ l → Rows.uptoBulk d ≤ Rows.uptoBulkAll l
  | [], h => by cases h
  | x :: r, h => by
    simp only [Rows.uptoBulkAll]
    rcases List.mem_cons.1 h with e | e
    · subst e; omega
    · have := bulk_part e; omega
theorem bulk_len : ∀ l : List (DataW H), l.length ≤ Rows.uptoBulkAll l
  | [] => Nat.zero_le _
  | x :: r => by
    have h1 := bulk_one x
    have h2 := bulk_len r
    simp only [Rows.uptoBulkAll, List.length_cons]; omega

theorem spot_none {w : World} {a : Addr} {v : Value} (h : w.cell? a = some v) : a = ⟨a.block, a.off, none⟩ := by
  obtain ⟨b, o, s⟩ := a
  cases s with
  | none => rfl
  | some k =>
    exfalso
    unfold World.cell? at h
    split at h <;> simp at h
theorem add_none (b o n : Nat) : Addr.add ⟨b, o, none⟩ n = ⟨b, o + n, none⟩ := by
  unfold Addr.add
  split
  · subst_vars; rfl
  · rfl

/-- A slice of numbers, opened. -/
theorem open_nums {W : World} {sp : Nat → Bool} {held : Bool} {n : Nat} {v : Value} {y : DataW H × List MemPlace} (hsp : ∀ b, sp b = true) (h : DataW.trod enc Try.prog W 0 sp held n 22 [v] = some y) (hb : Rows.uptoBulk y.1 ≤ 1048576) :
    ∃ A n c xs, v = .slice A n c ∧ Ints W W.heap.size A n c xs := by
  rcases open_ints Try.underlying22 Try.underlying3 (by kernel_rfl) h with ⟨hc, rfl⟩ | ⟨a, len, cap, zs, hc, _, hlc, hcm, hz, rfl, hcell, _⟩
  · obtain rfl : v = .slice none 0 0 := by simpa using hc
    exact ⟨none, 0, 0, [], rfl, rfl, by omega, fun h => by omega⟩
  · obtain rfl : v = .slice (some a) len cap := by simpa using hc
    rw [hsp] at hz
    simp only [↓reduceIte] at hz
    have hm : cap ≤ 9223372036854775807 := hcm
    have hl : (zs.take len).length = len := by rw [List.length_take]; omega
    have h1 : len ≤ 1048576 := by
      have h2 := bulk_len (lits (H := H) .i64 (zs.take len))
      have h3 : (lits (H := H) .i64 (zs.take len)).length = len := by simp [lits, hl]; omega
      simp only [Rows.uptoBulk] at hb
      omega
    refine ⟨some a, len, cap, zs.take len, rfl, hl, by omega, fun h0 => ?_⟩
    have h00 := hcell 0 (by omega)
    have ha : a = ⟨a.block, a.off, none⟩ := spot_none (a := a) (by simpa [Addr.add] using h00)
    refine ⟨a.block, a.off, by rw [← ha], ?_, fun j hj => ?_⟩
    · exact cell_lt (a := a) (by simpa [Addr.add] using h00)
    · have := hcell j (by omega)
      rw [ha, add_none] at this
      rw [this]
      simp only [List.getD_eq_getElem?_getD, List.getElem?_take]
      rw [if_pos hj]

/-- A slice of spots, opened. -/
theorem open_spots {W : World} {sp : Nat → Bool} {held : Bool} {n : Nat} {v : Value} {y : DataW H × List MemPlace} (hsp : ∀ b, sp b = true) (h : DataW.trod enc Try.prog W 0 sp held n 23 [v] = some y) (hb : Rows.uptoBulk y.1 ≤ 1048576) :
    ∃ A n c l, v = .slice A n c ∧ Spots W W.heap.size A n c l ∧ n ≤ 1048576 := by
  rcases Deep.open_slice_pairs Try.underlying23 Try.underlying45 (by kernel_rfl) rfl rfl (by kernel_rfl) (by kernel_rfl) h with ⟨hc, rfl⟩ | ⟨a, len, cap, m, k, V0, V1, D0, D1, P0, P1, hc, _, hlc, hcm, hm, rfl, hcell⟩
  · obtain rfl : v = .slice none 0 0 := by simpa using hc
    exact ⟨none, 0, 0, [], rfl, ⟨rfl, by omega, fun h => by omega⟩, by omega⟩
  · obtain rfl : v = .slice (some a) len cap := by simpa using hc
    rw [hsp] at hm
    simp only [↓reduceIte] at hm
    have hmx : cap ≤ 9223372036854775807 := hcm
    simp only [Rows.uptoBulk] at hb
    have h1 : len ≤ 1048576 := by
      have h2 := bulk_len ((List.range len).map fun i => DataW.agg [D0 i, D1 i])
      simp only [List.length_map, List.length_range] at h2
      omega
    have each : ∀ i, ∃ s : SpotM, i < len → ∃ A' n' c', V0 i = .slice A' n' c' ∧ Ints W W.heap.size A' n' c' s.any ∧ V1 i = .bool s.edge := by
      intro i
      by_cases hi : i < len
      · obtain ⟨_, _, t0, t1⟩ := hcell i (by omega)
        have hp : Rows.uptoBulk (D0 i) ≤ 1048576 := by
          have h2 : Rows.uptoBulk (DataW.agg [D0 i, D1 i]) ≤ _ := bulk_part (l := (List.range len).map fun i => DataW.agg [D0 i, D1 i]) (List.mem_map.2 ⟨i, List.mem_range.2 hi, rfl⟩)
          simp only [Rows.uptoBulk, Rows.uptoBulkAll] at h2
          omega
        obtain ⟨A', n', c', xs, e0, hx⟩ := open_nums hsp t0 hp
        obtain ⟨b, e1, _⟩ := DataW.trod_bool Try.underlying4 t1
        exact ⟨⟨xs, b⟩, fun _ => ⟨A', n', c', e0, hx, by simpa using e1⟩⟩
      · exact ⟨default, fun h => absurd h hi⟩
    refine ⟨some a, len, cap, (List.range len).map fun i => Classical.choose (each i), rfl, ⟨by simp, by omega, fun h0 => ?_⟩, h1⟩
    have h00 := (hcell 0 (by omega)).1
    have ha : a = ⟨a.block, a.off, none⟩ := spot_none (a := a) (by simpa [Addr.add] using h00)
    refine ⟨a.block, a.off, by rw [← ha], cell_lt (a := a) (by simpa [Addr.add] using h00), fun j hj => ?_⟩
    obtain ⟨c0, c1, _, _⟩ := hcell j (by omega)
    obtain ⟨A', n', c', e0, hx, e1⟩ := Classical.choose_spec (each j) hj
    rw [ha, add_none] at c0 c1
    have hg : ((List.range len).map fun i => Classical.choose (each i)).getD j default = Classical.choose (each j) := by
      rw [List.getD_eq_getElem?_getD, List.getElem?_map, List.getElem?_range hj]; rfl
    rw [hg]
    exact ⟨A', n', c', c0.trans (congrArg some e0), hx, c1.trans (congrArg some e1)⟩

theorem array5 {cs : Array Value} (h : cs.size = 5) : ∃ a b c d e, cs = #[a, b, c, d, e] := by
  obtain ⟨l⟩ := cs
  match l, h with
  | [a, b, c, d, e], _ => exact ⟨a, b, c, d, e, rfl⟩

/-- A change, opened. -/
theorem open_change {W : World} {sp : Nat → Bool} {held : Bool} {r : Reach} {base : Nat} {v : Value} {d : DataW H} {p : List MemPlace} (hsp : ∀ b, sp b = true) (hv : Value.okWide Try.prog W r base 25 v) (h : DataW.Trod enc Try.prog W 0 sp held 25 v d p) (hb : Rows.uptoBulk d ≤ 1048576) :
    ∃ (k : Int) (X : ChgH) (c : ChgM), v = .agg #[.int .i64 k, .slice X.a1 X.n1 X.c1, .slice X.a2 X.n2 X.c2, .slice X.a3 X.n3 X.c3, .slice X.a4 X.n4 X.c4] ∧ Chg W W.heap.size X c ∧ k = c.kinds ∧ X.n3 ≤ 1048576 ∧ X.n4 ≤ 1048576 := by
  obtain ⟨cs, rfl, hsz⟩ := okWide_struct Try.underlying25 hv
  obtain ⟨v0, v1, v2, v3, v4, rfl⟩ := array5 (hsz.trans (by kernel_rfl))
  obtain ⟨fuel, hf⟩ := h
  obtain ⟨xs, n, _, hx, _, hxl, hfs⟩ := DataW.trod_struct Try.underlying25 hf
  match xs, hxl with
  | [y0, y1, y2, y3, y4], _ =>
    have t0 := hfs 0 _ rfl
    have t1 := hfs 1 _ rfl
    have t2 := hfs 2 _ rfl
    have t3 := hfs 3 _ rfl
    have t4 := hfs 4 _ rfl
    have k3 : Try.prog.cellsOf 3 = 1 := by kernel_rfl
    have k22 : Try.prog.cellsOf 22 = 1 := by kernel_rfl
    have k23 : Try.prog.cellsOf 23 = 1 := by kernel_rfl
    simp [Value.cells, k3, k22, k23] at t0 t1 t2 t3 t4
    simp only [List.map_cons, List.map_nil, Prod.mk.injEq] at hx
    obtain ⟨rfl, _⟩ := hx
    simp only [Rows.uptoBulk, Rows.uptoBulkAll] at hb
    obtain ⟨k, e0, _⟩ := DataW.trod_int Try.underlying3 t0
    obtain ⟨A1, n1, c1, x1, rfl, h1⟩ := open_nums hsp t1 (by omega)
    obtain ⟨A2, n2, c2, x2, rfl, h2⟩ := open_nums hsp t2 (by omega)
    obtain ⟨A3, n3, c3, x3, rfl, h3, b3⟩ := open_spots hsp t3 (by omega)
    obtain ⟨A4, n4, c4, x4, rfl, h4, b4⟩ := open_spots hsp t4 (by omega)
    obtain rfl : v0 = .int .i64 k := by simpa using e0
    exact ⟨k, ⟨A1, n1, c1, A2, n2, c2, A3, n3, c3, A4, n4, c4⟩, ⟨k, x1, x2, x3, x4⟩, rfl, ⟨h1, h2, h3, h4⟩, rfl, b3, b4⟩

/-- A text, opened. -/
theorem open_text {W : World} {sp : Nat → Bool} {held : Bool} {r : Reach} {base : Nat} {v : Value} {d : DataW H} {p : List MemPlace} (hsp : ∀ b, sp b = true) (hv : Value.okWide Try.prog W r base 22 v) (h : DataW.Trod enc Try.prog W 0 sp held 22 v d p) (hb : Rows.uptoBulk d ≤ 1048576) :
    ∃ A n c xs, v = .slice A n c ∧ Ints W W.heap.size A n c xs := by
  obtain ⟨a, n, c, rfl⟩ := okWide_slice Try.underlying22 hv
  obtain ⟨fuel, hf⟩ := h
  exact open_nums (y := (d, p)) hsp (by simpa [Value.cells] using hf) hb

/-- What an old place held it holds: the arguments read as they did. -/
theorem all_stay (hl : laidOutB Try.prog = true) {W W' : World} (hb : Below W.heap.size W W') : ∀ {ts : List TypeId} {vs : List Value} {ds : List (DataW H)} {ps : List MemPlace}, (∀ t ∈ ts, Try.prog.readableRec t = true ∧ t < Try.prog.types.size) →
    DataW.TrodAll enc Try.prog W 0 (fun _ => true) true ts vs ds ps → (∀ x ∈ ps, x.block < W.heap.size) → DataW.TrodAll enc Try.prog W' 0 (fun b => decide (b < W.heap.size)) true ts vs ds ps
  | [], _, _, _, _, h, _ => by
    obtain ⟨rfl, rfl, rfl⟩ := trodAll_nil h
    exact trodAll_mk0
  | t :: ts, _, _, _, hr, h, hx => by
    obtain ⟨v, vs, d, ds, p, q, rfl, rfl, rfl, h0, h1⟩ := trodAll_cons h
    have h2 := hr t (List.mem_cons_self ..)
    exact trodAll_cons_mk (Below.trod hl h2.1 h2.2 h0 hb fun x hxp => hx x (List.mem_append_left _ hxp)) (all_stay hl hb (fun t ht => hr t (List.mem_cons_of_mem _ ht)) h1 fun x hxq => hx x (List.mem_append_right _ hxq))

theorem laid : laidOutB Try.prog = true := by kernel_rfl
theorem readable4 : ∀ t ∈ [25, 25, 22, 22], Try.prog.readableRec t = true ∧ t < Try.prog.types.size := by
  have h1 : Try.prog.readableRec 25 = true := by kernel_rfl
  have h2 : Try.prog.readableRec 22 = true := by kernel_rfl
  have h3 : 25 < Try.prog.types.size := of_decide_eq_true (by kernel_rfl)
  have h4 : 22 < Try.prog.types.size := of_decide_eq_true (by kernel_rfl)
  intro t ht
  simp only [List.mem_cons, List.not_mem_nil, or_false] at ht
  rcases ht with rfl | rfl | rfl | rfl
  · exact ⟨h1, h3⟩
  · exact ⟨h1, h3⟩
  · exact ⟨h2, h4⟩
  · exact ⟨h2, h4⟩

theorem contract (H : Type) (enc : TypeId × Value → H) (W : World) (base : Nat) (args : Array Value) (ds gs : List (DataW H)) (before : List MemPlace)
    (hval : ∀ (j : Nat) t v, Try.f3.params[j]? = some t → args[j]? = some v → Value.okWide Try.prog W .any base t v)
    (hW : DataW.Whole enc Try.prog Try.f3.params.toList Rows.soundKaplanSpec.vars false W args.toList ds gs before) (hk : Rows.uptoSmall H (ds ++ gs) = true) :
    Calls Try.prog 3 args W fun e W' => ∃ v, e = .returned v ∧ Rows.soundKaplanSpec.post enc Try.prog Try.f3 false true false false W args v W' := by
  have hW' := hW
  obtain ⟨p, q, hA0, hV, rfl, hfz, hnd⟩ := hW
  have hA : DataW.TrodAll enc Try.prog W 0 (fun _ => true) true Try.f3.params.toList args.toList ds p := hA0
  rw [Try.params3] at hA hval
  have hAll : DataW.TrodAll enc Try.prog W 0 (fun _ => true) true [25, 25, 22, 22] args.toList ds p := hA
  obtain ⟨v0, vs0, d0, ds0, p0, q0, e0, rfl, rfl, h0, r0⟩ := trodAll_cons hA
  obtain ⟨v1, vs1, d1, ds1, p1, q1, rfl, rfl, rfl, h1, r1⟩ := trodAll_cons r0
  obtain ⟨v2, vs2, d2, ds2, p2, q2, rfl, rfl, rfl, h2, r2⟩ := trodAll_cons r1
  obtain ⟨v3, vs3, d3, ds3, p3, q3, rfl, rfl, rfl, h3, r3⟩ := trodAll_cons r2
  obtain ⟨rfl, rfl, rfl⟩ := trodAll_nil r3
  obtain rfl : args = #[v0, v1, v2, v3] := by cases args; simp_all
  obtain ⟨rfl, rfl⟩ := trodVars_none hV
  have hbulk : Rows.uptoBulkAll ([d0, d1, d2, d3] ++ ([] : List (DataW H))) ≤ 1048576 := of_decide_eq_true hk
  simp only [List.append_nil, Rows.uptoBulkAll] at hbulk
  obtain ⟨ka, HA, ca, rfl, ha, hka, sa⟩ := open_change (fun _ => rfl) (hval 0 25 v0 rfl rfl) h0 (by omega)
  obtain ⟨kb, HB, cb, rfl, hb, hkb, sb⟩ := open_change (fun _ => rfl) (hval 1 25 v1 rfl rfl) h1 (by omega)
  obtain ⟨I, pn, c, inn, rfl, hi⟩ := open_text (fun _ => rfl) (hval 2 22 v2 rfl rfl) h2 (by omega)
  obtain ⟨O, qn, d, other, rfl, ho⟩ := open_text (fun _ => rfl) (hval 3 22 v3 rfl rfl) h3 (by omega)
  have hlt : ∀ x ∈ p0 ++ (p1 ++ (p2 ++ (p3 ++ []))), x.block < W.heap.size := fun x hx => by simpa using hW'.lt x (by simpa using hx)
  refine (kaplan_any ka kb HA HB ca cb I O pn c qn d inn other W ha hb hka hkb hi ho sa sb).mono ?_
  rintro e W' ⟨rfl, hnew⟩
  refine ⟨_, rfl, _, _, _, [], p0 ++ (p1 ++ (p2 ++ (p3 ++ []))), [], hW', ?_, ?_, ?_, hnew.frame _, fun h => by cases h⟩
  · exact trodAll_cons_mk (shut_bool Try.underlying4 _) trodAll_mk0
  · exact all_stay laid hnew readable4 hAll hlt
  · rfl

set_option maxRecDepth 100000 in
theorem lifted (os : Os) (started : os.Started) (H : Type) (enc : TypeId × Value → H) (F : Stop.Interp) :
    ReturnsInHanded {} Try.checked os 3 .any ((Rows.OpenSpec.upto Rows.soundKaplanSpec).pre6 enc Try.prog Try.f3 Rows.soundKaplanUptoRow.domain false) (((Rows.OpenSpec.upto Rows.soundKaplanSpec).at F).post enc Try.prog Try.f3 false true false false) := by
  refine returnsInHanded_of_cond (C := Try.checked) (s := Rows.OpenSpec.upto Rows.soundKaplanSpec) (k := Rows.uptoSmall) rfl (by kernel_rfl) started (by kernel_rfl) Try.func3
    (OpenSpec.witness (enc := enc) (C := Try.checked) (s := Rows.OpenSpec.upto Rows.soundKaplanSpec) (k := Rows.uptoSmall) rfl false ⟨#[], #[.agg #[.int .i64 0, .slice none 0 0, .slice none 0 0, .slice none 0 0, .slice none 0 0], .agg #[.int .i64 0, .slice none 0 0, .slice none 0 0, .slice none 0 0, .slice none 0 0], .slice none 0 0, .slice none 0 0], []⟩ 8 (by kernel_rfl) (by kernel_rfl) (by kernel_rfl)
      (x := ([.agg [.lit (.int .i64 0), .nil, .nil, .nil, .nil], .agg [.lit (.int .i64 0), .nil, .nil, .nil, .nil], .nil, .nil], [], [])) (by kernel_rfl) rfl (by kernel_rfl)) ?_
  intro W base args ds gs before hval hW _ hk _
  exact contract H enc W base args ds gs before hval hW hk

theorem proved : Rows.SoundKaplanUptoSaid :=
  OpenClaim.holds_of_cond 3 Try.f3 rfl rfl rfl rfl rfl rfl rfl ⟨rfl, rfl, rfl, rfl, rfl⟩ rfl rfl rfl rfl rfl (by kernel_rfl) Try.func3 (by kernel_rfl)
    (of_decide_eq_true (by kernel_rfl)) (by unfold Func.isWrapper; first | (rw [if_pos (by decide +kernel)]; kernel_rfl) | (rw [if_neg (by decide +kernel)]; exact ⟨rfl, rfl⟩))
    (fun os started H enc _ F => lifted os started H enc F)
end
end Go.Proofs.Ytglmlbmjppblbaa

