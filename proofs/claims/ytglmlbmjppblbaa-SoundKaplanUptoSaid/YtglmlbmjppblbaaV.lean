/- machine.from: the arcs of each state. -/
import Derived.Test.YtglmlbmjppblbaaU
import Derived.Deep.DeepCutAuto
import Derived.OwnWalk
import Derived.Deep.RegionHeld3
import Derived.Deep.DrawnRows
import Derived.Deep.CutBlock
namespace Go.Proofs.Ytglmlbmjppblbaa
open Go.RowKit Go.Kap
set_option maxRecDepth 100000

/-- The arcs that leave a state. -/
def rowOf (arcs : List ArcM) (j : Nat) : List ArcM := arcs.filter fun a => a.f == (j : Int)
theorem rowOf_snoc (arcs : List ArcM) (a : ArcM) (j : Nat) : rowOf (arcs ++ [a]) j = if a.f = (j : Int) then rowOf arcs j ++ [a] else rowOf arcs j := by
  unfold rowOf
  rw [List.filter_append]
  by_cases h : a.f = (j : Int)
  · simp [List.filter_cons, h]
  · simp [List.filter_cons, h]
theorem mem_rowOf {arcs : List ArcM} {j : Nat} {a : ArcM} : a ∈ rowOf arcs j ↔ a ∈ arcs ∧ a.f = (j : Int) := by
  unfold rowOf
  simp
theorem rowOf_len (arcs : List ArcM) (j : Nat) : (rowOf arcs j).length ≤ arcs.length := List.length_filter_le _ _

/-- The rows of the table, block g, behind some arcs. -/
structure Fan (w : World) (base g n : Nat) (vs : List Value) (arcs : List ArcM) : Prop where
  lo : base ≤ g
  blk : w.heap[g]? = some (.cells vs.toArray 32 (0, 0))
  len : vs.length = n
  row : ∀ j, j < n → Row w base 72 5 (vs.getD j undef) (rowOf arcs j).length (arcCells (rowOf arcs j))
  apart : ∀ i j, i < n → j < n → i ≠ j → (vs.getD i undef).ownBlock = none ∨ (vs.getD i undef).ownBlock ≠ (vs.getD j undef).ownBlock

section
variable {w w' : World} {base g n : Nat} {vs : List Value} {arcs : List ArcM}
theorem Fan.new_ (h : Fan w base g n vs arcs) (hn : New w w') : Fan w' base g n vs arcs :=
  ⟨h.lo, (hn.block g (lt_heap h.blk)).trans h.blk, h.len, fun j hj => (h.row j hj).new_ hn, h.apart⟩
theorem Fan.cell (h : Fan w base g n vs arcs) {j : Nat} (hj : j < n) : w.cell? ⟨g, j, none⟩ = some (vs.getD j undef) := by
  have : j < vs.length := by rw [h.len]; exact hj
  simp [World.cell?, h.blk, List.getD, this]
theorem Fan.free (h : Fan w base g n vs arcs) (j : Nat) : w.frozen? ⟨g, j, none⟩ = false := by simp [World.frozen?, h.blk]

/-- An arc is put in. -/
theorem Fan.put (h : Fan w base g n vs arcs) {a : ArcM} {f : Nat} (hf : a.f = (f : Int)) (hfn : f < n) {w1 : World} {v' : Value} (hr : Row w1 base 72 5 v' ((rowOf arcs f).length + 1) (arcCells (rowOf arcs f) ++ [.int .i64 a.f, .int .i64 a.t, .int .i64 a.i, .int .i64 a.o, .int .i64 0]))
    (hg : w.grownBy w1 (vs.getD f undef).ownBlock) (hat : v'.ownBlock = (vs.getD f undef).ownBlock ∨ v'.ownBlock = some w.heap.size) :
    Fan (w1.setCell ⟨g, f, none⟩ v') base g n (vs.set f v') (arcs ++ [a]) := by
  have hblk : w1.heap[g]? = some (.cells vs.toArray 32 (0, 0)) := by
    rw [hg.block g (lt_heap h.blk) (fun e => by obtain ⟨c, hc⟩ := (h.row f hfn).typed e.symm; exact ne_typed h.blk hc (by decide) rfl)]
    exact h.blk
  have hget : ∀ j, (vs.set f v').getD j undef = if j = f then v' else vs.getD j undef := by
    intro j
    by_cases e : j = f
    · subst e
      rw [if_pos rfl]
      have : j < vs.length := by rw [h.len]; exact hfn
      simp [List.getD, this]
    · rw [if_neg e]
      simp [List.getD, List.getElem?_set, Ne.symm e]
  have hsnoc : ∀ j, rowOf (arcs ++ [a]) j = if j = f then rowOf arcs f ++ [a] else rowOf arcs j := by
    intro j
    rw [rowOf_snoc]
    by_cases e : j = f
    · subst e; rw [if_pos hf, if_pos rfl]
    · rw [if_neg e, if_neg (by rw [hf]; omega)]
  refine ⟨h.lo, ?_, by rw [List.length_set]; exact h.len, fun j hj => ?_, fun i j hi hj hij => ?_⟩
  · rw [blk_set hblk]
    simp
  · rw [hget, hsnoc]
    by_cases e : j = f
    · rw [if_pos e, if_pos e]
      have e2 : arcCells (rowOf arcs f ++ [a]) = arcCells (rowOf arcs f) ++ [.int .i64 a.f, .int .i64 a.t, .int .i64 a.i, .int .i64 a.o, .int .i64 0] := by simp [arcCells]
      rw [e2, List.length_append]
      exact hr.set_other (q := ⟨g, f, none⟩) hblk (by decide) _
    · rw [if_neg e, if_neg e]
      exact ((h.row j hj).kept hg (h.apart j f hj hfn e)).set_other (q := ⟨g, f, none⟩) hblk (by decide) _
  · rw [hget, hget]
    by_cases e1 : i = f
    · have e2 : j ≠ f := fun e => hij (e1.trans e.symm)
      rw [if_pos e1, if_neg e2]
      rcases hat with h0 | h0
      · rw [h0]; exact h.apart f j hfn hj (Ne.symm e2)
      · rw [h0]
        refine .inr (fun e => ?_)
        have := ((h.row j hj).lt _ e.symm).2
        omega
    · rw [if_neg e1]
      by_cases e2 : j = f
      · rw [if_pos e2]
        rcases hat with h0 | h0
        · rw [h0]; exact h.apart i f hi hfn e1
        · rw [h0]
          refine .inr (fun e => ?_)
          have := ((h.row i hi).lt _ e).2
          omega
      · rw [if_neg e2]; exact h.apart i j hi hj hij
end

theorem _root_.Go.Kap.Src.drew_ {w : World} {A : Option Addr} {m size : Nat} {news : List Value} (h : Src w A m size news) : Src w.drew A m size news := h
theorem Fan.grown {w w1 : World} {base g n : Nat} {vs : List Value} {arcs : List ArcM} (h : Fan w base g n vs arcs) {f : Nat} (hfn : f < n) {v : Value} (hv : vs.getD f undef = v) (hg : w.grownBy w1 v.ownBlock) :
    w1.cell? ⟨g, f, none⟩ = some v ∧ w1.frozen? ⟨g, f, none⟩ = false := by
  subst hv
  have hblk : w1.heap[g]? = w.heap[g]? := hg.block g (lt_heap h.blk) (fun e => by obtain ⟨c, hc⟩ := (h.row f hfn).typed e.symm; exact ne_typed h.blk hc (by decide) rfl)
  exact ⟨(World.cell?_of_block hblk).trans (h.cell hfn), (World.frozen?_of_block hblk).trans (h.free f)⟩
theorem info72' : (Try.prog.info? 72).map (fun i => (i.zero, i.size, i.bytes)) = some (some (.agg #[.int .i64 0, .int .i64 0, .int .i64 0, .int .i64 0, .int .i64 0]), 5, 40) := by kernel_rfl

def FanPost (n : Nat) (arcs : List ArcM) (w : World) (en : Ending) (w' : World) : Prop :=
  ∃ g vs, en = .returned (.slice (some ⟨g, 0, none⟩) n n) ∧ Fan w' w.heap.size g n vs arcs ∧ New w w'

theorem info32 : (Try.prog.info? 32).map (fun i => (i.zero, i.size, i.bytes)) = some (some (.slice none 0 0), 1, 24) := by kernel_rfl
theorem made_none (n : Nat) : (madeCells #[Value.slice none 0 0] n).toList = List.replicate n (.slice none 0 0) := by
  apply List.ext_getElem?
  intro i
  simp [madeCells, Value.cells, List.getElem?_replicate, Nat.mod_one]
  by_cases h : i < n <;> simp [h]
theorem Fan.made {w : World} {base g n : Nat} (hn : 0 < n) (h : w.ownsRow base 32 1 (.slice (some ⟨g, 0, none⟩) n n) n (madeCells #[Value.slice none 0 0] n).toList) : Fan w base g n (List.replicate n (.slice none 0 0)) [] := by
  rcases h.2 with ⟨h0, _⟩ | ⟨g', cap, cur, hv, hb, hg, h1, h2, h3, h4⟩
  · cases h0
  · injection hv with e1 e2 e3
    injection e1 with e1
    injection e1 with e1
    subst e1 e3
    rw [made_none] at h4
    rw [List.take_of_length_le (by simp; omega)] at h4
    have hgd : ∀ j, j < n → (List.replicate n (Value.slice none 0 0)).getD j undef = .slice none 0 0 := by
      intro j hj
      simp [List.getD, hj]
    refine ⟨hb, ?_, by simp, fun j hj => ?_, fun i j hi hj _ => ?_⟩
    · rw [hg, ← h4]
    · rw [hgd j hj]; exact Row.nil_ _ _ _ _
    · rw [hgd i hi]; exact .inl rfl

set_option maxHeartbeats 2000000 in
theorem from_any (n : Nat) (h : MachH) (arcs : List ArcM) (fins : List Int) (w : World) (hm : MachV w n h arcs fins) :
    Calls Try.prog 25 #[machVal n h] w (FanPost n arcs w) := by
  obtain ⟨A, na, ca, F, nf, cf⟩ := h
  obtain ⟨hg, ha, hf⟩ := hm
  dsimp only at ha hf
  show Calls Try.prog 25 #[.agg #[.int .i64 n, .slice A na ca, .slice F nf cf]] w (FanPost n arcs w)
  obtain ⟨iS, hS, hS0, hS1, hS2⟩ := info_parts info32
  obtain ⟨i0, hi0, hz0, hz1, hz2⟩ := info_parts info72'
  have hn0 := new_alloc w (.cells #[.int .i64 n, .slice A na ca, .slice F nf cf] 35)
  have h1 := hg.n1
  have h2 := hg.n2
  have h3 : na ≤ 20000 := by rw [← ha.1]; exact hg.len
  have hca := ha.2.1
  have HA := Lib.hid ha
  have HG := Lib.hid hg
  clear ha hf hg
  go_enter Try.func25, Try.ntmps25
  go_wp2_with (at_make; refine wpList_make_full _ rfl _ _ 65 rfl w.heap.size 32 iS _ 1 Try.underlying65 hS hS0 hS1 .i64 .i64 _ _ n rfl rfl rfl rfl ?b2 ?b3 ?b4 ?_)
  case b2 => rw [hS2]; omega
  case b3 => unfold maxLen; omega
  case b4 => simp
  intro w1 hown hg1
  have hF0 := Lib.hid (Fan.made (show 0 < n by omega) hown)
  have hn1 : New w w1 := New.grown hn0 hg1 (fun k hk => by cases hk)
  have hbx : w1.cell? ⟨w.heap.size, 1, none⟩ = some (.slice A na ca) := by
    rw [World.cell?_of_block (a := ⟨w.heap.size, 1, none⟩) (hg1.block w.heap.size (by simp) (by simp))]
    simp [go_sem]
  clear hown hg1
  go_wp2
  go_loopw [12] (fun i wr => ∃ (j : Nat) (vs : List Value), j ≤ na ∧ i = .int .i64 j ∧ Fan wr w.heap.size (w.heap.size + 1) n vs (arcs.take j) ∧ New w wr) (fun i _ => na - (intOf i).toNat)
  case atStart => exact ⟨0, _, Nat.zero_le _, rfl, by simpa using hF0.out, hn1⟩
  case round =>
    obtain ⟨j, vs, hj, rfl, hfan, hw⟩ := hrel
    have HFAN := Lib.hid hfan
    clear hfan
    by_cases hjn : j < na
    · obtain ⟨b, off, rfl, hc⟩ := HA.out.2.2 (by omega)
      have hcj := (hc j hjn).new_ hw
      have hjl : j < arcs.length := by rw [HA.out.1]; exact hjn
      have hbd := HG.out.arc (arcs.getD j arcD) (getD_mem hjl _)
      have htk : arcs.take (j + 1) = arcs.take j ++ [arcs.getD j arcD] := by rw [List.take_succ_eq_append_getElem hjl]; simp [List.getD, hjl]
      have HTK := Lib.hid htk
      generalize arcs.getD j arcD = a at *
      obtain ⟨f, t, i, o⟩ := a
      obtain ⟨c0, c1, c2, c3, c4⟩ := hcj
      dsimp only at *
      obtain ⟨⟨f1, f2⟩, _⟩ := hbd
      obtain ⟨fN, rfl⟩ := Int.eq_ofNat_of_zero_le f1
      have hfn : fN < n := by omega
      obtain ⟨A1, k1, hv1, hk1, _, _⟩ := (HFAN.out.row fN hfn).len
      have htb := HFAN.out.cell hfn
      rw [hv1] at htb
      have hfr := HFAN.out.free fN
      have hgl := lt_heap HFAN.out.blk
      have HROW := Lib.hid (HFAN.out.row fN hfn)
      rw [hv1] at HROW
      have hHS := hw.size
      have hml : (rowOf (arcs.take j) fN).length ≤ 20000 := Nat.le_trans (rowOf_len _ _) (by rw [List.length_take]; omega)
      clear hc htk
      go_upto_block 1 with fail
      go_cut [] (fun wx => ∃ (w2 : World) (v' : Value), Row w2 w.heap.size 72 5 v' ((rowOf (arcs.take j) fN).length + 1) (arcCells (rowOf (arcs.take j) fN) ++ [.int .i64 (fN : Int), .int .i64 t, .int .i64 i, .int .i64 o, .int .i64 0]) ∧
        ((wr.alloc (.cells #[.int .i64 (fN : Int), .int .i64 t, .int .i64 i, .int .i64 o, .int .i64 0] 72)).alloc (.cells #[.int .i64 (fN : Int), .int .i64 t, .int .i64 i, .int .i64 o, .int .i64 0] 72)).drew.grownBy w2 (vs.getD fN undef).ownBlock ∧ (v'.ownBlock = (vs.getD fN undef).ownBlock ∨ v'.ownBlock = some (wr.heap.size + 2)) ∧ wx = w2.setCell ⟨w.heap.size + 1, fN, none⟩ v')
      case first =>
        have hsz1 : w.heap.size + 1 < wr.heap.size := hgl
        have hfi1 : (0 : Int) ≤ (fN : Int) := by omega
        have hfi2 : (fN : Int) < (n : Int) := by omega
        have hB1 : w.heap.size ≤ wr.heap.size := by omega
        have HC3 : (rowOf (arcs.take j) fN).length + 1 ≤ maxLen := by unfold maxLen; omega
        have HC4 : ((rowOf (arcs.take j) fN).length + 1) * 40 ≤ 140737488355328 := by omega
        have hnw0 : New wr ((wr.alloc (.cells #[.int .i64 (fN : Int), .int .i64 t, .int .i64 i, .int .i64 o, .int .i64 0] 72)).alloc (.cells #[.int .i64 (fN : Int), .int .i64 t, .int .i64 i, .int .i64 o, .int .i64 0] 72)).drew := (((New.refl wr).alloc _).alloc _).drew_
        have HSRC : Hid (Src ((wr.alloc (.cells #[.int .i64 (fN : Int), .int .i64 t, .int .i64 i, .int .i64 o, .int .i64 0] 72)).alloc (.cells #[.int .i64 (fN : Int), .int .i64 t, .int .i64 i, .int .i64 o, .int .i64 0] 72)).drew (some ⟨wr.heap.size + 1, 0, none⟩) 1 5 [.int .i64 (fN : Int), .int .i64 t, .int .i64 i, .int .i64 o, .int .i64 0]) := by
          have h0 := Src.lit (size := 5) (wr.alloc (.cells #[.int .i64 (fN : Int), .int .i64 t, .int .i64 i, .int .i64 o, .int .i64 0] 72)) #[.int .i64 (fN : Int), .int .i64 t, .int .i64 i, .int .i64 o, .int .i64 0] 72 1 (by simp) (by simp [Value.oneCell'])
          rw [World.size_alloc] at h0
          exact h0.drew_
        have htb2 : ((wr.alloc (.cells #[.int .i64 (fN : Int), .int .i64 t, .int .i64 i, .int .i64 o, .int .i64 0] 72)).alloc (.cells #[.int .i64 (fN : Int), .int .i64 t, .int .i64 i, .int .i64 o, .int .i64 0] 72)).cell? ⟨w.heap.size + 1, fN, none⟩ = some (.slice A1 (rowOf (arcs.take j) fN).length k1) := by
          rw [World.cell?_alloc_lt _ _ _ (by simp; omega), World.cell?_alloc_lt _ _ _ (by simp; omega)]
          exact htb
        have HLOC : Hid (∀ w2 : World, (((wr.alloc (.cells #[.int .i64 (fN : Int), .int .i64 t, .int .i64 i, .int .i64 o, .int .i64 0] 72)).alloc (.cells #[.int .i64 (fN : Int), .int .i64 t, .int .i64 i, .int .i64 o, .int .i64 0] 72)).drew).grownBy w2 (Value.slice A1 (rowOf (arcs.take j) fN).length k1).ownBlock → w2.cell? ⟨wr.heap.size, 0, none⟩ = some (.int .i64 (fN : Int))) := by
          intro w2 hg
          rw [World.cell?_of_block (a := ⟨wr.heap.size, 0, none⟩) (hg.block wr.heap.size (by simp; omega) (fun e => by have := (HROW.out.lt _ e.symm).2; omega))]
          show ((wr.alloc _).alloc _).cell? _ = _
          rw [World.cell?_alloc_lt _ _ _ (by simp)]
          simp [go_sem]
        have HF3 := Lib.hid (HFAN.out.new_ hnw0)
        have HV1 := Lib.hid hv1
        clear hv1 f1 f2
        go_wp2
        go_region_law ((refine step_append_row _ (by rfl) _ _ 32 (by rfl) w.heap.size 72 i0 _ 5 40 Try.underlying32 hi0 hz0 hz1 hz2 rfl (by decide) _ _ _ (by rfl) ((HROW.out.alloc _).alloc _).drew (some ⟨wr.heap.size + 1, 0, none⟩) 1 1 [.int .i64 (fN : Int), .int .i64 t, .int .i64 i, .int .i64 o, .int .i64 0] (by rfl) HSRC.out HC3 HC4 (by simp; omega) ?_; intro v' w2 hr2 hg2 hat2 hnil2; obtain ⟨hx2, hy2⟩ := HF3.out.grown hfn HV1.out hg2; have hl2 := HLOC.out w2 hg2; have HR2 := Lib.hid hr2; have HG2 := Lib.hid hg2; have HAT2 := Lib.hid hat2; obtain ⟨Av, kv, rfl, _⟩ := hr2.len; clear hr2 hg2 hat2 hnil2))
        all_goals
          go_wp2
          go_meet
          exact ⟨w2, _, HR2.out, by rw [HV1.out]; exact HG2.out, by rw [HV1.out]; simpa using HAT2.out, rfl⟩
      case rest =>
        obtain ⟨w2, v', hr2, hg2, hat2, rfl⟩ := hcut
        have hnw0 : New wr ((wr.alloc (.cells #[.int .i64 (fN : Int), .int .i64 t, .int .i64 i, .int .i64 o, .int .i64 0] 72)).alloc (.cells #[.int .i64 (fN : Int), .int .i64 t, .int .i64 i, .int .i64 o, .int .i64 0] 72)).drew := (((New.refl wr).alloc _).alloc _).drew_
        have HF4 := Lib.hid ((HFAN.out.new_ hnw0).put (a := ⟨fN, t, i, o⟩) rfl hfn hr2 hg2 (by simpa using hat2))
        have hn4 : New w w2 := New.grown (New.trans hw hnw0) hg2 (fun k hk => ((HFAN.out.row fN hfn).lt k hk).1)
        have HN5 := Lib.hid (hn4.setCell (p := ⟨w.heap.size + 1, fN, none⟩) (by simp) v')
        clear hr2 hg2 hat2 hn4
        go_wp2
        go_roundw
        case rel => exact ⟨j + 1, _, by omega, by go_num, by rw [HTK.out]; exact HF4.out, HN5.out⟩
        case measure => simp [intOf]; omega
    · have hjn' : j = na := by omega
      subst hjn'
      go_wp2
      go_ret
      refine ⟨w.heap.size + 1, vs, rfl, ?_, hw⟩
      have := HFAN.out
      rwa [List.take_of_length_le (by rw [HA.out.1]; omega)] at this
end Go.Proofs.Ytglmlbmjppblbaa
