/- The netter: keys. -/
import Derived.Test.YtglmlbmjppblbaaF
import Derived.Test.YtglmlbmjppblbaaM
namespace Go.Proofs.Ytglmlbmjppblbaa
open Go.RowKit Go.Kap

theorem info5 : (Try.prog.info? 5).map (fun i => (i.zero, i.size, i.bytes)) = some (some (.int .u8 0), 1, 1) := by kernel_rfl

def byteM (x : Int) : Int := IntKind.u8.wrap x
def keyTail (l : List Int) : List Int := 0 :: l.map byteM
def keyM (kind : Int) (ls : List (List Int)) : List Int := kind :: ls.flatMap keyTail

/-- Slices of ints, one behind the other. -/
def Lists (w : World) (b off : Nat) (ls : List (List Int)) : Prop :=
  ∀ j, j < ls.length → ∃ A n c, w.cell? ⟨b, off + j, none⟩ = some (.slice A n c) ∧ Ints w w.heap.size A n c (ls.getD j []) ∧ n ≤ 1048576
theorem Lists.new_ {w w' : World} {b off : Nat} {ls : List (List Int)} (h : Lists w b off ls) (hn : New w w') : Lists w' b off ls := fun j hj => by
  obtain ⟨A, n, c, h1, h2, h3⟩ := h j hj
  exact ⟨A, n, c, (hn.cell (cell_lt h1)).trans h1, h2.new_ hn, h3⟩

theorem keyM_take (kind : Int) (ls : List (List Int)) (j : Nat) (h : j < ls.length) : keyM kind (ls.take (j + 1)) = keyM kind (ls.take j) ++ keyTail (ls.getD j []) := by
  unfold keyM
  rw [List.take_succ_eq_append_getElem h, List.flatMap_append]
  rw [List.getD_eq_getElem?_getD, List.getElem?_eq_getElem h]
  simp

def KeyPost (bs : List Int) (w : World) (en : Ending) (w' : World) : Prop := en = .returned (.string (strOfNums bs)) ∧ New w w'

set_option maxHeartbeats 1000000 in
set_option maxRecDepth 100000 in
theorem key_any (kind : Int) (b off : Nat) (ls : List (List Int)) (n : Nat) (w : World) (h : Lists w b off ls) (hn : ls.length = n) (hnl : n ≤ 3) :
    Calls Try.prog 39 #[.int .u8 kind, .slice (some ⟨b, off, none⟩) n n] w (KeyPost (keyM kind ls) w) := by
  obtain ⟨i0, hi0, hz0, hz1, hz2⟩ := info_parts info5
  have HN := Lib.hid hn
  have HLS := Lib.hid h
  clear h hn
  go_enter Try.func39, Try.ntmps39
  go_wp2
  go_loopw [5, 14] (fun v i wr => ∃ j : Nat, j ≤ n ∧ i = .int .i64 j ∧ (∃ bs : List Int, bs = keyM kind (ls.take j) ∧ Row wr w.heap.size 5 1 v bs.length (bs.map (.int .u8)) ∧ bs.length ≤ 1 + j * 1048577) ∧ New w wr) (fun _ i _ => n - (intOf i).toNat)
  case atStart =>
    refine ⟨0, Nat.zero_le _, rfl, ⟨[kind], by simp [keyM], ?_, by simp⟩, new_alloc w _⟩
    exact Row.fresh w #[.int .u8 kind] 1 (Nat.le_refl _) (by simp) (by unfold maxLen; omega)
  case round =>
    obtain ⟨j, hj, rfl, ⟨bs, hbs, hrow, hbl⟩, hw⟩ := hrel
    have HBS := Lib.hid hbs
    clear hbs
    by_cases hjn : j < n
    · obtain ⟨A, m, c, g1, g2, g3⟩ := HLS.out j (by rw [HN.out]; exact hjn)
      have g1' := (hw.cell (cell_lt g1)).trans g1
      have HKT := Lib.hid (keyM_take kind ls j (by rw [HN.out]; exact hjn))
      generalize hl : ls.getD j [] = l at *
      have hsz := hw.size
      obtain ⟨hlen, hm62, hci⟩ := g2
      have HLEN := Lib.hid hlen
      clear hlen hl
      go_wp2_with (at_builtin; refine wpList_append_row _ rfl _ _ 105 rfl w.heap.size 5 i0 (.int .u8 0) 1 1 Try.underlying105 hi0 hz0 hz1 hz2 rfl (by decide) _ _ _ rfl (hrow.alloc _) (some ⟨wr.heap.size, 0, none⟩) 1 1 [.int .u8 0] rfl (Src.lit wr #[.int .u8 0] 5 1 (by simp) (by simp [Value.oneCell'])) ?c1 ?c2 ?c3 ?_)
      case c1 => unfold maxLen; omega
      case c2 => omega
      case c3 => simp; omega
      intro v' w1 hr1 hg1 hat hnil
      have hw1 : New w w1 := (hw.alloc _).row (hrow.alloc _) (Nat.le_refl _) hg1
      have hr1' : Row w1 w.heap.size 5 1 v' (bs ++ [0]).length ((bs ++ [0]).map (.int .u8)) := by simpa using hr1
      clear hr1 hg1 hat hnil hrow g1'
      go_wp2
      go_loopw [5, 23] (fun v i wr => ∃ q : Nat, q ≤ m ∧ i = .int .i64 q ∧ (∃ ds : List Int, ds = bs ++ [0] ++ (l.take q).map byteM ∧ Row wr w.heap.size 5 1 v ds.length (ds.map (.int .u8)) ∧ ds.length ≤ bs.length + 1 + q) ∧ New w wr) (fun _ i _ => m - (intOf i).toNat)
      case atStart => exact ⟨0, Nat.zero_le _, rfl, ⟨bs ++ [0], by simp, hr1', by simp⟩, hw1⟩
      case round =>
        obtain ⟨q, hq, rfl, ⟨ds, hds, hrow, hdl⟩, hw⟩ := hrel
        have HDS := Lib.hid hds
        clear hds
        have hsz := hw.size
        by_cases hqm : q < m
        · obtain ⟨b2, off2, rfl, hb2, hcc⟩ := hci (by omega)
          have hc := (hw.cell hb2).trans (hcc q hqm)
          have HX : Hid ((l.take (q + 1)).map byteM = (l.take q).map byteM ++ [byteM (l.getD q 0)]) := by
            have hql : q < l.length := by rw [HLEN.out]; exact hqm
            unfold Hid
            rw [List.take_succ_eq_append_getElem hql, List.map_append, List.getD_eq_getElem?_getD, List.getElem?_eq_getElem hql]
            rfl
          generalize l.getD q 0 = x at *
          clear hcc
          go_wp2_with (at_builtin; refine wpList_append_row _ rfl _ _ 105 rfl w.heap.size 5 i0 (.int .u8 0) 1 1 Try.underlying105 hi0 hz0 hz1 hz2 rfl (by decide) _ _ _ rfl (hrow.alloc _) (some ⟨wr.heap.size, 0, none⟩) 1 1 [.int .u8 (byteM x)] rfl (Src.lit wr #[.int .u8 (byteM x)] 5 1 (by simp) (by simp [Value.oneCell'])) ?d1 ?d2 ?d3 ?_)
          case d1 => unfold maxLen; omega
          case d2 => omega
          case d3 => simp; omega
          intro v2 w2 hr2 hg2 hat hnil
          have hw2 : New w w2 := (hw.alloc _).row (hrow.alloc _) (Nat.le_refl _) hg2
          go_wp2
          go_roundw
          case rel => exact ⟨q + 1, by omega, by go_num, ⟨ds ++ [byteM x], by rw [HX.out, HDS.out, List.append_assoc, List.append_assoc], by simpa using hr2, by simp; omega⟩, hw2⟩
          case measure => simp [intOf]; omega
        · have hqm' : q = m := by omega
          subst hqm'
          have HE : Hid (ds = keyM kind (ls.take (j + 1))) := by
            unfold Hid
            rw [HKT.out, ← HBS.out, HDS.out, List.take_of_length_le (by rw [HLEN.out]; omega), keyTail, List.append_assoc]
            rfl
          go_wp2
          go_roundw
          case rel => exact ⟨j + 1, by omega, by go_num, ⟨ds, HE.out, hrow, by omega⟩, hw⟩
          case measure => simp [intOf]; omega
    · have hjn' : j = n := by omega
      subst hjn'
      have HE : Hid (bs = keyM kind ls) := by
        unfold Hid; rw [HBS.out, List.take_of_length_le (by rw [HN.out]; omega)]
      have hlp : 0 < bs.length := by have := HE.out; rw [this]; simp [keyM]
      obtain ⟨A, c, rfl, h1, h2, h3⟩ := hrow.len
      obtain ⟨g, o, rfl, hbg, hgl, hc⟩ := hrow.cell hlp
      have hcv := run_convert_bytes_arg (P := Try.prog) wr 105 5 Try.underlying105 Try.underlying5 g o bs.length c bs rfl (by
        intro i hi
        rw [hc i (by omega)]
        simp [List.getD, hi]) 9 Try.underlying9
      clear hc h3
      go_wp2
      go_ret
      exact ⟨by show Ending.returned (.string (strOfNums bs)) = _; rw [← HE.out], hw⟩
end Go.Proofs.Ytglmlbmjppblbaa
