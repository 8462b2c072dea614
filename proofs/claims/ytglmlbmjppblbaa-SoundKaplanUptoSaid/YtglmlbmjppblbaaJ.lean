/- The netter: states. -/
import Derived.Test.YtglmlbmjppblbaaI
import Derived.Deep.RegionHeld3
namespace Go.Proofs.Ytglmlbmjppblbaa
open Go.RowKit Go.Kap
set_option maxRecDepth 100000

def keyB (kind : Int) (ls : List (List Int)) : List UInt8 := (keyM kind ls).map fun n => UInt8.ofNat n.toNat
theorem key_str (kind : Int) (ls : List (List Int)) : strOfNums (keyM kind ls) = ⟨(keyB kind ls).toArray⟩ := rfl

theorem IntsK.nil_ (w : World) (A : Option Addr) : IntsK w A 0 0 [] := ⟨Ints.nil_ _ _ _, fun _ _ _ _ h => absurd h (by omega)⟩
theorem IntsK.drop {w : World} {A : Option Addr} {n c : Nat} {xs : List Int} (h : IntsK w A n c xs) {k : Nat} (hk : k ≤ n) : IntsK w (if c = k then A else A.map (·.add k)) (n - k) (c - k) (xs.drop k) := by
  refine ⟨h.1.drop hk, fun b off sp hA h0 => ?_⟩
  have hc : ¬ c = k := by have := h.1.2.1; omega
  rw [if_neg hc] at hA
  cases A with
  | none => cases hA
  | some a =>
    simp only [Option.map_some, Option.some.injEq] at hA
    have hb : a.block = b := by have := congrArg Addr.block hA; rwa [add_block] at this
    obtain ⟨b', o', s'⟩ := a
    simp at hb
    subst hb
    exact h.2 _ _ _ rfl (by omega)
theorem IntsK.take {w : World} {A : Option Addr} {n c : Nat} {xs : List Int} (h : IntsK w A n c xs) {k : Nat} (hk : k ≤ n) : IntsK w A k c (xs.take k) :=
  ⟨h.1.take hk, fun b off sp hA h0 => h.2 b off sp hA (by omega)⟩
theorem IntsK.new_ {w w' : World} {A : Option Addr} {n c : Nat} {xs : List Int} (h : IntsK w A n c xs) (hn : New w w') : IntsK w' A n c xs :=
  ⟨h.1.new_ hn, fun b off sp hA h0 => by obtain ⟨cs, fr, hx⟩ := h.2 b off sp hA h0; exact ⟨cs, fr, (hn.block b (lt_heap hx)).trans hx⟩⟩

def truncL (n : Nat) (out : List Int) : List Int := if n < out.length then out.drop (out.length - n) else out
def stateM (n3 : Nat) (s : NS) (out inn : List Int) : NS × Int :=
  match nameAt s.names (keyB 115 [truncL n3 out, inn]) with
  | some i => (s, i)
  | none => ({ s with names := s.names ++ [keyB 115 [truncL n3 out, inn]], sts := s.sts ++ List.replicate (s.names.length - s.sts.length) ([], []) ++ [(truncL n3 out, inn)] }, s.names.length)

section
variable {w w' : World} {B0 p : Nat} {k : Int} {H : ChgH} {va vf vs : Value} {mb : Nat} {cs : List Value} {s : NS}

theorem keyM_len (kind : Int) (ls : List (List Int)) : (keyB kind ls).length = 1 + (ls.map fun l => l.length + 1).sum := by
  unfold keyB keyM
  simp [List.length_flatMap, keyTail]
  omega

/-- The table of states has grown. -/
theorem NetW.stsGrow (h : NetW w B0 p k H va vf vs mb cs s) {w1 : World} (hg : w.grownBy w1 vs.ownBlock) {v' : Value} {m : Nat} {cs' : List Value} (hr : Row w1 B0 56 2 v' m cs') {sts' : List (List Int × List Int)} (he : StsCells w cs' sts') (hm : m = sts'.length) :
    (w1.cell? ⟨p, 9, none⟩ = some vs ∧ w1.frozen? ⟨p, 9, none⟩ = false) ∧ NetW (w1.setCell ⟨p, 9, none⟩ v') B0 p k H va vf v' mb cs' { s with sts := sts' } ∧ NFr B0 w (w1.setCell ⟨p, 9, none⟩ v') := by
  have hblk : w1.heap[p]? = w.heap[p]? := hg.block p (lt_heap h.blk) (fun e => by obtain ⟨c, hc⟩ := h.sts.typed e.symm; exact ne_typed h.blk hc (by decide) rfl)
  have hb1 := hblk.trans h.blk
  have hg0 : NFr B0 w w1 := NFr.grown h.sts hg (.inr (.inr (.inr rfl))) (Nat.le_refl _) h.size
  have hmb : MapI strK w1 3 mb s.names.length (nameAt s.names) := h.map.kept hg (fun e => by
    obtain ⟨c, hc⟩ := h.sts.typed e.symm
    obtain ⟨es, cl, hm⟩ := h.map.isMap
    rw [hm] at hc; cases hc)
  have hfr : NFr B0 w1 (w1.setCell ⟨p, 9, none⟩ v') := NFr.setCell w1 (p := ⟨p, 9, none⟩) hb1 (.inl rfl) h.base.1 v'
  subst hm
  refine ⟨⟨(World.cell?_of_block hblk).trans (by have := h.cell 9; simpa using this), (World.frozen?_of_block hblk).trans (h.free 9)⟩, ⟨h.base, ?_, ?_, ?_, ?_, ?_, ?_⟩, hg0.trans hfr⟩
  · rw [blk_set hb1]; rfl
  · exact (Row.other h.arcs h.sts hg (by decide)).set_other (q := ⟨p, 9, none⟩) hb1 (by decide) _
  · exact (Row.other h.fins h.sts hg (by decide)).set_other (q := ⟨p, 9, none⟩) hb1 (by decide) _
  · exact hr.set_other (q := ⟨p, 9, none⟩) hb1 (by decide) _
  · exact he.keep (hg0.trans hfr)
  · exact hmb.setCell (p := ⟨p, 9, none⟩) hb1 _
theorem StsCells.snoc {w : World} {cs : List Value} {sts : List (List Int × List Int)} (h : StsCells w cs sts) {A A' : Option Addr} {n c n' c' : Nat} {x : List Int × List Int} (h1 : IntsK w A n c x.1) (h2 : IntsK w A' n' c' x.2) (h3 : sts.length ≠ 0 → x = ([], []) → A = none ∧ A' = none) :
    StsCells w (cs ++ [.slice A n c, .slice A' n' c']) (sts ++ [x]) := by
  refine ⟨by simp [h.1]; omega, fun j hj => ?_⟩
  by_cases hjl : j < sts.length
  · obtain ⟨a, n1, c1, a', n1', c1', g1, g2, g3, g4, g5⟩ := h.2 j hjl
    have e : (sts ++ [x]).getD j ([], []) = sts.getD j ([], []) := by simp [List.getD, List.getElem?_append_left hjl]
    rw [e]
    exact ⟨a, n1, c1, a', n1', c1', by rw [List.getElem?_append_left (by rw [h.1]; omega)]; exact g1, by rw [List.getElem?_append_left (by rw [h.1]; omega)]; exact g2, g3, g4, g5⟩
  · have hje : j = sts.length := by simp at hj; omega
    subst hje
    have e : (sts ++ [x]).getD sts.length ([], []) = x := by simp [List.getD]
    rw [e]
    exact ⟨A, n, c, A', n', c', by rw [List.getElem?_append_right (by rw [h.1]; omega), h.1]; simp, by rw [List.getElem?_append_right (by rw [h.1]; omega), h.1]; simp, h1, h2, h3⟩

/-- A cell of the row is set. -/
theorem _root_.Go.Kap.Row.put {w : World} {base : Nat} {e : TypeId} {size n : Nat} {v : Value} {xs : List Value} (h : Row w base e size v n xs) {g off cap : Nat} (hv : v = .slice (some ⟨g, off, none⟩) n cap) (i : Nat) (hi : i < n * size) (u : Value) : Row (w.setCell ⟨g, off + i, none⟩ u) base e size v n (xs.set i u) := by
  refine ⟨by simpa using h.1, ?_⟩
  rcases h.2 with ⟨rfl, _⟩ | ⟨g', off', cap', cur, e', hb, hg, hc, hm, hl, hx⟩
  · cases hv
  · rw [e'] at hv
    injection hv with hv _ hv2
    injection hv with hv
    injection hv with h1 h2 _
    subst h1 h2 hv2
    refine .inr ⟨g', off', cap', cur.setIfInBounds (off' + i) u, e', hb, blk_set hg _ _, hc, hm, by simpa using hl, ?_⟩
    rw [← hx]
    apply List.ext_getElem?
    intro j
    rw [List.getElem?_take, List.getElem?_set, List.getElem?_take]
    simp only [List.getElem?_drop, Array.toList_setIfInBounds, List.getElem?_set, List.length_take, List.length_drop, Array.length_toList]
    by_cases hj : i = j
    · subst hj
      have : i < n * size := hi
      have h3 : n * size ≤ cap' * size := Nat.mul_le_mul_right _ hc
      simp [this]
      have : off' + i < cur.size := by omega
      have h4 : i < cur.size - off' := by omega
      simp [this]
      omega
    · have : ¬ off' + i = off' + j := by omega
      simp [hj]

/-- The last state is put in. -/
theorem NetW.stsPut {w z : World} {k3 T : Nat} {L : List (List Int × List Int)} {g3 o3 : Nat} (h : NetW w B0 p k H va vf (.slice (some ⟨g3, o3, none⟩) (T + 1) k3) mb cs { s with sts := L ++ [([], [])] }) (hL : L.length = T) (hn : New w z)
    {A A' : Option Addr} {n c n' c' : Nat} {x : List Int × List Int} (h1 : IntsK z A n c x.1) (h2 : IntsK z A' n' c' x.2) (h3 : T ≠ 0 → x = ([], []) → A = none ∧ A' = none) :
    NetW ((z.setCell ⟨g3, o3 + T * 2, none⟩ (.slice A n c)).setCell ⟨g3, o3 + T * 2 + 1, none⟩ (.slice A' n' c')) B0 p k H va vf (.slice (some ⟨g3, o3, none⟩) (T + 1) k3) mb ((cs.set (T * 2) (.slice A n c)).set (T * 2 + 1) (.slice A' n' c')) { s with sts := L ++ [x] } ∧
    NFr B0 w ((z.setCell ⟨g3, o3 + T * 2, none⟩ (.slice A n c)).setCell ⟨g3, o3 + T * 2 + 1, none⟩ (.slice A' n' c')) := by
  have hB := h.size
  have hz := h.new_ hn hB
  have hzs := hz.sts
  simp only [List.length_append, hL, List.length_cons, List.length_nil] at hzs
  have r1 := hzs.put rfl (T * 2) (by omega) (.slice A n c)
  have r2 := r1.put rfl (T * 2 + 1) (by omega) (.slice A' n' c')
  obtain ⟨cur, hg⟩ := hzs.typed (k := g3) rfl
  have hg1 := blk_set hg (o3 + T * 2) (.slice A n c)
  have hbl := hzs.lt g3 rfl
  have f1 : NFr B0 z (z.setCell ⟨g3, o3 + T * 2, none⟩ (.slice A n c)) := NFr.setCell z (p := ⟨g3, o3 + T * 2, none⟩) hg (.inr (.inr (.inr rfl))) hbl.1 _
  have f2 : NFr B0 (z.setCell ⟨g3, o3 + T * 2, none⟩ (.slice A n c)) ((z.setCell ⟨g3, o3 + T * 2, none⟩ (.slice A n c)).setCell ⟨g3, o3 + (T * 2 + 1), none⟩ (.slice A' n' c')) := NFr.setCell _ (p := ⟨g3, o3 + (T * 2 + 1), none⟩) hg1 (.inr (.inr (.inr rfl))) hbl.1 _
  have f := (f1.trans f2)
  have hpg : p ≠ g3 := ne_typed hz.blk hg (by decide)
  have hlen : cs.length = (T + 1) * 2 := hzs.1
  rw [Nat.add_assoc]
  refine ⟨⟨hz.base, ?_, ?_, ?_, ?_, ?_, ?_⟩, (NFr.of_new hn hB).trans f⟩
  · rw [Below.heap_setCell _ _ _ _ (by simpa using hpg), Below.heap_setCell _ _ _ _ (by simpa using hpg)]
    exact hz.blk
  · exact (hz.arcs.set_other (q := ⟨g3, o3 + T * 2, none⟩) hg (by decide) _).set_other (q := ⟨g3, o3 + (T * 2 + 1), none⟩) hg1 (by decide) _
  · exact (hz.fins.set_other (q := ⟨g3, o3 + T * 2, none⟩) hg (by decide) _).set_other (q := ⟨g3, o3 + (T * 2 + 1), none⟩) hg1 (by decide) _
  · simpa [hL] using r2
  · refine ⟨by simp [hL, hlen], fun j hj => ?_⟩
    by_cases hjT : j = T
    · subst hjT
      have e : (L ++ [x]).getD j ([], []) = x := by simp [List.getD, ← hL]
      rw [e]
      refine ⟨A, n, c, A', n', c', ?_, ?_, f.ints h1, f.ints h2, h3⟩
      · rw [List.getElem?_set_ne (by omega), List.getElem?_set_self (by omega)]
      · rw [List.getElem?_set_self (by simp; omega)]
    · have hjl : j < L.length := by simp at hj; omega
      obtain ⟨a, n1, c1, a', n1', c1', g1, g2, g3', g4, g5⟩ := hz.ent.2 j (by simp; omega)
      have e : (L ++ [x]).getD j ([], []) = (L ++ [([], [])]).getD j ([], []) := by simp [List.getD, List.getElem?_append_left hjl]
      rw [e]
      refine ⟨a, n1, c1, a', n1', c1', ?_, ?_, f.ints g3', f.ints g4, g5⟩
      · rw [List.getElem?_set_ne (by omega), List.getElem?_set_ne (by omega)]; exact g1
      · rw [List.getElem?_set_ne (by omega), List.getElem?_set_ne (by omega)]; exact g2
  · exact (hz.map.setCell (p := ⟨g3, o3 + T * 2, none⟩) hg _).setCell (p := ⟨g3, o3 + (T * 2 + 1), none⟩) hg1 _

theorem info56 : (Try.prog.info? 56).map (fun i => (i.zero, i.size, i.bytes)) = some (some (.agg #[.slice none 0 0, .slice none 0 0]), 2, 48) := by kernel_rfl

set_option maxHeartbeats 2000000 in
/-- 'state', when what was written last is cut already. -/
theorem state_in (O I : Option Addr) (m d q e : Nat) (out inn : List Int) (h : NetW w B0 p k H va vf vs mb cs s) (ho : IntsK w O m d out) (hi : IntsK w I q e inn) (hm : m ≤ H.n3) (hm2 : m ≤ 1000) (hq : q ≤ 1000)
    (hl : s.names.length ≤ 100000) (hsl : s.sts.length ≤ s.names.length) (hz : s.names ≠ [] → out = [] → inn = [] → nameAt s.names (keyB 115 [[], []]) ≠ none) :
    Calls Try.prog 17 #[.pointer (some ⟨p, 0, none⟩), .slice O m d, .slice I q e] w (NetPost B0 p k H w (.int .i64 (stateM H.n3 s out inn).2) (stateM H.n3 s out inn).1) := by
  have ht : truncL H.n3 out = out := by unfold truncL; rw [if_neg (by have := ho.1.1; omega)]
  have HT := Lib.hid ht
  clear ht
  have hB := h.size
  have c3 := h.cell 3
  simp at c3
  have hn0 := new_alloc w (.cells #[.slice O m d, .slice I q e] 22)
  have hW0 := h.new_ hn0 hB
  have hls : Lists (w.alloc (.cells #[.slice O m d, .slice I q e] 22)) w.heap.size 0 [out, inn] := by
    intro j hj
    match j, hj with
    | 0, _ => exact ⟨O, m, d, by simp [go_sem], ho.1.new_ hn0, by omega⟩
    | 1, _ => exact ⟨I, q, e, by simp [go_sem], hi.1.new_ hn0, by omega⟩
  have hkl : (keyB 115 [out, inn]).length ≤ 1000000 := by
    rw [keyM_len]; have := ho.1.1; have := hi.1.1; simp; omega
  cases hf : nameAt s.names (keyB 115 [out, inn]) with
  | some i =>
    have HR : Hid (stateM H.n3 s out inn = (s, i)) := by unfold Hid stateM; rw [HT.out, hf]
    have HF := Lib.hid hf
    clear hf
    go_enter Try.func17, Try.ntmps17
    go_wp2_with fail
    refine (key_any 115 w.heap.size 0 [out, inn] 2 _ hls rfl (by omega)).mono ?_
    rintro en w1 ⟨rfl, hw1⟩
    have hW1 := hW0.new_ hw1 (by simp; omega)
    go_wp2_with fail
    refine (named_had (keyB 115 [out, inn]) i hW1 hkl HF.out).mono ?_
    rintro en w2 ⟨rfl, rfl⟩
    go_wp2
    go_ret
    refine ⟨by show Ending.returned (.int .i64 i) = _; rw [HR.out], by rw [HR.out]; exact ⟨_, _, _, _, _, hW1⟩, (NFr.of_new hn0 hB).trans (NFr.of_new hw1 (by simp; omega))⟩
  | none =>
    have HF := Lib.hid hf
    clear hf
    go_enter Try.func17, Try.ntmps17
    go_wp2_with fail
    refine (key_any 115 w.heap.size 0 [out, inn] 2 _ hls rfl (by omega)).mono ?_
    rintro en w1 ⟨rfl, hw1⟩
    have hW1 := hW0.new_ hw1 (by simp; omega)
    go_wp2_with fail
    refine (named_new (keyB 115 [out, inn]) hW1 hkl (by omega) HF.out).mono ?_
    rintro en w2 ⟨rfl, ⟨va2, vf2, vs2, mb2, cs2, hW2⟩, hf2⟩
    have hfr : NFr B0 w w2 := ((NFr.of_new hn0 hB).trans (NFr.of_new hw1 (by simp; omega))).trans hf2
    have ho2 := hfr.ints ho
    have hi2 := hfr.ints hi
    obtain ⟨i0, hi0, hz0, hz1, hz2⟩ := info_parts info56
    obtain ⟨T, hT⟩ : ∃ T, T = s.names.length := ⟨_, rfl⟩
    have HTT := Lib.hid hT
    have HWW : Hid (NetW w2 B0 p k H va2 vf2 vs2 mb2 cs2 { s with names := s.names ++ [keyB 115 [out, inn]] }) := hW2
    rw [← HTT.out] at hl hsl
    clear hT hW2
    have hsz2 := hf2.size
    simp only [← HTT.out]
    go_wp2
    go_loopw [46] (fun _ wr => ∃ va vf vs mb cs j, NetW wr B0 p k H va vf vs mb cs { s with names := s.names ++ [keyB 115 [out, inn]], sts := s.sts ++ List.replicate j ([], []) } ∧ NFr B0 w2 wr ∧ s.sts.length + j ≤ T + 1)
      (fun _ wr => match wr.cell? ⟨p, 9, none⟩ with | some (.slice _ n _) => T + 1 - n | _ => 0)
    case atStart => exact ⟨_, _, _, _, _, 0, by simpa using HWW.out, NFr.refl _ _, by omega⟩
    case round =>
      obtain ⟨va3, vf3, vs3, mb3, cs3, j, hW3, hf3, hjl⟩ := hrel
      obtain ⟨A3, k3, rfl, hn3, hk3, _⟩ := hW3.sts.len
      have c9 := hW3.cell 9
      have f9 := hW3.free 9
      simp at c9 hn3
      have HW3 := Lib.hid hW3
      have hlen : (s.sts ++ List.replicate j ([], [])).length = s.sts.length + j := by simp
      have HLN := Lib.hid hlen
      have HR3 : Hid (Row wr B0 56 2 (.slice A3 (s.sts.length + j) k3) (s.sts.length + j) cs3) := by unfold Hid; have := hW3.sts; simpa using this
      have hB3 := hW3.size
      have hpl := lt_heap hW3.blk
      clear hW3 hlen
      by_cases hjT : s.sts.length + j ≤ T
      · go_wp2_with (at_builtin; refine wpList_append_row _ rfl _ _ 52 rfl B0 56 i0 _ 2 48 Try.underlying52 hi0 hz0 hz1 hz2 rfl (by decide) _ _ _ rfl (HR3.out.alloc _) (some ⟨wr.heap.size, 0, none⟩) 1 1 [.slice none 0 0, .slice none 0 0] rfl (Src.lit wr #[.slice none 0 0, .slice none 0 0] 56 1 (by simp) (by simp [Value.oneCell'])) ?c1 ?c2 ?c3 ?_)
        case c1 => unfold maxLen; omega
        case c2 => omega
        case c3 => first | omega | (simp; omega)
        intro v' w4 hr4 hg4 hat hnil
        have hWa := HW3.out.new_ (new_alloc wr (.cells #[.slice none 0 0, .slice none 0 0] 56)) hB3
        have hnew4 : New (wr.alloc (.cells #[.slice none 0 0, .slice none 0 0] 56)) (wr.alloc (.cells #[.slice none 0 0, .slice none 0 0] 56)) := New.refl _
        have hg4' : (wr.alloc (.cells #[.slice none 0 0, .slice none 0 0] 56)).grownBy w4 (Value.slice A3 (s.sts ++ List.replicate j ([], [])).length k3).ownBlock := by rw [HLN.out]; exact hg4
        have hent : StsCells (wr.alloc (.cells #[.slice none 0 0, .slice none 0 0] 56)) (cs3 ++ [.slice none 0 0, .slice none 0 0]) (s.sts ++ List.replicate j ([], []) ++ [([], [])]) :=
          hWa.ent.snoc (IntsK.nil_ _ _) (IntsK.nil_ _ _) (fun _ _ => ⟨rfl, rfl⟩)
        obtain ⟨⟨hx9, hf9⟩, hW5, hf5⟩ := hWa.stsGrow hg4' hr4 hent (by simp; omega)
        have HW5 := Lib.hid hW5
        have HF5 := Lib.hid ((NFr.of_new (new_alloc wr _) hB3).trans hf5)
        obtain ⟨A4, k4, hv4, _⟩ := hr4.len
        have hcell : (w4.setCell ⟨p, 9, none⟩ v').cell? ⟨p, 9, none⟩ = some v' := by have := hW5.cell 9; simpa using this
        have HC := Lib.hid hcell
        have HC9 := Lib.hid c9
        clear hWa hnew4 hg4' hent hW5 hf5 hr4 hg4 hat hnil hcell
        subst hv4
        go_wp2
        go_roundw
        case rel =>
          refine ⟨va3, vf3, .slice A4 (s.sts.length + j + 1) k4, mb3, cs3 ++ [.slice none 0 0, .slice none 0 0], j + 1, ?_, hf3.trans HF5.out, by omega⟩
          rw [List.replicate_succ', ← List.append_assoc]
          exact HW5.out
        case measure =>
          rw [HC.out, HC9.out]
          simp only []
          omega
      · have hjT' : s.sts.length + j = T + 1 := by omega
        have hfin : Hid (s.sts ++ List.replicate j ([], []) = s.sts ++ List.replicate (T - s.sts.length) ([], []) ++ [([], [])]) := by
          unfold Hid
          have : j = (T - s.sts.length) + 1 := by omega
          rw [this, List.replicate_succ', List.append_assoc]
        have ho3 := hf3.ints ho2
        have hi3 := hf3.ints hi2
        have hc9 : wr.cell? ⟨p, 9, none⟩ = some (.slice A3 (T + 1) k3) := by rw [← hjT']; exact c9
        clear c9
        have hm20 : m ≤ 1099511627776 := by omega
        have hq20 : q ≤ 1099511627776 := by omega
        have hR4 := HR3.out
        rw [hjT'] at hR4
        obtain ⟨g3, o3, rfl, hgb, hgl, hcl⟩ := hR4.cell (by omega)
        have hl3 : cs3.length = (T + 1) * 2 := hR4.1
        have hy1 : wr.cell? ⟨g3, o3 + T * 2, none⟩ = some cs3[T * 2] := by rw [hcl _ (by omega)]; exact List.getElem?_eq_getElem _
        have hy2 : wr.cell? ⟨g3, o3 + T * 2 + 1, none⟩ = some cs3[T * 2 + 1] := by rw [Nat.add_assoc, hcl _ (by omega)]; exact List.getElem?_eq_getElem _
        have hz1' := hR4.free rfl (o3 + T * 2)
        have hz2' := hR4.free rfl (o3 + T * 2 + 1)
        generalize cs3[T * 2] = y1 at hy1
        generalize cs3[T * 2 + 1] = y2 at hy2
        have hTi : (T : Int) < (T : Int) + 1 := by omega
        have HR4 := Lib.hid hR4
        clear hcl hR4
        go_wp2
        have hne9 : p ≠ g3 := by
          obtain ⟨c, hc⟩ := HR4.out.typed (k := g3) rfl
          exact ne_typed HW3.out.blk hc (by decide)
        go_region_held3 (fun w' => w'.cell? ⟨p, 9, none⟩ = some (.slice (some ⟨g3, o3, none⟩) (T + 1) k3))
          (first | assumption | exact New.cell_ (by assumption) hc9 | exact New.cell_ ((New.refl _).drew_) hc9 | exact New.cell_ (New.refl _) hc9 | (rw [World.cell?_setCell_other _ _ _ _ (by simp), World.cell?_setCell_other _ _ _ _ (by simp)]; exact New.cell_ (by assumption) hc9))
          (first
            | (go_at_call 16; (with_reducible refine (clone_any O m d out _ ?_ hm20).mono ?_); (exact ho3.1.new_ (by first | assumption | exact (New.refl _).drew_)); rintro en wx ⟨vx, rfl, hrx, hnx⟩; obtain ⟨Ax, cx, rfl, hix, hnlx⟩ := Row.intsK hrx (by omega); have hny : New wr wx := New.trans (by first | assumption | exact (New.refl _).drew_) hnx; have hx1 := New.cell_ hny hy1; have hx2 := New.cell_ hny hy2; have hx3 := New.free_ hny hy1 hz1'; have hx4 := New.free_ hny hy2 hz2')
            | (go_at_call 16; (with_reducible refine (clone_any I q e inn _ ?_ hq20).mono ?_); (exact hi3.1.new_ (by first | assumption | exact (New.refl _).drew_)); rintro en wy ⟨vy, rfl, hry, hny⟩; obtain ⟨Ay, cy, rfl, hiy, hnly⟩ := Row.intsK hry (by omega); have hnz : New wr wy := New.trans (by first | assumption | exact (New.refl _).drew_) hny; have hx1 := New.cell_ hnz hy1; have hx2 := New.cell_ hnz hy2; have hx3 := New.free_ hnz hy1 hz1'; have hx4 := New.free_ hnz hy2 hz2'))
        have HL : Hid (NetW wr B0 p k H va3 vf3 (.slice (some ⟨g3, o3, none⟩) (T + 1) k3) mb3 cs3 { s with names := s.names ++ [keyB 115 [out, inn]], sts := s.sts ++ List.replicate (T - s.sts.length) ([], []) ++ [([], [])] }) := by
          have := HW3.out
          rw [HLN.out, hjT', hfin.out] at this
          exact this
        obtain ⟨hN, hF⟩ := NetW.stsPut (s := { s with names := s.names ++ [keyB 115 [out, inn]] }) HL.out (by simp; omega) hnz (x := (out, inn)) (hix.new_ hny) hiy (fun h0 hx => by
          injection hx with hx1 hx2
          subst hx1 hx2
          exact absurd HF.out (hz (fun e => h0 (by rw [HTT.out, e]; rfl)) rfl rfl))
        have HN := Lib.hid hN
        have HFF := Lib.hid ((hfr.trans hf3).trans hF)
        clear hN hF
        have HR : Hid (stateM H.n3 s out inn = ({ s with names := s.names ++ [keyB 115 [out, inn]], sts := s.sts ++ List.replicate (T - s.sts.length) ([], []) ++ [(out, inn)] }, (T : Int))) := by
          unfold Hid stateM; rw [HT.out, HF.out, ← HTT.out]
        go_wp2
        go_ret
        exact ⟨by show Ending.returned (.int .i64 T) = _; rw [HR.out], by rw [HR.out]; exact ⟨_, _, _, _, _, HN.out⟩, HFF.out⟩
set_option maxHeartbeats 2000000 in
/-- 'state', when what was written last is to be cut. -/
theorem state_cutA (O0 I : Option Addr) (m0 d0 q e : Nat) (out0 inn : List Int) (h : NetW w B0 p k H va vf vs mb cs s) (ho0 : IntsK w O0 m0 d0 out0) (hi : IntsK w I q e inn) (hm0 : H.n3 < m0) (hm2 : H.n3 ≤ 1000) (hm4 : m0 ≤ 1000000) (hk : ¬ d0 = m0 - H.n3) (hq : q ≤ 1000)
    (hl : s.names.length ≤ 100000) (hsl : s.sts.length ≤ s.names.length) (hz : s.names ≠ [] → truncL H.n3 out0 = [] → inn = [] → nameAt s.names (keyB 115 [[], []]) ≠ none) :
    Calls Try.prog 17 #[.pointer (some ⟨p, 0, none⟩), .slice O0 m0 d0, .slice I q e] w (NetPost B0 p k H w (.int .i64 (stateM H.n3 s out0 inn).2) (stateM H.n3 s out0 inn).1) := by
  obtain ⟨out, hout⟩ : ∃ out, out = out0.drop (m0 - H.n3) := ⟨_, rfl⟩
  have HT : Hid (truncL H.n3 out0 = out) := by unfold Hid truncL; rw [if_pos (by have := ho0.1.1; omega), hout, ho0.1.1]
  have hcap : m0 ≤ d0 := ho0.1.2.1.2.1
  have ho := ho0.drop (k := m0 - H.n3) (by omega)
  rw [← hout, show m0 - (m0 - H.n3) = H.n3 by omega] at ho
  rw [HT.out] at hz
  have HMM : Hid (m0 - (m0 - H.n3) = H.n3) := by unfold Hid; omega
  rw [if_neg hk] at ho
  obtain ⟨O, hO⟩ : ∃ O, O = O0.map (·.add (m0 - H.n3)) := ⟨_, rfl⟩
  obtain ⟨d, hd⟩ : ∃ d, d = d0 - (m0 - H.n3) := ⟨_, rfl⟩
  rw [← hO, ← hd] at ho
  have HO := Lib.hid hO
  have HD := Lib.hid hd
  clear hO hd hout ho0
  have hB := h.size
  have c3 := h.cell 3
  simp at c3
  have hn0 := new_alloc w (.cells #[.slice O H.n3 d, .slice I q e] 22)
  have hW0 := h.new_ hn0 hB
  have hls : Lists (w.alloc (.cells #[.slice O H.n3 d, .slice I q e] 22)) w.heap.size 0 [out, inn] := by
    intro j hj
    match j, hj with
    | 0, _ => exact ⟨O, H.n3, d, by simp [go_sem], ho.1.new_ hn0, by omega⟩
    | 1, _ => exact ⟨I, q, e, by simp [go_sem], hi.1.new_ hn0, by omega⟩
  have hkl : (keyB 115 [out, inn]).length ≤ 1000000 := by
    rw [keyM_len]; have := ho.1.1; have := hi.1.1; simp; omega
  cases hf : nameAt s.names (keyB 115 [out, inn]) with
  | some i =>
    have HR : Hid (stateM H.n3 s out0 inn = (s, i)) := by unfold Hid stateM; rw [HT.out, hf]
    have HF := Lib.hid hf
    clear hf
    go_enter Try.func17, Try.ntmps17
    go_wp2_with fail
    rw [← HO.out, ← HD.out]
    try rw [HMM.out]
    refine (key_any 115 w.heap.size 0 [out, inn] 2 _ hls rfl (by omega)).mono ?_
    rintro en w1 ⟨rfl, hw1⟩
    have hW1 := hW0.new_ hw1 (by simp; omega)
    go_wp2_with fail
    refine (named_had (keyB 115 [out, inn]) i hW1 hkl HF.out).mono ?_
    rintro en w2 ⟨rfl, rfl⟩
    go_wp2
    go_ret
    refine ⟨by show Ending.returned (.int .i64 i) = _; rw [HR.out], by rw [HR.out]; exact ⟨_, _, _, _, _, hW1⟩, (NFr.of_new hn0 hB).trans (NFr.of_new hw1 (by simp; omega))⟩
  | none =>
    have HF := Lib.hid hf
    clear hf
    go_enter Try.func17, Try.ntmps17
    go_wp2_with fail
    rw [← HO.out, ← HD.out]
    try rw [HMM.out]
    refine (key_any 115 w.heap.size 0 [out, inn] 2 _ hls rfl (by omega)).mono ?_
    rintro en w1 ⟨rfl, hw1⟩
    have hW1 := hW0.new_ hw1 (by simp; omega)
    go_wp2_with fail
    refine (named_new (keyB 115 [out, inn]) hW1 hkl (by omega) HF.out).mono ?_
    rintro en w2 ⟨rfl, ⟨va2, vf2, vs2, mb2, cs2, hW2⟩, hf2⟩
    have hfr : NFr B0 w w2 := ((NFr.of_new hn0 hB).trans (NFr.of_new hw1 (by simp; omega))).trans hf2
    have ho2 := hfr.ints ho
    have hi2 := hfr.ints hi
    obtain ⟨i0, hi0, hz0, hz1, hz2⟩ := info_parts info56
    obtain ⟨T, hT⟩ : ∃ T, T = s.names.length := ⟨_, rfl⟩
    have HTT := Lib.hid hT
    have HWW : Hid (NetW w2 B0 p k H va2 vf2 vs2 mb2 cs2 { s with names := s.names ++ [keyB 115 [out, inn]] }) := hW2
    rw [← HTT.out] at hl hsl
    clear hT hW2
    have hsz2 := hf2.size
    simp only [← HTT.out]
    go_wp2
    go_loopw [46] (fun _ wr => ∃ va vf vs mb cs j, NetW wr B0 p k H va vf vs mb cs { s with names := s.names ++ [keyB 115 [out, inn]], sts := s.sts ++ List.replicate j ([], []) } ∧ NFr B0 w2 wr ∧ s.sts.length + j ≤ T + 1)
      (fun _ wr => match wr.cell? ⟨p, 9, none⟩ with | some (.slice _ n _) => T + 1 - n | _ => 0)
    case atStart => exact ⟨_, _, _, _, _, 0, by simpa using HWW.out, NFr.refl _ _, by omega⟩
    case round =>
      obtain ⟨va3, vf3, vs3, mb3, cs3, j, hW3, hf3, hjl⟩ := hrel
      obtain ⟨A3, k3, rfl, hn3, hk3, _⟩ := hW3.sts.len
      have c9 := hW3.cell 9
      have f9 := hW3.free 9
      simp at c9 hn3
      have HW3 := Lib.hid hW3
      have hlen : (s.sts ++ List.replicate j ([], [])).length = s.sts.length + j := by simp
      have HLN := Lib.hid hlen
      have HR3 : Hid (Row wr B0 56 2 (.slice A3 (s.sts.length + j) k3) (s.sts.length + j) cs3) := by unfold Hid; have := hW3.sts; simpa using this
      have hB3 := hW3.size
      have hpl := lt_heap hW3.blk
      clear hW3 hlen
      by_cases hjT : s.sts.length + j ≤ T
      · go_wp2_with (at_builtin; refine wpList_append_row _ rfl _ _ 52 rfl B0 56 i0 _ 2 48 Try.underlying52 hi0 hz0 hz1 hz2 rfl (by decide) _ _ _ rfl (HR3.out.alloc _) (some ⟨wr.heap.size, 0, none⟩) 1 1 [.slice none 0 0, .slice none 0 0] rfl (Src.lit wr #[.slice none 0 0, .slice none 0 0] 56 1 (by simp) (by simp [Value.oneCell'])) ?c1 ?c2 ?c3 ?_)
        case c1 => unfold maxLen; omega
        case c2 => omega
        case c3 => first | omega | (simp; omega)
        intro v' w4 hr4 hg4 hat hnil
        have hWa := HW3.out.new_ (new_alloc wr (.cells #[.slice none 0 0, .slice none 0 0] 56)) hB3
        have hnew4 : New (wr.alloc (.cells #[.slice none 0 0, .slice none 0 0] 56)) (wr.alloc (.cells #[.slice none 0 0, .slice none 0 0] 56)) := New.refl _
        have hg4' : (wr.alloc (.cells #[.slice none 0 0, .slice none 0 0] 56)).grownBy w4 (Value.slice A3 (s.sts ++ List.replicate j ([], [])).length k3).ownBlock := by rw [HLN.out]; exact hg4
        have hent : StsCells (wr.alloc (.cells #[.slice none 0 0, .slice none 0 0] 56)) (cs3 ++ [.slice none 0 0, .slice none 0 0]) (s.sts ++ List.replicate j ([], []) ++ [([], [])]) :=
          hWa.ent.snoc (IntsK.nil_ _ _) (IntsK.nil_ _ _) (fun _ _ => ⟨rfl, rfl⟩)
        obtain ⟨⟨hx9, hf9⟩, hW5, hf5⟩ := hWa.stsGrow hg4' hr4 hent (by simp; omega)
        have HW5 := Lib.hid hW5
        have HF5 := Lib.hid ((NFr.of_new (new_alloc wr _) hB3).trans hf5)
        obtain ⟨A4, k4, hv4, _⟩ := hr4.len
        have hcell : (w4.setCell ⟨p, 9, none⟩ v').cell? ⟨p, 9, none⟩ = some v' := by have := hW5.cell 9; simpa using this
        have HC := Lib.hid hcell
        have HC9 := Lib.hid c9
        clear hWa hnew4 hg4' hent hW5 hf5 hr4 hg4 hat hnil hcell
        subst hv4
        go_wp2
        go_roundw
        case rel =>
          refine ⟨va3, vf3, .slice A4 (s.sts.length + j + 1) k4, mb3, cs3 ++ [.slice none 0 0, .slice none 0 0], j + 1, ?_, hf3.trans HF5.out, by omega⟩
          rw [List.replicate_succ', ← List.append_assoc]
          exact HW5.out
        case measure =>
          rw [HC.out, HC9.out]
          simp only []
          omega
      · have hjT' : s.sts.length + j = T + 1 := by omega
        have hfin : Hid (s.sts ++ List.replicate j ([], []) = s.sts ++ List.replicate (T - s.sts.length) ([], []) ++ [([], [])]) := by
          unfold Hid
          have : j = (T - s.sts.length) + 1 := by omega
          rw [this, List.replicate_succ', List.append_assoc]
        have ho3 := hf3.ints ho2
        have hi3 := hf3.ints hi2
        have hc9 : wr.cell? ⟨p, 9, none⟩ = some (.slice A3 (T + 1) k3) := by rw [← hjT']; exact c9
        clear c9
        have hm20 : H.n3 ≤ 1099511627776 := by omega
        have hq20 : q ≤ 1099511627776 := by omega
        have hR4 := HR3.out
        rw [hjT'] at hR4
        obtain ⟨g3, o3, rfl, hgb, hgl, hcl⟩ := hR4.cell (by omega)
        have hl3 : cs3.length = (T + 1) * 2 := hR4.1
        have hy1 : wr.cell? ⟨g3, o3 + T * 2, none⟩ = some cs3[T * 2] := by rw [hcl _ (by omega)]; exact List.getElem?_eq_getElem _
        have hy2 : wr.cell? ⟨g3, o3 + T * 2 + 1, none⟩ = some cs3[T * 2 + 1] := by rw [Nat.add_assoc, hcl _ (by omega)]; exact List.getElem?_eq_getElem _
        have hz1' := hR4.free rfl (o3 + T * 2)
        have hz2' := hR4.free rfl (o3 + T * 2 + 1)
        generalize cs3[T * 2] = y1 at hy1
        generalize cs3[T * 2 + 1] = y2 at hy2
        have hTi : (T : Int) < (T : Int) + 1 := by omega
        have HR4 := Lib.hid hR4
        clear hcl hR4
        go_wp2
        have hne9 : p ≠ g3 := by
          obtain ⟨c, hc⟩ := HR4.out.typed (k := g3) rfl
          exact ne_typed HW3.out.blk hc (by decide)
        go_region_held3 (fun w' => w'.cell? ⟨p, 9, none⟩ = some (.slice (some ⟨g3, o3, none⟩) (T + 1) k3))
          (first | assumption | exact New.cell_ (by assumption) hc9 | exact New.cell_ ((New.refl _).drew_) hc9 | exact New.cell_ (New.refl _) hc9 | (rw [World.cell?_setCell_other _ _ _ _ (by simp), World.cell?_setCell_other _ _ _ _ (by simp)]; exact New.cell_ (by assumption) hc9))
          (first
            | (go_at_call 16; (with_reducible refine (clone_any O H.n3 d out _ ?_ hm20).mono ?_); (exact ho3.1.new_ (by first | assumption | exact (New.refl _).drew_)); rintro en wx ⟨vx, rfl, hrx, hnx⟩; obtain ⟨Ax, cx, rfl, hix, hnlx⟩ := Row.intsK hrx (by omega); have hny : New wr wx := New.trans (by first | assumption | exact (New.refl _).drew_) hnx; have hx1 := New.cell_ hny hy1; have hx2 := New.cell_ hny hy2; have hx3 := New.free_ hny hy1 hz1'; have hx4 := New.free_ hny hy2 hz2')
            | (go_at_call 16; (with_reducible refine (clone_any I q e inn _ ?_ hq20).mono ?_); (exact hi3.1.new_ (by first | assumption | exact (New.refl _).drew_)); rintro en wy ⟨vy, rfl, hry, hny⟩; obtain ⟨Ay, cy, rfl, hiy, hnly⟩ := Row.intsK hry (by omega); have hnz : New wr wy := New.trans (by first | assumption | exact (New.refl _).drew_) hny; have hx1 := New.cell_ hnz hy1; have hx2 := New.cell_ hnz hy2; have hx3 := New.free_ hnz hy1 hz1'; have hx4 := New.free_ hnz hy2 hz2'))
        have HL : Hid (NetW wr B0 p k H va3 vf3 (.slice (some ⟨g3, o3, none⟩) (T + 1) k3) mb3 cs3 { s with names := s.names ++ [keyB 115 [out, inn]], sts := s.sts ++ List.replicate (T - s.sts.length) ([], []) ++ [([], [])] }) := by
          have := HW3.out
          rw [HLN.out, hjT', hfin.out] at this
          exact this
        obtain ⟨hN, hF⟩ := NetW.stsPut (s := { s with names := s.names ++ [keyB 115 [out, inn]] }) HL.out (by simp; omega) hnz (x := (out, inn)) (hix.new_ hny) hiy (fun h0 hx => by
          injection hx with hx1 hx2
          subst hx1 hx2
          exact absurd HF.out (hz (fun e => h0 (by rw [HTT.out, e]; rfl)) rfl rfl))
        have HN := Lib.hid hN
        have HFF := Lib.hid ((hfr.trans hf3).trans hF)
        clear hN hF
        have HR : Hid (stateM H.n3 s out0 inn = ({ s with names := s.names ++ [keyB 115 [out, inn]], sts := s.sts ++ List.replicate (T - s.sts.length) ([], []) ++ [(out, inn)] }, (T : Int))) := by
          unfold Hid stateM; rw [HT.out, HF.out, ← HTT.out]
        go_wp2
        go_ret
        exact ⟨by show Ending.returned (.int .i64 T) = _; rw [HR.out], by rw [HR.out]; exact ⟨_, _, _, _, _, HN.out⟩, HFF.out⟩
set_option maxHeartbeats 2000000 in
/-- 'state', when what was written last is to be cut. -/
theorem state_cutB (O0 I : Option Addr) (m0 d0 q e : Nat) (out0 inn : List Int) (h : NetW w B0 p k H va vf vs mb cs s) (ho0 : IntsK w O0 m0 d0 out0) (hi : IntsK w I q e inn) (hm0 : H.n3 < m0) (hm2 : H.n3 ≤ 1000) (hm4 : m0 ≤ 1000000) (hk : d0 = m0 - H.n3) (hq : q ≤ 1000)
    (hl : s.names.length ≤ 100000) (hsl : s.sts.length ≤ s.names.length) (hz : s.names ≠ [] → truncL H.n3 out0 = [] → inn = [] → nameAt s.names (keyB 115 [[], []]) ≠ none) :
    Calls Try.prog 17 #[.pointer (some ⟨p, 0, none⟩), .slice O0 m0 d0, .slice I q e] w (NetPost B0 p k H w (.int .i64 (stateM H.n3 s out0 inn).2) (stateM H.n3 s out0 inn).1) := by
  obtain ⟨out, hout⟩ : ∃ out, out = out0.drop (m0 - H.n3) := ⟨_, rfl⟩
  have HT : Hid (truncL H.n3 out0 = out) := by unfold Hid truncL; rw [if_pos (by have := ho0.1.1; omega), hout, ho0.1.1]
  have hcap : m0 ≤ d0 := ho0.1.2.1.2.1
  have ho := ho0.drop (k := m0 - H.n3) (by omega)
  rw [← hout, show m0 - (m0 - H.n3) = H.n3 by omega] at ho
  rw [HT.out] at hz
  have HMM : Hid (m0 - (m0 - H.n3) = H.n3) := by unfold Hid; omega
  rw [if_pos hk, show d0 - (m0 - H.n3) = 0 by omega] at ho
  clear hout ho0
  have hB := h.size
  have c3 := h.cell 3
  simp at c3
  have hn0 := new_alloc w (.cells #[.slice O0 H.n3 0, .slice I q e] 22)
  have hW0 := h.new_ hn0 hB
  have hls : Lists (w.alloc (.cells #[.slice O0 H.n3 0, .slice I q e] 22)) w.heap.size 0 [out, inn] := by
    intro j hj
    match j, hj with
    | 0, _ => exact ⟨O0, H.n3, 0, by simp [go_sem], ho.1.new_ hn0, by omega⟩
    | 1, _ => exact ⟨I, q, e, by simp [go_sem], hi.1.new_ hn0, by omega⟩
  have hkl : (keyB 115 [out, inn]).length ≤ 1000000 := by
    rw [keyM_len]; have := ho.1.1; have := hi.1.1; simp; omega
  cases hf : nameAt s.names (keyB 115 [out, inn]) with
  | some i =>
    have HR : Hid (stateM H.n3 s out0 inn = (s, i)) := by unfold Hid stateM; rw [HT.out, hf]
    have HF := Lib.hid hf
    clear hf
    go_enter Try.func17, Try.ntmps17
    go_wp2_with fail
    try rw [HMM.out]
    refine (key_any 115 w.heap.size 0 [out, inn] 2 _ hls rfl (by omega)).mono ?_
    rintro en w1 ⟨rfl, hw1⟩
    have hW1 := hW0.new_ hw1 (by simp; omega)
    go_wp2_with fail
    refine (named_had (keyB 115 [out, inn]) i hW1 hkl HF.out).mono ?_
    rintro en w2 ⟨rfl, rfl⟩
    go_wp2
    go_ret
    refine ⟨by show Ending.returned (.int .i64 i) = _; rw [HR.out], by rw [HR.out]; exact ⟨_, _, _, _, _, hW1⟩, (NFr.of_new hn0 hB).trans (NFr.of_new hw1 (by simp; omega))⟩
  | none =>
    have HF := Lib.hid hf
    clear hf
    go_enter Try.func17, Try.ntmps17
    go_wp2_with fail
    try rw [HMM.out]
    refine (key_any 115 w.heap.size 0 [out, inn] 2 _ hls rfl (by omega)).mono ?_
    rintro en w1 ⟨rfl, hw1⟩
    have hW1 := hW0.new_ hw1 (by simp; omega)
    go_wp2_with fail
    refine (named_new (keyB 115 [out, inn]) hW1 hkl (by omega) HF.out).mono ?_
    rintro en w2 ⟨rfl, ⟨va2, vf2, vs2, mb2, cs2, hW2⟩, hf2⟩
    have hfr : NFr B0 w w2 := ((NFr.of_new hn0 hB).trans (NFr.of_new hw1 (by simp; omega))).trans hf2
    have ho2 := hfr.ints ho
    have hi2 := hfr.ints hi
    obtain ⟨i0, hi0, hz0, hz1, hz2⟩ := info_parts info56
    obtain ⟨T, hT⟩ : ∃ T, T = s.names.length := ⟨_, rfl⟩
    have HTT := Lib.hid hT
    have HWW : Hid (NetW w2 B0 p k H va2 vf2 vs2 mb2 cs2 { s with names := s.names ++ [keyB 115 [out, inn]] }) := hW2
    rw [← HTT.out] at hl hsl
    clear hT hW2
    have hsz2 := hf2.size
    simp only [← HTT.out]
    go_wp2
    go_loopw [46] (fun _ wr => ∃ va vf vs mb cs j, NetW wr B0 p k H va vf vs mb cs { s with names := s.names ++ [keyB 115 [out, inn]], sts := s.sts ++ List.replicate j ([], []) } ∧ NFr B0 w2 wr ∧ s.sts.length + j ≤ T + 1)
      (fun _ wr => match wr.cell? ⟨p, 9, none⟩ with | some (.slice _ n _) => T + 1 - n | _ => 0)
    case atStart => exact ⟨_, _, _, _, _, 0, by simpa using HWW.out, NFr.refl _ _, by omega⟩
    case round =>
      obtain ⟨va3, vf3, vs3, mb3, cs3, j, hW3, hf3, hjl⟩ := hrel
      obtain ⟨A3, k3, rfl, hn3, hk3, _⟩ := hW3.sts.len
      have c9 := hW3.cell 9
      have f9 := hW3.free 9
      simp at c9 hn3
      have HW3 := Lib.hid hW3
      have hlen : (s.sts ++ List.replicate j ([], [])).length = s.sts.length + j := by simp
      have HLN := Lib.hid hlen
      have HR3 : Hid (Row wr B0 56 2 (.slice A3 (s.sts.length + j) k3) (s.sts.length + j) cs3) := by unfold Hid; have := hW3.sts; simpa using this
      have hB3 := hW3.size
      have hpl := lt_heap hW3.blk
      clear hW3 hlen
      by_cases hjT : s.sts.length + j ≤ T
      · go_wp2_with (at_builtin; refine wpList_append_row _ rfl _ _ 52 rfl B0 56 i0 _ 2 48 Try.underlying52 hi0 hz0 hz1 hz2 rfl (by decide) _ _ _ rfl (HR3.out.alloc _) (some ⟨wr.heap.size, 0, none⟩) 1 1 [.slice none 0 0, .slice none 0 0] rfl (Src.lit wr #[.slice none 0 0, .slice none 0 0] 56 1 (by simp) (by simp [Value.oneCell'])) ?c1 ?c2 ?c3 ?_)
        case c1 => unfold maxLen; omega
        case c2 => omega
        case c3 => first | omega | (simp; omega)
        intro v' w4 hr4 hg4 hat hnil
        have hWa := HW3.out.new_ (new_alloc wr (.cells #[.slice none 0 0, .slice none 0 0] 56)) hB3
        have hnew4 : New (wr.alloc (.cells #[.slice none 0 0, .slice none 0 0] 56)) (wr.alloc (.cells #[.slice none 0 0, .slice none 0 0] 56)) := New.refl _
        have hg4' : (wr.alloc (.cells #[.slice none 0 0, .slice none 0 0] 56)).grownBy w4 (Value.slice A3 (s.sts ++ List.replicate j ([], [])).length k3).ownBlock := by rw [HLN.out]; exact hg4
        have hent : StsCells (wr.alloc (.cells #[.slice none 0 0, .slice none 0 0] 56)) (cs3 ++ [.slice none 0 0, .slice none 0 0]) (s.sts ++ List.replicate j ([], []) ++ [([], [])]) :=
          hWa.ent.snoc (IntsK.nil_ _ _) (IntsK.nil_ _ _) (fun _ _ => ⟨rfl, rfl⟩)
        obtain ⟨⟨hx9, hf9⟩, hW5, hf5⟩ := hWa.stsGrow hg4' hr4 hent (by simp; omega)
        have HW5 := Lib.hid hW5
        have HF5 := Lib.hid ((NFr.of_new (new_alloc wr _) hB3).trans hf5)
        obtain ⟨A4, k4, hv4, _⟩ := hr4.len
        have hcell : (w4.setCell ⟨p, 9, none⟩ v').cell? ⟨p, 9, none⟩ = some v' := by have := hW5.cell 9; simpa using this
        have HC := Lib.hid hcell
        have HC9 := Lib.hid c9
        clear hWa hnew4 hg4' hent hW5 hf5 hr4 hg4 hat hnil hcell
        subst hv4
        go_wp2
        go_roundw
        case rel =>
          refine ⟨va3, vf3, .slice A4 (s.sts.length + j + 1) k4, mb3, cs3 ++ [.slice none 0 0, .slice none 0 0], j + 1, ?_, hf3.trans HF5.out, by omega⟩
          rw [List.replicate_succ', ← List.append_assoc]
          exact HW5.out
        case measure =>
          rw [HC.out, HC9.out]
          simp only []
          omega
      · have hjT' : s.sts.length + j = T + 1 := by omega
        have hfin : Hid (s.sts ++ List.replicate j ([], []) = s.sts ++ List.replicate (T - s.sts.length) ([], []) ++ [([], [])]) := by
          unfold Hid
          have : j = (T - s.sts.length) + 1 := by omega
          rw [this, List.replicate_succ', List.append_assoc]
        have ho3 := hf3.ints ho2
        have hi3 := hf3.ints hi2
        have hc9 : wr.cell? ⟨p, 9, none⟩ = some (.slice A3 (T + 1) k3) := by rw [← hjT']; exact c9
        clear c9
        have hm20 : H.n3 ≤ 1099511627776 := by omega
        have hq20 : q ≤ 1099511627776 := by omega
        have hR4 := HR3.out
        rw [hjT'] at hR4
        obtain ⟨g3, o3, rfl, hgb, hgl, hcl⟩ := hR4.cell (by omega)
        have hl3 : cs3.length = (T + 1) * 2 := hR4.1
        have hy1 : wr.cell? ⟨g3, o3 + T * 2, none⟩ = some cs3[T * 2] := by rw [hcl _ (by omega)]; exact List.getElem?_eq_getElem _
        have hy2 : wr.cell? ⟨g3, o3 + T * 2 + 1, none⟩ = some cs3[T * 2 + 1] := by rw [Nat.add_assoc, hcl _ (by omega)]; exact List.getElem?_eq_getElem _
        have hz1' := hR4.free rfl (o3 + T * 2)
        have hz2' := hR4.free rfl (o3 + T * 2 + 1)
        generalize cs3[T * 2] = y1 at hy1
        generalize cs3[T * 2 + 1] = y2 at hy2
        have hTi : (T : Int) < (T : Int) + 1 := by omega
        have HR4 := Lib.hid hR4
        clear hcl hR4
        go_wp2
        have hne9 : p ≠ g3 := by
          obtain ⟨c, hc⟩ := HR4.out.typed (k := g3) rfl
          exact ne_typed HW3.out.blk hc (by decide)
        go_region_held3 (fun w' => w'.cell? ⟨p, 9, none⟩ = some (.slice (some ⟨g3, o3, none⟩) (T + 1) k3))
          (first | assumption | exact New.cell_ (by assumption) hc9 | exact New.cell_ ((New.refl _).drew_) hc9 | exact New.cell_ (New.refl _) hc9 | (rw [World.cell?_setCell_other _ _ _ _ (by simp), World.cell?_setCell_other _ _ _ _ (by simp)]; exact New.cell_ (by assumption) hc9))
          (first
            | (go_at_call 16; (with_reducible refine (clone_any O0 H.n3 0 out _ ?_ hm20).mono ?_); (exact ho3.1.new_ (by first | assumption | exact (New.refl _).drew_)); rintro en wx ⟨vx, rfl, hrx, hnx⟩; obtain ⟨Ax, cx, rfl, hix, hnlx⟩ := Row.intsK hrx (by omega); have hny : New wr wx := New.trans (by first | assumption | exact (New.refl _).drew_) hnx; have hx1 := New.cell_ hny hy1; have hx2 := New.cell_ hny hy2; have hx3 := New.free_ hny hy1 hz1'; have hx4 := New.free_ hny hy2 hz2')
            | (go_at_call 16; (with_reducible refine (clone_any I q e inn _ ?_ hq20).mono ?_); (exact hi3.1.new_ (by first | assumption | exact (New.refl _).drew_)); rintro en wy ⟨vy, rfl, hry, hny⟩; obtain ⟨Ay, cy, rfl, hiy, hnly⟩ := Row.intsK hry (by omega); have hnz : New wr wy := New.trans (by first | assumption | exact (New.refl _).drew_) hny; have hx1 := New.cell_ hnz hy1; have hx2 := New.cell_ hnz hy2; have hx3 := New.free_ hnz hy1 hz1'; have hx4 := New.free_ hnz hy2 hz2'))
        have HL : Hid (NetW wr B0 p k H va3 vf3 (.slice (some ⟨g3, o3, none⟩) (T + 1) k3) mb3 cs3 { s with names := s.names ++ [keyB 115 [out, inn]], sts := s.sts ++ List.replicate (T - s.sts.length) ([], []) ++ [([], [])] }) := by
          have := HW3.out
          rw [HLN.out, hjT', hfin.out] at this
          exact this
        obtain ⟨hN, hF⟩ := NetW.stsPut (s := { s with names := s.names ++ [keyB 115 [out, inn]] }) HL.out (by simp; omega) hnz (x := (out, inn)) (hix.new_ hny) hiy (fun h0 hx => by
          injection hx with hx1 hx2
          subst hx1 hx2
          exact absurd HF.out (hz (fun e => h0 (by rw [HTT.out, e]; rfl)) rfl rfl))
        have HN := Lib.hid hN
        have HFF := Lib.hid ((hfr.trans hf3).trans hF)
        clear hN hF
        have HR : Hid (stateM H.n3 s out0 inn = ({ s with names := s.names ++ [keyB 115 [out, inn]], sts := s.sts ++ List.replicate (T - s.sts.length) ([], []) ++ [(out, inn)] }, (T : Int))) := by
          unfold Hid stateM; rw [HT.out, HF.out, ← HTT.out]
        go_wp2
        go_ret
        exact ⟨by show Ending.returned (.int .i64 T) = _; rw [HR.out], by rw [HR.out]; exact ⟨_, _, _, _, _, HN.out⟩, HFF.out⟩
/-- 'state'. -/
theorem state_any (O I : Option Addr) (m d q e : Nat) (out inn : List Int) (h : NetW w B0 p k H va vf vs mb cs s) (ho : IntsK w O m d out) (hi : IntsK w I q e inn) (h3 : H.n3 ≤ 1000) (hm : m ≤ 1000) (hq : q ≤ 1000)
    (hl : s.names.length ≤ 100000) (hsl : s.sts.length ≤ s.names.length) (hz : s.names ≠ [] → nameAt s.names (keyB 115 [[], []]) ≠ none) :
    Calls Try.prog 17 #[.pointer (some ⟨p, 0, none⟩), .slice O m d, .slice I q e] w (NetPost B0 p k H w (.int .i64 (stateM H.n3 s out inn).2) (stateM H.n3 s out inn).1) := by
  by_cases hc : H.n3 < m
  · by_cases hk : d = m - H.n3
    · exact state_cutB O I m d q e out inn h ho hi hc h3 (by omega) hk hq hl hsl (fun h0 _ _ => hz h0)
    · exact state_cutA O I m d q e out inn h ho hi hc h3 (by omega) hk hq hl hsl (fun h0 _ _ => hz h0)
  · exact state_in O I m d q e out inn h ho hi (by omega) hm hq hl hsl (fun h0 _ _ => hz h0)
end
end Go.Proofs.Ytglmlbmjppblbaa
