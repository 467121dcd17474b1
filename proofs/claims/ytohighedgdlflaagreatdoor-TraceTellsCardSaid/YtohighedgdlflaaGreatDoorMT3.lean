/- The law TraceTells answers true for every row of observations; proved from the walks of package trace and of the document's own answer. -/
import Derived.Test.YtohighedgdlflaaGreatDoorMT2
import Derived.Test.YtohighedgdlflaaGreatDoorMT1
import Derived.Deep.QuietTactic
import Derived.BigQuiet
import Derived.Laws.EntriesVeiled
import Derived.Deep.RegionHeld3
import Derived.Test.YtohighedgdlflaaGreatDoorPRx3
import Derived.Test.YtohighedgdlflaaGreatDoorPRx2
import Derived.Test.YtohighedgdlflaaGreatDoorPRx8
import Derived.Test.YtohighedgdlflaaGreatDoorPRx10
import Derived.Deep.Slices
import Derived.OpenShut
import Derived.Test.YtohighedgdlflaaGreatDoorCards
import Derived.Test.YtohighedgdlflaaGreatDoorTie
import Derived.WalkKit
import Derived.ProofKit
import Derived.Deep.DeepHandedRow
import Derived.Lib.LaidTab
import Derived.LaidMore
import Derived.Stop.LaidErr
import Derived.SevenTiedAt
import Derived.Below
import Derived.Carry
/- trace.Parse reads the lines of observations that may be. -/
namespace Go.Proofs.YtohighedgdlflaaGreatDoor
open Go.Proofs.YtohighedgdlflaaGreatDoorW.PrintLast Go.Shelf Go.RowKit Go.Sort Go.Lib Go.Proofs.YtohighedgdlflaaGreatDoorW.PrintWords Go.Proofs.YtohighedgdlflaaGreatDoor.PR
set_option linter.unusedVariables false
set_option linter.unusedSimpArgs false
theorem del_cut (x : ByteArray) (W : World) (hx : x.size ≤ 1000000000) :
    Calls Tryz.prog 66 #[.slice (some ⟨W.heap.size, 0, none⟩) (Lib.countB x ⟨#[32]⟩ + 1) (Lib.countB x ⟨#[32]⟩ + 1), .func (.func 67) #[] #[]] (W.alloc (.cells ((cutB x).map Value.string).toArray 9)) fun e w' =>
      e = .returned (.slice (some ⟨W.heap.size, 0, none⟩) (wordsB x).length (Lib.countB x ⟨#[32]⟩ + 1)) ∧ Below W.heap.size W w' ∧ W.heap.size < w'.heap.size ∧ ∀ (j : Nat) y, (wordsB x)[j]? = some y → w'.cell? ⟨W.heap.size, j, none⟩ = some (.string y) := by
  have hl := cutB_len x
  have hcs := count_small x ⟨#[32]⟩ (by decide)
  rw [← hl]
  have hd : (cutB x).length = (cutB x).toArray.size := by simp
  rw [hd]
  have hH : Holds Value.string (W.alloc (.cells ((cutB x).map Value.string).toArray 9)) W.heap.size 0 (cutB x).toArray := by
    intro j hj
    have hj2 : j < (cutB x).length := by simpa using hj
    rw [Nat.zero_add]
    have hb := blk_new W (.cells ((cutB x).map Value.string).toArray 9)
    constructor
    · simp only [World.cell?, hb]
      simp [hj2, getElem!_pos, List.getElem?_eq_getElem hj2]
    · simp only [World.frozen?, hb]; simp
  refine (del_ok W.heap.size _ (cutB x).toArray _ hH (by simp) (by rw [← hd, hl]; omega) (Nat.le_refl _)).mono ?_
  rintro e w' ⟨rfl, hb, hc⟩
  have hb2 : Below W.heap.size W w' := (below_alloc (Below.refl _ _) _).trans hb
  refine ⟨by rw [← hd]; rfl, hb2, ?_, hc⟩
  have := hb.size
  rw [World.size_alloc] at this
  omega
theorem R_sl {W : World} {B : Nat} {ok : Nat → Prop} {v : Value} {xs : List S35} (h : Kd.R k35 35 W B ok v xs) : ∃ A L c, v = .slice A L c := by
  obtain ⟨A, c, hv⟩ := Kd.R_slice h
  exact ⟨A, _, c, hv⟩
theorem cell_one {W : World} {B q : Nat} {v : Value} (h : W.heap[B]? = some (.cells #[v] q (0, 0))) : W.cell? ⟨B, 0, none⟩ = some v ∧ W.frozen? ⟨B, 0, none⟩ = false := by
  constructor
  · simp only [World.cell?, h]; rfl
  · simp only [World.frozen?, h]; rfl
/-- What holds while the lines are read. -/
structure PInv (w W : World) (n G : Nat) (cs : Array Value) (v : Value) (xs : List S35) : Prop where
  low : Below w.heap.size w W
  l : W.heap[w.heap.size]? = some (.cells #[v] 22 (0, 0))
  e : W.heap[w.heap.size + 1]? = some (.cells #[.int .i64 0] 25 (0, 0))
  r : Kd.R k35 35 W w.heap.size (fun _ => True) v xs
  frm : Frm W n
  pcs : W.heap[G]? = some (.cells cs 9 (0, 0))
theorem PInv.below {w W W' : World} {n G : Nat} {cs : Array Value} {v : Value} {xs : List S35} (h : PInv w W n G cs v xs) (hb : Below W.heap.size W W') : PInv w W' n G cs v xs :=
  ⟨h.low.trans (hb.mono h.low.size), (hb.block _ (heap_lt' h.l)).trans h.l, (hb.block _ (heap_lt' h.e)).trans h.e, Kd.R_below h.r hb, h.frm.below hb, (hb.block _ (heap_lt' h.pcs)).trans h.pcs⟩
theorem PInv.cellv {w W : World} {n G : Nat} {cs : Array Value} {v : Value} {xs : List S35} (h : PInv w W n G cs v xs) : W.cell? ⟨w.heap.size, 0, none⟩ = some v ∧ W.frozen? ⟨w.heap.size, 0, none⟩ = false := by
  have := h.l
  exact ⟨by simp [World.cell?, this], by simp [World.frozen?, this]⟩
theorem PInv.celle {w W : World} {n G : Nat} {cs : Array Value} {v : Value} {xs : List S35} (h : PInv w W n G cs v xs) : W.cell? ⟨w.heap.size + 1, 0, none⟩ = some (.int .i64 0) ∧ W.frozen? ⟨w.heap.size + 1, 0, none⟩ = false := by
  have := h.e
  exact ⟨by simp [World.cell?, this], by simp [World.frozen?, this]⟩
theorem PInv.grown {w W W1 : World} {n G : Nat} {cs : Array Value} {v : Value} {xs : List S35} (h : PInv w W n G cs v xs) (hg : W.grownBy W1 v.ownBlock) : W1.heap[w.heap.size]? = some (.cells #[v] 22 (0, 0)) :=
  (hg.block _ (heap_lt' h.l) (Kd.R_ne h.r h.l (by decide))).trans h.l
theorem k35_E {q : Nat} (h : q ∈ 35 :: k35.E) : q = 35 := by simpa [k35, Kd.iso, Kd.pair, Kd.int, Kd.scalar] using h
theorem PInv.put {w W W1 : World} {n G : Nat} {cs : Array Value} {v v1 : Value} {xs ys : List S35} (h : PInv w W n G cs v xs) (hg : W.grownBy W1 v.ownBlock) (hr : Kd.R k35 35 W1 w.heap.size (fun _ => True) v1 ys) (hb : Below w.heap.size w W1) (hn : w.heap.size < n) (hG : w.heap.size < G) : PInv w (W1.setCell ⟨w.heap.size, 0, none⟩ v1) n G cs v1 ys := by
  have hl := h.grown hg
  have mv : ∀ (k : Nat) (cells : Array Value) (q : Nat), w.heap.size ≠ k → q ≠ 35 → W.heap[k]? = some (.cells cells q (0, 0)) → (W1.setCell ⟨w.heap.size, 0, none⟩ v1).heap[k]? = some (.cells cells q (0, 0)) := fun k cells q hk hq hc => by
    rw [Below.heap_setCell _ _ _ _ (by simp; omega)]
    exact (hg.block _ (heap_lt' hc) (Kd.R_ne h.r hc (by omega))).trans hc
  refine ⟨hb.setCell (Nat.le_refl _) _, heap_setCell_same _ _ _ _ _ _ hl, mv _ _ _ (by omega) (by decide) h.e, Kd.R_set hr hl (fun q hq => by rw [k35_E hq]; decide) 0 v1, ⟨mv _ _ _ (by omega) (by decide) h.frm.names, mv _ _ _ (by omega) (by decide) h.frm.ptr, mv _ _ _ (by omega) (by decide) h.frm.tab⟩, mv _ _ _ (by omega) (by decide) h.pcs⟩
set_option maxRecDepth 100000 in
set_option maxHeartbeats 8000000 in
theorem parse_ok (s : ByteArray) (m : Int) (oss : List (List S35)) (w : World) (hs : s.size ≤ 1000000000) (hm : w.cell? ⟨2, 0, none⟩ = some (.int .i64 m)) (hlen : oss.length = (pieces s).length)
    (hP : ∀ (k : Nat) x os, (pieces s)[k]? = some x → oss[k]? = some os → PieceIs x os) (hn : oss.flatten.length ≤ 1000000) :
    Calls Tryz.prog 31 #[.string s] w fun e w' => ∃ v, e = .returned (.tuple #[v, .int .i64 0, .int .i64 0]) ∧ Kd.R k35 35 w' w.heap.size (fun _ => True) v oss.flatten ∧ Below w.heap.size w w' := by
  have HP := Lib.hid hP
  have HM := Lib.hid hm
  have h2 : 2 < w.heap.size := World.block_lt_of_cell? _ _ hm
  clear hP hm
  have hpl := pieces_len s
  obtain ⟨N, hN⟩ : ∃ N, N = (pieces s).length := ⟨_, rfl⟩
  have hmf : ∀ (fn : Fn) (first cap : Array Value) (w : World), (Instr.makeFunc fn first cap).run Tryz.prog w = .ok (.func fn first cap) w := fun _ _ _ _ => rfl
  go_enter_defers Tryz.func31, Tryz.ntmps31
  go_wp2_with fail
  have hA0 : ((w.alloc (.cells #[.slice none 0 0] 22)).alloc (.cells #[.int .i64 0] 25)).heap[w.heap.size]? = some (.cells #[.slice none 0 0] 22 (0, 0)) :=
    (below_alloc (Below.refl _ _) _ |>.block _ (by simp)).trans (blk_new w (.cells #[.slice none 0 0] 22))
  have hA1 : ((w.alloc (.cells #[.slice none 0 0] 22)).alloc (.cells #[.int .i64 0] 25)).heap[w.heap.size + 1]? = some (.cells #[.int .i64 0] 25 (0, 0)) := by
    have := blk_new (w.alloc (.cells #[.slice none 0 0] 22)) (.cells #[.int .i64 0] 25)
    rwa [World.size_alloc] at this
  have hB0 : Below w.heap.size w ((w.alloc (.cells #[.slice none 0 0] 22)).alloc (.cells #[.int .i64 0] 25)) := below_alloc (below_alloc (Below.refl _ _) _) _
  refine (forms_ok _).mono ?_
  rintro e w1 ⟨rfl, hfr, hb1⟩
  have HB1 := Lib.hid (hB0.trans (hb1.mono hB0.size))
  have HA1 := Lib.hid (And.intro ((hb1.block _ (heap_lt' hA0)).trans hA0) ((hb1.block _ (heap_lt' hA1)).trans hA1))
  simp only [World.size_alloc] at hfr ⊢
  generalize hn2 : w.heap.size + 1 + 1 = n at hfr ⊢
  have HF1 := Lib.hid hfr
  have hG1 : n + 2 < w1.heap.size := hfr.lt
  clear hA0 hA1 hB0 hfr hb1
  go_wp2_with fail
  refine (Tryz.strings_Split s ⟨#[10]⟩ m _ (by omega) ?_ (by decide)).mono ?_
  · rw [HB1.out.cell h2]; exact HM.out
  rintro e w2 ⟨rfl, rfl⟩
  have hNs : Lib.countB s ⟨#[10]⟩ + 1 ≤ 1000000001 := by
    have := count_small s ⟨#[10]⟩ (by decide)
    omega
  have hN' : (pieces s).length = N := hN.symm
  rw [← hpl, hN'] at hNs
  rw [← hpl, hN']
  have HN := Lib.hid hN'
  have hol : oss.length = N := hlen.trans hN'
  have HOL := Lib.hid hol
  clear hN hN' hpl hol hlen
  obtain ⟨cs, hcs⟩ : ∃ cs, cs = ((pieces s).map Value.string).toArray := ⟨_, rfl⟩
  have hI : PInv w (w1.alloc (.cells cs 9)) n w1.heap.size cs (.slice none 0 0) [] := by
    have hba := below_alloc (Below.refl w1.heap.size w1) (.cells cs 9)
    refine ⟨HB1.out.trans (hba.mono HB1.out.size), (hba.block _ (heap_lt' HA1.out.1)).trans HA1.out.1, (hba.block _ (heap_lt' HA1.out.2)).trans HA1.out.2, Kd.R_nil _ _ _ _ _, HF1.out.below hba, ?_⟩
    exact blk_new _ _
  have hcs2 : ((Lib.splitB ⟨#[10]⟩ 0 (Lib.countB s ⟨#[10]⟩) s).map Value.string).toArray = cs := by rw [hcs]; rfl
  rw [hcs2]
  have HI0 := Lib.hid hI
  have HCS := Lib.hid hcs
  clear HF1 HA1 HB1 hcs2 hcs hI
  go_wp2_with fail
  generalize w1.alloc (.cells cs 9) = w2 at HI0 ⊢
  go_loopw [4, 6, 7, 8, 14] (fun v4 v6 v7 v8 v14 wr => ∃ (k : Nat) (v : Value), k ≤ N ∧ v14 = .int .i64 k ∧ Hid (PInv w wr n w1.heap.size cs v (oss.take k).flatten)) (fun _ _ _ _ i _ => N - (RowKit.intOf i).toNat)
  case atStart => exact ⟨0, _, by omega, rfl, HI0⟩
  case round =>
    clear HI0
    obtain ⟨k, v, hk, rfl, HI⟩ := hrel
    by_cases hlt : k < N
    · obtain ⟨x, hx⟩ : ∃ x, (pieces s)[k]? = some x := ⟨_, List.getElem?_eq_getElem (by rw [HN.out]; exact hlt)⟩
      obtain ⟨os, hos⟩ : ∃ os, oss[k]? = some os := ⟨_, List.getElem?_eq_getElem (by rw [HOL.out]; exact hlt)⟩
      have HPI := Lib.hid (HP.out k x os hx hos)
      have hxs : x.size ≤ 1000000000 := Nat.le_trans (pieces_le (List.mem_of_getElem? hx)) hs
      have hcx : wr.cell? ⟨w1.heap.size, k, none⟩ = some (.string x) := by
        have h1 := HI.out.pcs
        have h2 := HCS.out
        simp only [World.cell?, h1, h2]
        simp [hx]
      have Hos := Lib.hid hos
      clear hx hos
      go_wp2_with fail
      refine (Tryz.strings_Split x ⟨#[32]⟩ m _ (by omega) ?_ (by decide)).mono ?_
      · rw [HI.out.low.cell h2]; exact HM.out
      rintro e w3 ⟨rfl, rfl⟩
      go_wp2_with fail
      refine (del_cut x _ hxs).mono ?_
      rintro e w4 ⟨rfl, hb4, hg4, hw4⟩
      have HI4 := Lib.hid (HI.out.below hb4)
      have HW4 := Lib.hid hw4
      have hcb : (wordsB x).length ≤ Lib.countB x ⟨#[32]⟩ + 1 := by rw [← cutB_len x]; exact List.length_filter_le _ _
      generalize wr.heap.size = g at hg4 HW4 ⊢
      generalize Lib.countB x ⟨#[32]⟩ + 1 = c at hcb ⊢
      clear hb4 hw4 HI hcx
      rcases HPI.out with ⟨hwe, hose⟩ | ⟨t, cl, q, p, a, b, hG, hwn, hose⟩
      · rw [hwe, List.length_nil]
        have HI5 : Hid (PInv w w4 n w1.heap.size cs v (oss.take (k + 1)).flatten) := by
          show PInv w w4 n w1.heap.size cs v (oss.take (k + 1)).flatten
          rw [List.take_add_one, Hos.out, hose]
          simpa using HI4.out
        clear HI4 HPI hwe hcb HW4
        go_wp2_with fail
        go_roundw
        case rel => exact ⟨k + 1, v, by omega, by go_num, HI5⟩
        case measure => simp [RowKit.intOf]; omega
      · obtain ⟨acc, hacc⟩ : ∃ acc, acc = (oss.take k).flatten := ⟨_, rfl⟩
        have hfl : (oss.take (k + 1)).flatten = acc ++ [obN t cl q p a b] := by
          rw [List.take_add_one, Hos.out, hose, hacc]; simp
        have hal : acc.length + 1 ≤ 1000000 := by
          have h1 : ((oss.take (k + 1)).flatten).length ≤ oss.flatten.length := by
            have h0 : oss.flatten = (oss.take (k + 1)).flatten ++ (oss.drop (k + 1)).flatten := by rw [← List.flatten_append, List.take_append_drop]
            rw [h0, List.length_append]; omega
          rw [hfl, List.length_append, List.length_singleton] at h1
          omega
        rw [← hacc] at HI4
        have Hfl := Lib.hid hfl
        clear hfl hacc hose HPI
        rw [hwn, wordsN_len t cl q p a b hG.q1 hG.q7] at hcb ⊢
        have hW0 := HW4.out 0 (decS t) (by rw [hwn]; rfl)
        have HW : Hid (∀ (j : Nat) x, (wordsN t cl q p a b)[j]? = some x → w4.cell? ⟨g, j, none⟩ = some (.string x)) := by
          intro j y hy
          exact HW4.out j y (by rw [hwn]; exact hy)
        have HG := Lib.hid hG
        have HI := HI4
        obtain ⟨hz0, hne⟩ := decS_first t
        have hpos : (0 : Int) < 4 + (nWords q : Int) := by omega
        have hg := hg4
        have hc := hcb
        clear hwn HW4 HI4 hG hg4 hcb
        go_upto_region 9 with (fail)
        clear hne hpos hW0
        have hc32 : k35.sz = 6 := rfl
        refine wp_region_noPanic ?_
        refine start_ (n := 7) (S := fun w' => w'.cell? ⟨w.heap.size, 0, none⟩ = some v) (ds := [6]) #[false, false, false, false, false, false, false] (by kernel_rfl) rfl rfl (HI.out.cellv.1) (fun hHeld => ?_)
        replace HI : Hid (PInv w w4.drew n w1.heap.size cs v acc) := HI.out.below (below_drew (Below.refl _ _))
        replace HW : Hid (∀ (j : Nat) x, (wordsN t cl q p a b)[j]? = some x → w4.drew.cell? ⟨g, j, none⟩ = some (.string x)) := HW.out
        replace hg : g < w4.drew.heap.size := hg
        generalize w4.drew = WY at HI HW hg hHeld ⊢
        refine pure_ (i := 1) (N := some 35) (v := ?_) (a' := ?_) #[false, true, false, false, false, false, false] rfl rfl (by kernel_rfl) (fun _ _ _ h => h) (Or.inl ⟨by rfl, ?_⟩) ?_ ?_
        rotate_left
        · intro w'
          go_simp
          with_reducible rfl
        rotate_left
        · simp only [Act.put, List.setIfInBounds_toArray, List.set_cons_zero, List.set_cons_succ, i64_w, i32_w]
          rfl
        refine pure_ (i := 2) (N := some 36) (v := ?_) (a' := ?_) #[false, true, true, false, false, false, false] rfl rfl (by kernel_rfl) (fun _ _ _ h => h) (Or.inl ⟨by rfl, ?_⟩) ?_ ?_
        rotate_left
        · intro w'
          go_simp
          with_reducible rfl
        rotate_left
        · simp only [Act.put, List.setIfInBounds_toArray, List.set_cons_zero, List.set_cons_succ, i64_w, i32_w]
          rfl
        refine take_ (i := 0) (N := some 34) (v := ?_) (a' := ?_) #[true, true, true, false, false, false, false] rfl rfl (by kernel_rfl) (fun _ _ _ h => h) (Or.inl ⟨by rfl, ?_⟩) hHeld ?_ ?_
        rotate_left
        · intro w' s0
          go_simp
          with_reducible rfl
        rotate_left
        · simp only [Act.put, List.setIfInBounds_toArray, List.set_cons_zero, List.set_cons_succ, i64_w, i32_w]
          rfl
        refine one_ (i := 3) (N := some 37) #[true, true, true, true, false, false, false] rfl rfl (by kernel_rfl) (by decide) (fun K hK => ?_)
        refine goes_ Tryz.func68 (by kernel_rfl) rfl #[.slice (some ⟨n + 2, 0, none⟩) 8 8, .slice (some ⟨g, 0, none⟩) (4 + nWords q) c] (by rfl) rfl rfl (by simp only [List.map_toArray, List.map_cons, List.map_nil]; rfl) ?_
        with_reducible refine (line_ok n g c t cl q p a b _ HG.out HI.out.frm hg hc HW.out).mono ?_
        rintro e w7 ⟨rfl, hb⟩
        refine ⟨_, rfl, ?_⟩
        replace HI := Lib.hid (HI.out.below hb)
        clear hb
        refine hK.out _ _ (HI.out.cellv.1) (fun hHeld => ?_)
        clear hK K
        refine norm_ (a' := ?_) ?_ ?_
        rotate_left
        · show Act.put _ (some 37) _ = _
          simp only [Act.put, List.setIfInBounds_toArray, List.set_cons_zero, List.set_cons_succ, i64_w, i32_w]
          rfl
        refine one_ (i := 4) (N := some 38) #[true, true, true, true, true, false, false] rfl rfl (by kernel_rfl) (by decide) (fun K hK => ?_)
        refine value_ (w1 := ?_) (v := ?_) (by rfl) rfl ?_ ?_
        rotate_left 2
        · go_simp
          constructor
          · rfl
          · rfl
        refine hK.out _ _ ((HI.out.below (below_alloc (Below.refl _ _) _)).cellv.1) (fun hHeld => ?_)
        clear hK K
        refine norm_ (a' := ?_) ?_ ?_
        rotate_left
        · show Act.put _ (some 38) _ = _
          simp only [Act.put, List.setIfInBounds_toArray, List.set_cons_zero, List.set_cons_succ, i64_w, i32_w]
          rfl
        refine one_ (i := 5) (N := some 39) #[true, true, true, true, true, true, false] rfl rfl (by kernel_rfl) (by decide) (fun K hK => ?_)
        refine Kd.R_append_step k35 (w0 := w) w.heap.size (by rfl) (.tmp 34) (.tmp 38) 22 35 (.agg #[(.int .u64 0), (.int .i64 0), (.int .i64 0), (.int .u32 0), (.int .u32 0), (.int .u32 0)]) 40 rfl Tryz.underlying22 info35 rfl (by decide) (by omega) v acc (obN t cl q p a b) [.int .u64 t, .int .i64 cl, .int .i64 q, .int .u32 p, .int .u32 a, .int .u32 b] (fun _ => True) (fun _ => False) (by rfl) (by rfl) (k35_mkM _ _ _ (obN t cl q p a b)) (fun _ hk => hk.elim) (fun _ _ => trivial) HI.out.r HI.out.low HI.out.low.size (by omega) ?_
        intro v9 w9 ho9 hb9 hg9 hat9
        have HO9 := Lib.hid ho9
        have HB9 := Lib.hid hb9
        have HG9 := Lib.hid hg9
        clear ho9 hb9 hg9 hat9
        obtain ⟨A9, L9, c9, rfl⟩ := R_sl HO9.out
        obtain ⟨hz9, hf9⟩ := cell_one (HI.out.grown HG9.out)
        refine hK.out _ _ (hz9) (fun hHeld => ?_)
        clear hK K
        refine norm_ (a' := ?_) ?_ ?_
        rotate_left
        · show Act.put _ (some 39) _ = _
          simp only [Act.put, List.setIfInBounds_toArray, List.set_cons_zero, List.set_cons_succ, i64_w, i32_w]
          rfl
        refine last_ (i := 6) (N := none) #[true, true, true, true, true, true, true] rfl rfl (by kernel_rfl) (by decide) (fun K hK => ?_)
        refine skip_ (w1 := ?_) (by rfl) rfl ?_ ?_
        rotate_left
        · go_simp
          rfl
        refine hK.out _ _ ?_
        clear hK K
        refine done_ (by kernel_rfl) ?_
        refine NoPanic.normal ?_
        have HI9 : Hid (PInv w (w9.setCell ⟨w.heap.size, 0, none⟩ (.slice A9 L9 c9)) n w1.heap.size cs (.slice A9 L9 c9) (oss.take (k + 1)).flatten) := by
          show PInv w (w9.setCell ⟨w.heap.size, 0, none⟩ (.slice A9 L9 c9)) n w1.heap.size cs (.slice A9 L9 c9) (oss.take (k + 1)).flatten
          rw [Hfl.out]
          exact HI.out.put HG9.out HO9.out HB9.out (by omega) (by omega)
        clear HI HO9 HG9 HB9 hz9 hf9 HW HG hHeld
        go_wp2_with fail
        go_roundw
        case rel => exact ⟨k + 1, _, by omega, by go_num, HI9⟩
        case measure => simp [RowKit.intOf]; omega
    · obtain rfl : k = N := by omega
      obtain ⟨A0, L0, c0, rfl⟩ := R_sl HI.out.r
      obtain ⟨hcv, hfv⟩ := HI.out.cellv
      obtain ⟨hce, hfe⟩ := HI.out.celle
      have hll := HI.out.l
      have hee := HI.out.e
      have hl1 := heap_setCell_same _ _ 0 _ _ (.slice A0 L0 c0) hll
      have he1 : (wr.setCell ⟨w.heap.size, 0, none⟩ (.slice A0 L0 c0)).heap[w.heap.size + 1]? = some (.cells #[.int .i64 0] 25 (0, 0)) := by
        rw [Below.heap_setCell _ _ _ _ (by simp)]; exact hee
      have hl2 : ((wr.setCell ⟨w.heap.size, 0, none⟩ (.slice A0 L0 c0)).setCell ⟨w.heap.size + 1, 0, none⟩ (.int .i64 0)).heap[w.heap.size]? = some (.cells #[.slice A0 L0 c0] 22 (0, 0)) := by
        rw [Below.heap_setCell _ _ _ _ (by simp)]; exact hl1
      have he2 := heap_setCell_same _ _ 0 _ _ (.int .i64 0) he1
      have hr2 : Kd.R k35 35 ((wr.setCell ⟨w.heap.size, 0, none⟩ (.slice A0 L0 c0)).setCell ⟨w.heap.size + 1, 0, none⟩ (.int .i64 0)) w.heap.size (fun _ => True) (.slice A0 L0 c0) oss.flatten := by
        have h1 := HI.out.r
        rw [List.take_of_length_le (by rw [HOL.out]; exact Nat.le_refl _)] at h1
        exact Kd.R_set (Kd.R_set h1 hll (fun q hq => by rw [k35_E hq]; decide) 0 _) he1 (fun q hq => by rw [k35_E hq]; decide) 0 _
      have hb2 : Below w.heap.size w ((wr.setCell ⟨w.heap.size, 0, none⟩ (.slice A0 L0 c0)).setCell ⟨w.heap.size + 1, 0, none⟩ (.int .i64 0)) := (HI.out.low.setCell (Nat.le_refl _) _).setCell (by simp) _
      have hce1 := (cell_one he1)
      obtain ⟨hce1, hfe1⟩ := hce1
      clear hl1 he1 hll hee HI hce hfe
      have Hr2 := Lib.hid hr2
      have Hb2 := Lib.hid hb2
      have Hl2 := Lib.hid hl2
      have He2 := Lib.hid he2
      clear hr2 hb2 hl2 he2
      go_wp2_with fail
      generalize ((wr.setCell ⟨w.heap.size, 0, none⟩ (.slice A0 L0 c0)).setCell ⟨w.heap.size + 1, 0, none⟩ (.int .i64 0)) = wF at Hr2 Hb2 Hl2 He2 ⊢
      refine leaves_cons (f := 64) (args := #[.pointer (some ⟨w.heap.size, 0, none⟩), .pointer (some ⟨w.heap.size + 1, 0, none⟩)]) (by simp) (by simp [go_sem]) ?_
      refine (p64_idle _ _ _).mono ?_
      rintro e u' w'' ⟨rfl, rfl, rfl⟩
      obtain ⟨cv, _⟩ := cell_one Hl2.out
      obtain ⟨ce, _⟩ := cell_one He2.out
      have hres : Tryz.f31.results = #[.cell 2 22, .cell 3 25, .tmp 4] := rfl
      simp [Leaves, settle, results, hres, go_sem, cv, ce]
      exact ⟨Hr2.out, Hb2.out⟩
end Go.Proofs.YtohighedgdlflaaGreatDoor

/- trace.Text writes textS. -/
namespace Go.Proofs.YtohighedgdlflaaGreatDoor
open Go.Shelf Go.RowKit Go.Sort Go.Lib Go.Proofs.YtohighedgdlflaaGreatDoorW.PrintWords Go.Proofs.YtohighedgdlflaaGreatDoor.PR
set_option linter.unusedVariables false
set_option linter.unusedSimpArgs false
set_option maxRecDepth 100000 in
set_option maxHeartbeats 8000000 in
theorem text_ok (l : List S35) (A : Option Addr) (c : Nat) (w : World) (hT : PTab w) (hR : Kd.C k35 w A l.length l) (hF : ∀ o ∈ l, FitsT o) (hl : l.length ≤ 1000000) :
    Calls Tryz.prog 13 #[.slice A l.length c] w (TextR w l) := by
  have HR := Lib.hid hR
  have HT := Lib.hid hT
  have HF := Lib.hid hF
  have hm := Kd.C_max hR
  clear hR hT hF
  go_enter Tryz.func13, Tryz.ntmps13
  go_wp2_with fail
  have hbl : Hid (Below w.heap.size w (w.alloc (.cells #[.pointer none, .slice none 0 0] 67))) := below_alloc (Below.refl _ _) _
  have hnb : Hid (Lib.IsBuilderF 67 5 w.heap.size w.heap.size [] (w.alloc (.cells #[.pointer none, .slice none 0 0] 67))) := builder_new w
  refine (forms_ok _).mono ?_
  rintro e w1 ⟨rfl, hfr, hb1⟩
  rw [World.size_alloc] at hfr
  have HF1 := Lib.hid hfr
  have HB1 := Lib.hid (hbl.out.trans (hb1.mono hbl.out.size))
  have hNB1 : Lib.IsBuilderF 67 5 w.heap.size w.heap.size [] w1 := builder_below hnb.out hb1
  have HNB1 := Lib.hid hNB1
  clear hnb hbl hfr hb1 hNB1
  simp only [World.size_alloc]
  go_wp2_with fail
  go_loopw [7, 8, 9, 13] (fun v7 v8 v9 v13 wr => ∃ k : Nat, k ≤ l.length ∧ v13 = .int .i64 k ∧ Hid ((l.take k).all mayB = true) ∧ Hid (Frm wr (w.heap.size + 1)) ∧ Hid (Lib.IsBuilderF 67 5 w.heap.size w.heap.size (Lib.byteCells (textB (l.take k))) wr) ∧ Hid (Below w.heap.size w wr)) (fun _ _ _ i _ => l.length - (RowKit.intOf i).toNat)
  case atStart => exact ⟨0, by omega, rfl, rfl, HF1, HNB1, HB1⟩
  case round =>
    clear HF1 HNB1 HB1
    obtain ⟨k, hk, rfl, hall, HFr, HNB, HB⟩ := hrel
    by_cases hlt : k < l.length
    · obtain ⟨o, ho⟩ : ∃ o, o = rd_T35 l k := ⟨_, rfl⟩
      have ho2 : Hid (l[k]? = some o) := by
        show l[k]? = some o
        rw [ho]; simp [rd_T35, List.getD_eq_getElem?_getD, List.getElem?_eq_getElem hlt]
      obtain ⟨ad, rfl, c0, c1, c2, c3, c4, c5⟩ := at_T35 (Kd.C_below HR.out HB.out) k (by omega) (by omega)
      rw [← ho] at c0 c1 c2 c3 c4 c5
      simp only [Int.toNat_natCast] at c0 c1 c2 c3 c4 c5
      clear ho
      have hfit := Lib.hid (HF.out o (List.mem_of_getElem? ho2.out))
      go_wp2_with fail
      refine (may_ok o _).mono ?_
      rintro e w2 ⟨rfl, hb2⟩
      have hbo : Hid (Below w.heap.size w (wr.alloc (.cells #[.int .u64 o.f0, .int .i64 o.f1, .int .i64 o.f2, .int .u32 o.f3, .int .u32 o.f4, .int .u32 o.f5] 35))) := below_alloc HB.out _
      cases hmb : mayB o with
      | false =>
        have HB2 := Lib.hid (hbo.out.trans (hb2.mono hbo.out.size))
        have hbad : Hid (l.all mayB = false) := by
          show l.all mayB = false
          rw [List.all_eq_false]
          exact ⟨o, List.mem_of_getElem? ho2.out, by rw [hmb]; decide⟩
        clear hbo hb2
        go_wp2_with fail
        refine bodyPost_ret (results_tmp2 rfl _ _ _) rfl ?_
        exact TextR.bad hbad.out HB2.out
      | true =>
        have HB2 := Lib.hid (hbo.out.trans (hb2.mono hbo.out.size))
        have hlow : Below wr.heap.size wr w2 := (below_alloc (Below.refl _ _) _).trans (hb2.mono (by simp))
        have HFr2 := Lib.hid (HFr.out.below hlow)
        have hO6 : Ob6 w2 wr.heap.size o := by
          unfold Ob6
          rw [hb2.block _ (by simp)]
          exact blk_new _ _
        obtain ⟨t, cl, q, p, a, b, hq1, hq7, hcl, ht, hp, ha, hb, h0, h1, h2, h3, h4, h5, hk1, hk2⟩ : ∃ t cl q p a b : Nat, 1 ≤ q ∧ q ≤ 7 ∧ cl < 10 ∧ t < 18446744073709551616 ∧ p < 4294967296 ∧ a < 4294967296 ∧ b < 4294967296 ∧ o.f0 = t ∧ o.f1 = cl ∧ o.f2 = q ∧ o.f3 = p ∧ o.f4 = a ∧ o.f5 = b ∧ (q = 3 → a < 7) ∧ (q = 4 → a < 100) := by
          obtain ⟨⟨f1, f2, f3, f4, f5, f6⟩, f7, f8⟩ := hfit.out
          have hm2 := hmb
          unfold mayB kindB at hm2
          simp only [Bool.and_eq_true, decide_eq_true_eq] at hm2
          obtain ⟨⟨⟨m1, m2⟩, m3⟩, m4⟩ := hm2
          have hq : 1 ≤ o.f2 ∧ o.f2 ≤ 7 ∧ (o.f2 = 3 → o.f4 ≤ 6) ∧ (o.f2 = 4 → o.f4 < 32) := by
            split at m4
            · omega
            · split at m4
              · omega
              · split at m4
                · simp at m4; omega
                · split at m4
                  · simp at m4; omega
                  · split at m4
                    · omega
                    · split at m4
                      · omega
                      · split at m4
                        · omega
                        · simp at m4
          exact ⟨o.f0.toNat, o.f1.toNat, o.f2.toNat, o.f3.toNat, o.f4.toNat, o.f5.toNat, by omega, by omega, by omega, by omega, by omega, by omega, by omega, by omega, by omega, by omega, by omega, by omega, by omega, by omega, by omega⟩
        obtain ⟨mw, fvw, nw, mr, fvr, g0, g1, g2, g3, hfw⟩ := frm_row HFr2.out q hq1 hq7
        clear c0 c1 c2 c3 c4 c5
        obtain ⟨c0, c1, c2, c3, c4, c5⟩ := hO6.cells
        have hOlt : wr.heap.size < w2.heap.size := heap_lt hO6
        rw [h0] at c0; rw [h1] at c1; rw [h2] at c2; rw [h3] at c3; rw [h4] at c4; rw [h5] at c5
        have Hfw := Lib.hid hfw
        obtain ⟨wd, hwd⟩ : ∃ wd, wd = kindS.getD q ByteArray.empty := ⟨_, rfl⟩
        rw [← hwd] at g0
        have Hwd := Lib.hid hwd
        have Hk12 := Lib.hid (And.intro hk1 hk2)
        have Hhs := Lib.hid (And.intro h0 (And.intro h1 (And.intro h2 (And.intro h3 (And.intro h4 h5)))))
        have hq8 : (0 : Int) ≤ q ∧ (q : Int) < 8 := by omega
        have HL2 := Lib.hid hlow
        clear hwd hfw hlow hb2 hbo hfit hk1 hk2 h0 h1 h2 h3 h4 h5
        have hcell : Hid (∀ W, Below (w2.heap.size + 1) (w2.alloc (.cells #[.string wd, .func (.func mw) #[] fvw, .int .i64 nw, .func (.func mr) #[] fvr] 74)) W → W.cell? ⟨wr.heap.size, 0, none⟩ = some (.int .u64 t) ∧ W.cell? ⟨wr.heap.size, 1, none⟩ = some (.int .i64 cl) ∧ W.cell? ⟨wr.heap.size, 3, none⟩ = some (.int .u32 p) ∧ W.cell? ⟨w2.heap.size, 0, none⟩ = some (.string wd) ∧ PTab W) := by
          intro W hW
          have hA : Below w2.heap.size w2 (w2.alloc (.cells #[.string wd, .func (.func mw) #[] fvw, .int .i64 nw, .func (.func mr) #[] fvr] 74)) := below_alloc (Below.refl _ _) _
          have hB : Below w2.heap.size w2 W := hA.trans (hW.mono (by omega))
          refine ⟨?_, ?_, ?_, ?_, HT.out.below (HB2.out.trans (hB.mono HB2.out.size))⟩
          · rw [hB.cell (by simp; omega)]; exact c0
          · rw [hB.cell (by simp; omega)]; exact c1
          · rw [hB.cell (by simp; omega)]; exact c3
          · rw [hW.cell (by simp)]; simp [World.cell?_alloc_new]
        have hcell2 : Hid (∀ W, Below (w2.heap.size + 1) (w2.alloc (.cells #[.string wd, .func (.func mw) #[] fvw, .int .i64 nw, .func (.func mr) #[] fvr] 74)) W → W.cell? ⟨wr.heap.size, 0, none⟩ = some (.int .u64 t) ∧ W.cell? ⟨wr.heap.size, 1, none⟩ = some (.int .i64 cl) ∧ W.cell? ⟨wr.heap.size, 2, none⟩ = some (.int .i64 q) ∧ W.cell? ⟨wr.heap.size, 3, none⟩ = some (.int .u32 p) ∧ W.cell? ⟨wr.heap.size, 4, none⟩ = some (.int .u32 a) ∧ W.cell? ⟨wr.heap.size, 5, none⟩ = some (.int .u32 b) ∧ W.cell? ⟨w2.heap.size, 1, none⟩ = some (.func (.func mw) #[] fvw)) := by
          intro W hW
          have hA : Below w2.heap.size w2 (w2.alloc (.cells #[.string wd, .func (.func mw) #[] fvw, .int .i64 nw, .func (.func mr) #[] fvr] 74)) := below_alloc (Below.refl _ _) _
          have hB : Below w2.heap.size w2 W := hA.trans (hW.mono (by omega))
          refine ⟨?_, ?_, ?_, ?_, ?_, ?_, ?_⟩
          · rw [hB.cell (by simp; omega)]; exact c0
          · rw [hB.cell (by simp; omega)]; exact c1
          · rw [hB.cell (by simp; omega)]; exact c2
          · rw [hB.cell (by simp; omega)]; exact c3
          · rw [hB.cell (by simp; omega)]; exact c4
          · rw [hB.cell (by simp; omega)]; exact c5
          · rw [hW.cell (by simp)]; simp [World.cell?_alloc_new]
        go_upto_region 9 with (fail)
        clear g0 g1 g2 g3 c0 c1 c2 c3 c4 c5 hq8
        go_cut [9] (fun v9 wc => Hid (Kd.string.R 9 wc (w2.heap.size + 1) (fun _ => True) v9 [decS t, decS cl, wd, hexS p]) ∧ Hid (Below (w2.heap.size + 1) (w2.alloc (.cells #[.string wd, .func (.func mw) #[] fvw, .int .i64 nw, .func (.func mr) #[] fvr] 74)) wc))
        case first =>
          clear hcell2 HR HT HF HFr HNB HB ho2 hall HB2 HFr2 Hfw Hwd Hk12 Hhs
          have HS : Hid (∀ W, Below (w2.heap.size + 1) (w2.alloc (.cells #[.string wd, .func (.func mw) #[] fvw, .int .i64 nw, .func (.func mr) #[] fvr] 74)) W → (W.cell? ⟨wr.heap.size, 0, none⟩ = some (.int .u64 t) ∧ W.cell? ⟨wr.heap.size, 1, none⟩ = some (.int .i64 cl) ∧ W.cell? ⟨wr.heap.size, 3, none⟩ = some (.int .u32 p) ∧ W.cell? ⟨w2.heap.size, 0, none⟩ = some (.string wd) ∧ Hid (PTab W) ∧ Hid (Below (w2.heap.size + 1) (w2.alloc (.cells #[.string wd, .func (.func mw) #[] fvw, .int .i64 nw, .func (.func mr) #[] fvr] 74)) W))) := fun W hW => by
            obtain ⟨e0, e1, e3, ef, ep⟩ := hcell.out _ hW
            exact ⟨e0, e1, e3, ef, ep, hW⟩
          have HB0 := Lib.hid (Below.refl (w2.heap.size + 1) (w2.alloc (.cells #[.string wd, .func (.func mw) #[] fvw, .int .i64 nw, .func (.func mr) #[] fvr] 74)))
          clear hcell
          go_region_held3 (fun W => W.cell? ⟨wr.heap.size, 0, none⟩ = some (.int .u64 t) ∧ W.cell? ⟨wr.heap.size, 1, none⟩ = some (.int .i64 cl) ∧ W.cell? ⟨wr.heap.size, 3, none⟩ = some (.int .u32 p) ∧ W.cell? ⟨w2.heap.size, 0, none⟩ = some (.string wd) ∧ Hid (PTab W) ∧ Hid (Below (w2.heap.size + 1) (w2.alloc (.cells #[.string wd, .func (.func mw) #[] fvw, .int .i64 nw, .func (.func mr) #[] fvr] 74)) W))
            (first
              | exact HS.out _ HB0.out
              | exact HS.out _ (below_drew HB0.out)
              | exact HS.out _ HB5.out
              | exact HS.out _ HB7.out
              | exact HS.out _ (HB7.out.alloc (by have hz := HB7.out.size; simp at hz; omega) _))
            (first
              | (go_at_call 34; with_reducible refine (fmt_ok t ht _ (HS.out _ (below_drew HB0.out)).2.2.2.2.1.out).mono ?_; rintro e w5 ⟨rfl, hb5⟩; have HB5 := Lib.hid ((below_drew HB0.out).trans (hb5.mono (by simp))))
              | (go_at_call 35; with_reducible refine (Tryz.strconv_Itoa_small cl (by omega) _).mono ?_; rintro e w6 ⟨rfl, rfl⟩)
              | (go_at_call 36; with_reducible refine (hex_ok p hp _).mono ?_; rintro e w7 ⟨rfl, hb7⟩; have HB7 := Lib.hid (HB5.out.trans (hb7.mono (by have hz := HB5.out.size; simp at hz; omega)))))
          all_goals
            go_wp2_with fail
            go_meet
            case rel =>
              refine ⟨?_, ?_⟩
              · exact R_fresh _ [decS t, decS cl, wd, hexS p] (by have hz := HB7.out.size; simp at hz; omega) rfl (by simp) rfl
              · exact HB7.out.alloc (by have hz := HB7.out.size; simp at hz; omega) _
        case rest =>
          obtain ⟨HV, HBc⟩ := hcut
          obtain ⟨A9, cp9, rfl, hc9, hC9⟩ := Kd.R_reads HV.out
          have hent : ∀ args w, (callFunc mw args).run Tryz.prog w = .ok (.enter mw args) w := enter_any hq1 hq7 Hfw.out
          have hwr : Hid (∀ W, Below (w2.heap.size + 1) (w2.alloc (.cells #[.string wd, .func (.func mw) #[] fvw, .int .i64 nw, .func (.func mr) #[] fvr] 74)) W → Calls Tryz.prog mw (#[.agg #[.int .u64 t, .int .i64 cl, .int .i64 q, .int .u32 p, .int .u32 a, .int .u32 b]] ++ fvw) W (WrR W (writeL o))) := by
            intro W hW
            obtain ⟨h0, h1, h2, h3, h4, h5⟩ := Hhs.out
            rw [writeL_eq h2 h4 h5]
            refine write_any (HFr2.out.below ?_) t cl p a b hq1 hq7 ha hb Hk12.out.1 Hk12.out.2 Hfw.out
            exact (below_alloc (Below.refl w2.heap.size w2) _).trans (hW.mono (by omega))
          obtain ⟨c0, c1, c2, c3, c4, c5, f1⟩ := hcell2.out _ HBc.out
          have HLc : Hid (Below wr.heap.size wr wc) := HL2.out.trans ((below_alloc (Below.refl w2.heap.size w2) _ |>.trans (HBc.out.mono (by omega))).mono HL2.out.size)
          have HCc : Hid (Below w.heap.size w wc) := HB.out.trans (HLc.out.mono HB.out.size)
          have hsz : wr.heap.size ≤ wc.heap.size ∧ w2.heap.size + 1 ≤ wc.heap.size := ⟨HLc.out.size, by have hz := HBc.out.size; simp at hz; omega⟩
          go_wp2_with fail
          refine (hwr.out _ HBc.out).mono ?_
          rintro e w10 ⟨v10, rfl, hr10, hb10⟩
          clear c0 c1 c2 c3 c4 c5 f1 hcell hcell2
          obtain ⟨A10, c10, rfl, hc10, hC10⟩ := Kd.R_reads hr10
          have HC10 := Lib.hid hC10
          have HV10 : Hid (Kd.string.R 9 w10 (w2.heap.size + 1) (fun _ => True) (.slice A9 [decS t, decS cl, wd, hexS p].length cp9) [decS t, decS cl, wd, hexS p]) := Kd.R_below HV.out hb10
          have HL10 : Hid (Below wr.heap.size wr w10) := HLc.out.trans (hb10.mono hsz.1)
          have HB10 : Hid (Below w.heap.size w w10) := HCc.out.trans (hb10.mono HCc.out.size)
          have hs10 : w2.heap.size + 1 ≤ w10.heap.size := by have := hb10.size; omega
          have hwl : (writeL o).length ≤ 2 := by unfold writeL; repeat' (first | split | simp)
          clear hr10 hb10 hC10 hC9 HV HBc hwr hent
          go_wp2_with (at_builtin; refine Kd.R_append_row Value.string ByteArray.empty (w0 := wr) wr.heap.size rfl (.tmp 37) (.tmp 41) 78 9 (.string ⟨#[]⟩) 16 rfl Tryz.underlying78 info9 rfl (by decide) _ _ (writeL o) A10 _ c10 (fun _ => True) rfl rfl (fun _ _ => trivial) (Kd.R_lower HV10.out (by omega)) HC10.out HL10.out HL10.out.size (by simp; omega) ?_; intro v11 w11 hr11 hb11 hg11 hat11; have HR11 := Lib.hid hr11; have HL11 := Lib.hid hb11; clear hr11 hb11 hg11 hat11)
          have hws : [decS t, decS cl, wd, hexS p] ++ writeL o = wordsL o := by
            obtain ⟨h0, h1, h2, h3, h4, h5⟩ := Hhs.out
            simp [wordsL, headL, h0, h1, h2, h3, Hwd.out]
          have HR11' := HR11.out
          rw [hws] at HR11'
          obtain ⟨g11, c11, rfl, hcp11, hg11, hcell11⟩ := R_cells HR11' (by simp [wordsL, headL])
          have HX11 := Lib.hid hcell11
          have hll : (lineB o).length ≤ 200 := by
            obtain ⟨h0, h1, h2, h3, h4, h5⟩ := Hhs.out
            exact words_len o (by omega) (by omega) (by omega)
          have hjl : (Lib.join ((wordsL o).map (·.data.toList)) [32]).length ≤ 199 := by unfold lineB at hll; rw [List.length_append] at hll; simp at hll; omega
          have HJ := Lib.hid hjl
          have hwl2 : (wordsL o).length ≤ 6 := by rw [← hws, List.length_append]; simp; omega
          clear HR11 HR11' hcell11 hws hjl HC10 HV10
          refine (Tryz.strings_Join g11 0 c11 (wordsL o) _ _ HX11.out hg11 (by omega) hcp11 (by have := HJ.out; simpa using Nat.le_trans this (by omega))).mono ?_
          rintro e w12 ⟨rfl, hb12⟩
          have HL12 := Lib.hid (HL11.out.trans (hb12.mono HL11.out.size))
          clear HX11 hb12 HL11
          obtain ⟨ln, hln⟩ : ∃ ln : ByteArray, ln = ⟨(Lib.join ((wordsL o).map (·.data.toList)) [32]).toArray⟩ := ⟨_, rfl⟩
          have hlb : (ln ++ ⟨#[10]⟩ : ByteArray).data.toList = lineB o := by rw [hln]; simp [lineB]
          have h10 : (⟨#[10]⟩ : ByteArray).size = 1 := rfl
          have hls : ln.size ≤ 199 := by rw [hln]; simpa [ByteArray.size] using HJ.out
          have hlz : (ln ++ ⟨#[10]⟩ : ByteArray).size ≤ 200 := by rw [ByteArray.size_append, h10]; omega
          have Hlb := Lib.hid hlb
          have hadd : ∀ W : World, (Op.stringOp .add ln ⟨#[10]⟩).run Tryz.prog W = .ok (.string (ln ++ ⟨#[10]⟩)) W := fun W => run_string_add_sum W _ _ (by rw [h10]; omega)
          rw [← hln]
          clear hln hls hlb HJ
          go_wp2_with fail
          have hbuf : (Lib.byteCells (textB (l.take k))).length ≤ 200 * 1000000 := by
            rw [Lib.byteCells_length]
            refine Nat.le_trans (text_len _ (fun x hx => ?_)) ?_
            · have hx2 := HF.out x (List.mem_of_mem_take hx)
              obtain ⟨⟨f1, f2, f3, f4, f5, f6⟩, f7, f8⟩ := hx2
              have := List.all_eq_true.1 hall.out x hx
              unfold mayB at this
              simp only [Bool.and_eq_true, decide_eq_true_eq] at this
              exact words_len x (by omega) (by omega) (by omega)
            · rw [List.length_take]; exact Nat.mul_le_mul_left _ (by omega)
          have HB12 := Lib.hid (HB.out.trans (HL12.out.mono HB.out.size))
          have hW := Tryz.Builder_WriteString_k w.heap.size w.heap.size _ (ln ++ ⟨#[10]⟩) w12 (builder_below HNB.out HL12.out) (by omega) HB12.out.size
          obtain ⟨lz, hz⟩ : ∃ lz : ByteArray, lz = ln ++ ⟨#[10]⟩ := ⟨_, rfl⟩
          rw [← hz] at hW ⊢
          have Hz := Lib.hid hz
          clear hz
          refine hW.mono ?_
          clear hW
          rintro e w13 ⟨rfl, hbu, hb13, hok13⟩
          have HFr13 := Lib.hid ((HFr.out.below HL12.out).others hok13 (by omega))
          have HB13 := Lib.hid (HB12.out.trans hb13)
          have hall13 : Hid ((l.take (k + 1)).all mayB = true) := by
            show (l.take (k + 1)).all mayB = true
            rw [List.take_add_one, ho2.out]
            simp [hall.out, hmb]
          have HNB13 : Hid (Lib.IsBuilderF 67 5 w.heap.size w.heap.size (Lib.byteCells (textB (l.take (k + 1)))) w13) := by
            have h1 := hbu
            rw [Lib.strCells_eq, Hz.out, Hlb.out] at h1
            have h2 : Lib.byteCells (textB (l.take (k + 1))) = Lib.byteCells (textB (l.take k)) ++ Lib.byteCells (lineB o) := by
              rw [List.take_add_one, ho2.out]
              simp [textB, Lib.byteCells]
            show Lib.IsBuilderF 67 5 w.heap.size w.heap.size (Lib.byteCells (textB (l.take (k + 1)))) w13
            rw [h2]
            exact .inr h1
          clear hbu hb13 hok13 hbuf hall HNB HB HFr HL12 HB12 hadd
          go_wp2_with fail
          go_roundw
          case rel => exact ⟨k + 1, by omega, by go_num, hall13, HFr13, HNB13, HB13⟩
          case measure => simp [RowKit.intOf]; omega
    · obtain rfl : k = l.length := by omega
      go_wp2_with fail
      refine (Tryz.Builder_String_any_f w.heap.size w.heap.size _ wr HNB.out HB.out.size).mono ?_
      rintro e w14 ⟨rfl, _, hb14⟩
      have HB14 := Lib.hid (HB.out.trans hb14)
      clear hb14
      go_wp2_with fail
      refine bodyPost_ret (results_tmp2 rfl _ _ _) rfl ?_
      have h1 := hall.out
      rw [List.take_of_length_le (Nat.le_refl _)] at h1
      refine ⟨?_, HB14.out⟩
      rw [if_pos h1, if_pos h1]
      rfl
end Go.Proofs.YtohighedgdlflaaGreatDoor

/- known (9): the document's first example holds. -/
namespace Go.Proofs.YtohighedgdlflaaGreatDoor
open Go.Shelf Go.RowKit Go.Sort Go.Lib Go.Proofs.YtohighedgdlflaaGreatDoorW.PrintWords Go.Proofs.YtohighedgdlflaaGreatDoor.PR
set_option linter.unusedVariables false
set_option linter.unusedSimpArgs false
def kS : ByteArray := ⟨#[53, 32, 32, 50, 32, 99, 108, 111, 99, 107, 32, 48, 48, 48, 48, 48, 48, 48, 48, 32, 48, 48, 48, 48, 48, 48, 48, 49, 48, 48, 48, 48, 48, 48, 48, 53, 32]⟩
def kL : ByteArray := ⟨#[51, 55, 32, 49, 32, 108, 111, 97, 100, 32, 48, 48, 48, 48, 48, 48, 49, 48, 32, 48, 48, 48, 48, 49, 48, 48, 48, 32, 48, 48, 48, 48, 48, 48, 50, 97, 10]⟩
theorem ba_ext {a b : ByteArray} (h : a.data.toList = b.data.toList) : a = b := by
  apply ByteArray.ext
  exact Array.toList_inj.1 h
theorem map_ba {xs ys : List ByteArray} (h : xs.map (·.data.toList) = ys.map (·.data.toList)) : xs = ys := by
  induction xs generalizing ys with
  | nil => cases ys with
    | nil => rfl
    | cons y ys => simp at h
  | cons x xs ih => cases ys with
    | nil => simp at h
    | cons y ys =>
      simp only [List.map_cons, List.cons.injEq] at h
      rw [ba_ext h.1, ih h.2]
theorem dec1 (n : Nat) (h : n < 10) : decS n = ⟨#[UInt8.ofNat (48 + n)]⟩ := by
  unfold decS; rw [Lib.decDigits_one h]
theorem emp_eq (x : ByteArray) : emp x = decide (x = ⟨#[]⟩) := (decide_eq_emptyBytes x).symm
theorem kPieces : pieces kS = [kS] := map_ba (by
  show (Lib.splitB ⟨#[10]⟩ 0 (Lib.countB kS ⟨#[10]⟩) kS).map (·.data.toList) = _
  rw [splitB_splitC]; decide)
theorem kCut : cutB kS = [⟨#[53]⟩, ⟨#[]⟩, ⟨#[50]⟩, ⟨#[99, 108, 111, 99, 107]⟩, ⟨#[48, 48, 48, 48, 48, 48, 48, 48]⟩, ⟨#[48, 48, 48, 48, 48, 48, 48, 49, 48, 48, 48, 48, 48, 48, 48, 53]⟩, ⟨#[]⟩] := map_ba (by
  show (Lib.splitB ⟨#[32]⟩ 0 (Lib.countB kS ⟨#[32]⟩) kS).map (·.data.toList) = _
  rw [splitB_splitC]; decide)
theorem hex0 : hexS 0 = ⟨#[48, 48, 48, 48, 48, 48, 48, 48]⟩ := ba_ext (by decide)
theorem hex15 : hexS 1 ++ hexS 5 = ⟨#[48, 48, 48, 48, 48, 48, 48, 49, 48, 48, 48, 48, 48, 48, 48, 53]⟩ := ba_ext (by
  rw [ByteArray.data_append, Array.toList_append]; decide)
theorem kWords : wordsB kS = wordsN 5 2 5 0 5 1 := by
  unfold wordsB wordsN writeN
  rw [kCut, dec1 5 (by decide), dec1 2 (by decide), hex0, hex15]
  simp only [emp_eq]
  decide
theorem kGood : GoodN 5 2 5 0 5 1 := ⟨by decide, by decide, by decide, by decide, by decide, by decide, by decide, by decide, by decide, by decide, by decide, by decide, by decide⟩
theorem kGoodL : GoodN 37 1 1 16 4096 42 := ⟨by decide, by decide, by decide, by decide, by decide, by decide, by decide, by decide, by decide, by decide, by decide, by decide, by decide⟩
theorem kText : textS [obN 37 1 1 16 4096 42] = kL := ba_ext (by
  have h37 : Lib.decDigits 37 = [51, 55] := by rw [Lib.decDigits_two (by decide) (by decide)]; rfl
  simp only [textS, textB, List.flatMap_cons, List.flatMap_nil, lineB_obN, lineZ, wordsN, writeN, decS, h37, Lib.decDigits_one (show 1 < 10 by decide)]
  decide)
theorem addr_add (g o i : Nat) : (⟨g, o, none⟩ : Addr).add i = ⟨g, o + i, none⟩ := by simp [Addr.add]
theorem cell_in {W : World} {g j q : Nat} {cs : Array Value} {fz : Nat × Nat} (h : W.heap[g]? = some (.cells cs q fz)) : W.cell? ⟨g, j, none⟩ = cs[j]? := by
  simp only [World.cell?, h]; rfl
theorem known_ok (m : Int) (w : World) (hT : PTab w) (hm : w.cell? ⟨2, 0, none⟩ = some (.int .i64 m)) :
    Calls Tryz.prog 9 #[] w fun e w' => e = .returned (.bool true) ∧ Below w.heap.size w w' := by
  have HT := Lib.hid hT
  have HM := Lib.hid hm
  have h2 : 2 < w.heap.size := World.block_lt_of_cell? _ _ hm
  clear hT hm
  go_enter Tryz.func9, Tryz.ntmps9
  go_wp2_with fail
  have hC : Kd.C k35 (w.alloc (.cells #[.int .u64 37, .int .i64 1, .int .i64 1, .int .u32 16, .int .u32 4096, .int .u32 42] 35)) (some ⟨w.heap.size, 0, none⟩) [obN 37 1 1 16 4096 42].length [obN 37 1 1 16 4096 42] := by
    refine ⟨rfl, by decide, fun _ => ⟨_, rfl, fun j p hj => ?_⟩⟩
    match j with
    | 0 =>
      obtain rfl : obN 37 1 1 16 4096 42 = p := Option.some.inj hj
      refine ⟨_, rfl, k35_mk _ _, fun i u hu => ?_⟩
      have hb := blk_new w (.cells #[.int .u64 37, .int .i64 1, .int .i64 1, .int .u32 16, .int .u32 4096, .int .u32 42] 35)
      rw [Nat.zero_mul, Nat.zero_add, addr_add, Nat.zero_add, cell_in hb]
      simpa [obN] using hu
    | j + 1 => simp at hj
  have hft : ∀ o ∈ [obN 37 1 1 16 4096 42], FitsT o := by
    intro o ho
    rw [List.mem_singleton] at ho
    subst ho
    exact ⟨⟨by decide, by decide, by decide, by decide, by decide, by decide⟩, by decide, by decide⟩
  have hba : Below w.heap.size w (w.alloc (.cells #[.int .u64 37, .int .i64 1, .int .i64 1, .int .u32 16, .int .u32 4096, .int .u32 42] 35)) := below_alloc (Below.refl _ _) _
  have htx := text_ok [obN 37 1 1 16 4096 42] (some ⟨w.heap.size, 0, none⟩) 1 _ (HT.out.below hba) hC hft (by decide)
  have hmay : [obN 37 1 1 16 4096 42].all mayB = true := by decide
  refine htx.mono ?_
  clear htx hC hft
  rintro e w1 ⟨rfl, hb1⟩
  rw [if_pos hmay, if_pos hmay, kText]
  unfold kL
  clear hmay
  have HB1 := Lib.hid (hba.trans (hb1.mono hba.size))
  clear hba hb1
  go_wp2_with fail
  have hps := parse_ok kS m [[obN 5 2 5 0 5 1]] w1 (by decide) (by rw [HB1.out.cell h2]; exact HM.out) (by rw [kPieces]; rfl) (by
    intro k x os hx ho
    rw [kPieces] at hx
    match k with
    | 0 =>
      obtain rfl : kS = x := Option.some.inj hx
      obtain rfl : [obN 5 2 5 0 5 1] = os := Option.some.inj ho
      exact .inr ⟨5, 2, 5, 0, 5, 1, kGood, kWords, rfl⟩
    | k + 1 => simp at hx) (by decide)
  refine hps.mono ?_
  clear hps
  rintro e w2 ⟨v, rfl, hr, hb⟩
  have HB2 := Lib.hid (HB1.out.trans (hb.mono HB1.out.size))
  obtain ⟨g, c, rfl, _, _, _⟩ := Kd.R_form hr (by decide)
  obtain ⟨_, _, hC⟩ := Kd.R_reads' hr
  obtain ⟨ad, had, c0, c1, c2, c3, c4, c5⟩ := at_T35 hC 0 (by decide) (by decide)
  have e35 : rd_T35 ([[obN 5 2 5 0 5 1]].flatten) 0 = obN 5 2 5 0 5 1 := rfl
  rw [e35] at c0 c1 c2 c3 c4 c5
  obtain rfl := Option.some.inj had
  simp only [obN, show Int.toNat 0 * 6 = 0 from rfl, addr_add, Nat.zero_add] at c0 c1 c2 c3 c4 c5
  clear hr hb HB1 hC
  go_wp2_with fail
  go_ret
  exact ⟨rfl, HB2.out⟩
end Go.Proofs.YtohighedgdlflaaGreatDoor

/- What the document's own writers of numbers give: decS and hexS. -/
namespace Go.Proofs.YtohighedgdlflaaGreatDoor
open Go.Shelf Go.RowKit Go.Sort Go.Lib Go.Proofs.YtohighedgdlflaaGreatDoorW.PrintWords Go.Proofs.YtohighedgdlflaaGreatDoor.PR
set_option linter.unusedVariables false
set_option linter.unusedSimpArgs false
theorem w64_small (n : Nat) (h : n < 9223372036854775808) : wrap64 (n : Int) = (n : Int) := by unfold wrap64; omega
theorem w64_succ (i : Nat) (h : i + 1 < 9223372036854775808) : wrap64 ((i : Int) + 1) = ((i + 1 : Nat) : Int) := by
  have := w64_small (i + 1) h
  rw [← this]; congr 1
theorem dig10 (d : Nat) (h : d < 10) : (⟨#[48, 49, 50, 51, 52, 53, 54, 55, 56, 57]⟩ : ByteArray).extract d (d + 1) = ⟨#[UInt8.ofNat (48 + d)]⟩ := by
  rcases (show d = 0 ∨ d = 1 ∨ d = 2 ∨ d = 3 ∨ d = 4 ∨ d = 5 ∨ d = 6 ∨ d = 7 ∨ d = 8 ∨ d = 9 by omega) with h | h | h | h | h | h | h | h | h | h <;> subst h <;> decide
theorem dig16 (d : Nat) (h : d < 16) : (⟨#[48, 49, 50, 51, 52, 53, 54, 55, 56, 57, 97, 98, 99, 100, 101, 102]⟩ : ByteArray).extract d (d + 1) = ⟨#[hexDig d]⟩ := by
  rcases (show d = 0 ∨ d = 1 ∨ d = 2 ∨ d = 3 ∨ d = 4 ∨ d = 5 ∨ d = 6 ∨ d = 7 ∨ d = 8 ∨ d = 9 ∨ d = 10 ∨ d = 11 ∨ d = 12 ∨ d = 13 ∨ d = 14 ∨ d = 15 by omega) with h | h | h | h | h | h | h | h | h | h | h | h | h | h | h | h <;> subst h <;> decide
theorem decS_size_le (n : Nat) (h : n < 18446744073709551616) : (decS n).size ≤ 20 := by
  rw [decS_size]; exact Lib.nDigits_le20 _ h
theorem decimal_fk : ∀ (k n : Nat), n < 10 ^ (k + 1) → n < 18446744073709551616 → cloisterref22_decimal.f (k + 1) (n : Int) = some (decS n) := by
  intro k
  induction k with
  | zero =>
    intro n h10 h
    have h10 : n < 10 := by simpa using h10
    have hm : Int.tmod (n : Int) 10 = ((n % 10 : Nat) : Int) := by rw [Int.tmod_eq_emod_of_nonneg (by omega)]; omega
    have e1 : wrap64 (((n % 10 : Nat) : Int)) = ((n % 10 : Nat) : Int) := w64_small _ (by omega)
    have e2 : wrap64 (((n % 10 : Nat) : Int) + 1) = ((n % 10 + 1 : Nat) : Int) := by
      have := w64_small (n % 10 + 1) (by omega)
      rw [← this]; congr 1
    have hd : (⟨#[48, 49, 50, 51, 52, 53, 54, 55, 56, 57]⟩ : ByteArray).extract ((n % 10 : Nat) : Int).toNat ((n % 10 + 1 : Nat) : Int).toNat = ⟨#[UInt8.ofNat (48 + n % 10)]⟩ := by rw [Int.toNat_natCast, Int.toNat_natCast]; exact dig10 (n % 10) (Nat.mod_lt _ (by decide))
    rw [cloisterref22_decimal.f, hm, e1, e2, if_pos (by omega), if_pos (by omega), if_pos (by omega), if_pos (by omega), hd]
    congr 1
    unfold decS
    rw [Lib.decDigits_one h10, Nat.mod_eq_of_lt h10]
  | succ k ih =>
    intro n h10k h
    have hm : Int.tmod (n : Int) 10 = ((n % 10 : Nat) : Int) := by rw [Int.tmod_eq_emod_of_nonneg (by omega)]; omega
    have e1 : wrap64 (((n % 10 : Nat) : Int)) = ((n % 10 : Nat) : Int) := w64_small _ (by omega)
    have e2 : wrap64 (((n % 10 : Nat) : Int) + 1) = ((n % 10 + 1 : Nat) : Int) := by
      have := w64_small (n % 10 + 1) (by omega)
      rw [← this]; congr 1
    have hd : (⟨#[48, 49, 50, 51, 52, 53, 54, 55, 56, 57]⟩ : ByteArray).extract ((n % 10 : Nat) : Int).toNat ((n % 10 + 1 : Nat) : Int).toNat = ⟨#[UInt8.ofNat (48 + n % 10)]⟩ := by rw [Int.toNat_natCast, Int.toNat_natCast]; exact dig10 (n % 10) (Nat.mod_lt _ (by decide))
    by_cases h10 : n < 10
    · rw [cloisterref22_decimal.f, hm, e1, e2, if_pos (by omega), if_pos (by omega), if_pos (by omega), if_pos (by omega), hd]
      congr 1
      unfold decS
      rw [Lib.decDigits_one h10, Nat.mod_eq_of_lt h10]
    · have hk := ih (n / 10) (by rw [Nat.pow_succ] at h10k; exact Nat.div_lt_of_lt_mul (by rw [Nat.mul_comm]; exact h10k)) (by omega)
      have hdv : IntKind.u64.wrap (Int.tdiv (n : Int) 10) = ((n / 10 : Nat) : Int) := by
        rw [Int.tdiv_eq_ediv_of_nonneg (by omega)]
        have : ((n : Int) / 10) = ((n / 10 : Nat) : Int) := by omega
        rw [this]
        show ((n / 10 : Nat) : Int) % 18446744073709551616 = _
        omega
      have hsz : (decS (n / 10)).size + (⟨#[UInt8.ofNat (48 + n % 10)]⟩ : ByteArray).size ≤ 9223372036854775807 := by
        have := decS_size_le (n / 10) (by omega)
        have h2 : (⟨#[UInt8.ofNat (48 + n % 10)]⟩ : ByteArray).size = 1 := rfl
        omega
      rw [cloisterref22_decimal.f, hm, e1, e2, if_pos (by omega), if_pos (by omega), if_pos (by omega), if_neg (by omega), hdv, hk, hd, Option.bind_some, if_pos hsz]
      congr 1
      rw [show decS n = ⟨(Lib.decDigits n).toArray⟩ from rfl, Lib.decDigits, dif_neg h10]
      apply ByteArray.ext
      apply Array.toList_inj.1
      simp [decS]
theorem decimal_f (k n : Nat) (hk : 20 ≤ k) (h : n < 18446744073709551616) : cloisterref22_decimal.f k (n : Int) = some (decS n) := by
  obtain ⟨j, rfl⟩ : ∃ j, k = j + 1 := ⟨k - 1, by omega⟩
  refine decimal_fk j n ?_ h
  refine Nat.lt_of_lt_of_le h (Nat.le_trans (show 18446744073709551616 ≤ 10 ^ 20 by decide) (Nat.pow_le_pow_right (by omega) hk))
def hexSuf (n i : Nat) : ByteArray := ⟨((hexL n).drop (8 - i)).toArray⟩
theorem hexL_get (n j : Nat) (h : j < 8) : (hexL n).drop j = hexAt n j :: (hexL n).drop (j + 1) := by
  have hl : (hexL n).length = 8 := by simp [hexL]
  rw [List.drop_eq_getElem_cons (by omega)]
  congr 1
  simp [hexL]
theorem hexSuf_succ (n i : Nat) (h : i < 8) : (⟨#[hexDig (n / 16 ^ i % 16)]⟩ : ByteArray) ++ hexSuf n i = hexSuf n (i + 1) := by
  apply ByteArray.ext
  apply Array.toList_inj.1
  have e : 8 - i = (8 - (i + 1)) + 1 := by omega
  simp only [hexSuf]
  rw [hexL_get n (8 - (i + 1)) (by omega), ← e]
  have e2 : 7 - (8 - (i + 1)) = i := by omega
  simp only [hexAt, e2]
  rfl
theorem tdiv16 (q : Nat) (h : q < 4294967296) : (Int.tdiv (q : Int) 16) % 4294967296 = ((q / 16 : Nat) : Int) := by
  rw [Int.tdiv_eq_ediv_of_nonneg (Int.natCast_nonneg q)]
  have : ((q : Int) / 16) = ((q / 16 : Nat) : Int) := by omega
  rw [this]
  exact Int.emod_eq_of_lt (by omega) (by omega)
theorem i8 {i j : Nat} (h : i = 8 - (j + 1)) : (i : Int) < 8 := by omega
theorem one_sz (d : UInt8) : (⟨#[d]⟩ : ByteArray).size = 1 := rfl
theorem hex_l (n e : Nat) (h : n < 4294967296) : ∀ j : Nat, j ≤ 8 → cloisterref22_hex.l0 (j + e + 1) ((n / 16 ^ (8 - j) : Nat) : Int) (hexSuf n (8 - j)) ((8 - j : Nat) : Int) = some (hexS n) := by
  intro j
  induction j with
  | zero =>
    intro _
    rw [Nat.zero_add, cloisterref22_hex.l0, if_neg (by omega)]
    rfl
  | succ j ih =>
    intro hj
    replace ih := ih (by omega)
    rw [show j + 1 + e = (j + e) + 1 by omega]
    obtain ⟨i, hi⟩ : ∃ i, i = 8 - (j + 1) := ⟨_, rfl⟩
    have e8 : 8 - j = i + 1 := by omega
    rw [e8] at ih
    rw [← hi]
    obtain ⟨q, hq⟩ : ∃ q, q = n / 16 ^ i := ⟨_, rfl⟩
    rw [← hq]
    have hqn : q ≤ n := by rw [hq]; exact Nat.div_le_self _ _
    have hqd : n / 16 ^ (i + 1) = q / 16 := by rw [hq, Nat.pow_succ, Nat.div_div_eq_div_mul]
    have hs := hexSuf_succ n i (by clear hq; omega)
    rw [← hq] at hs
    rw [hqd] at ih
    clear hq hqd
    obtain ⟨suf, hsuf⟩ : ∃ suf, suf = hexSuf n i := ⟨_, rfl⟩
    have hsz0 : suf.size ≤ 8 := by rw [hsuf]; simp [hexSuf, ByteArray.size, hexL]
    rw [← hsuf] at hs ⊢
    have hm : Int.tmod (q : Int) 16 = ((q % 16 : Nat) : Int) := by rw [Int.tmod_eq_emod_of_nonneg (Int.natCast_nonneg q)]; omega
    have e1 : wrap64 (((q % 16 : Nat) : Int)) = ((q % 16 : Nat) : Int) := w64_small _ (by omega)
    have e2 : wrap64 (((q % 16 : Nat) : Int) + 1) = ((q % 16 + 1 : Nat) : Int) := w64_succ _ (by omega)
    have e3 : wrap64 ((i : Int) + 1) = ((i + 1 : Nat) : Int) := w64_succ _ (by omega)
    have hdv : (Int.tdiv (q : Int) 16) % 4294967296 = ((q / 16 : Nat) : Int) := by
      exact tdiv16 q (Nat.lt_of_le_of_lt hqn h)
    have h8 : ((i : Nat) : Int) < 8 := i8 hi
    have g0 : (0 : Int) ≤ ((q % 16 : Nat) : Int) := Int.natCast_nonneg _
    have g1 : ((q % 16 : Nat) : Int) ≤ ((q % 16 + 1 : Nat) : Int) := Int.ofNat_le.2 (Nat.le_succ _)
    have g2 : ((q % 16 + 1 : Nat) : Int) ≤ 16 := Int.ofNat_le.2 (Nat.mod_lt _ (by decide))
    have hd : (⟨#[48, 49, 50, 51, 52, 53, 54, 55, 56, 57, 97, 98, 99, 100, 101, 102]⟩ : ByteArray).extract ((q % 16 : Nat) : Int).toNat ((q % 16 + 1 : Nat) : Int).toNat = ⟨#[hexDig (q % 16)]⟩ := by rw [Int.toNat_natCast, Int.toNat_natCast]; exact dig16 (q % 16) (Nat.mod_lt _ (by decide))
    obtain ⟨dg, hdg⟩ : ∃ dg, dg = hexDig (q % 16) := ⟨_, rfl⟩
    rw [← hdg] at hd hs
    clear hdg
    have hsz : (⟨#[dg]⟩ : ByteArray).size + suf.size ≤ 9223372036854775807 := by
      have h1 : (⟨#[dg]⟩ : ByteArray).size = 1 := one_sz dg
      omega
    clear hsz0 hsuf
    rw [cloisterref22_hex.l0, if_pos h8]
    rw [hm, e1]
    rw [e2, if_pos g0, if_pos g1, if_pos g2, hd, if_pos hsz, hs, hdv, e3]
    exact ih
theorem hex_f (k n : Nat) (hk : 9 ≤ k) (h : n < 4294967296) : cloisterref22_hex.f k (n : Int) = some (hexS n) := by
  obtain ⟨e, rfl⟩ : ∃ e, k = 8 + e + 1 := ⟨k - 9, by omega⟩
  have h8 := hex_l n e h 8 (Nat.le_refl _)
  have e : hexSuf n (8 - 8) = (⟨#[]⟩ : ByteArray) := by
    apply ByteArray.ext
    apply Array.toList_inj.1
    simp [hexSuf, hexL]
  rw [e, Nat.sub_self, Nat.pow_zero, Nat.div_one] at h8
  exact h8
end Go.Proofs.YtohighedgdlflaaGreatDoor

/- What the laws' own helpers give. -/
namespace Go.Proofs.YtohighedgdlflaaGreatDoor
open Go.Shelf Go.RowKit Go.Sort Go.Lib Go.Proofs.YtohighedgdlflaaGreatDoorW.PrintWords Go.Proofs.YtohighedgdlflaaGreatDoor.PR
set_option linter.unusedVariables false
set_option linter.unusedSimpArgs false
def mark0 : S35 := ⟨77, 0, -9, 0, 0, 0⟩
theorem twin_f (l : List S35) (h : l.length < 3518437208883) : cloisterlaw22_twin.f l = some l := by
  unfold cloisterlaw22_twin.f
  rw [if_pos (by simpa using h)]
  rfl
def lentL (l : List S35) : List S35 := l ++ List.replicate 8 mark0
def lentPre (l : List S35) (i : Nat) : List S35 := (lentL l).take i ++ List.replicate ((lentL l).length - i) z35
theorem lentPre_set (l : List S35) (i : Nat) (h : i < (lentL l).length) (x : S35) (hx : (lentL l)[i]? = some x) (y : S35) : ((lentPre l i).set i y).set i x = lentPre l (i + 1) := by
  rw [List.set_set]
  apply List.ext_getElem?
  intro j
  have hl : ((lentL l).take i).length = i := by rw [List.length_take]; omega
  unfold lentPre
  rw [List.getElem?_set]
  by_cases hj : i = j
  · subst hj
    rw [if_pos rfl, if_pos (by simp; omega), List.getElem?_append_left (by rw [List.length_take]; omega), List.getElem?_take_of_lt (by omega), hx]
  · rw [if_neg hj]
    rcases Nat.lt_or_ge j i with hlt | hge
    · rw [List.getElem?_append_left (by omega), List.getElem?_append_left (by rw [List.length_take]; omega), List.getElem?_take_of_lt hlt, List.getElem?_take_of_lt (by omega)]
    · rw [List.getElem?_append_right (by omega), List.getElem?_append_right (by rw [List.length_take]; omega), hl, List.length_take, List.getElem?_replicate, List.getElem?_replicate]
      have e : min (i + 1) (lentL l).length = i + 1 := by omega
      rw [e]
      by_cases h2 : j < (lentL l).length
      · rw [if_pos (by omega), if_pos (by omega)]
      · rw [if_neg (by omega), if_neg (by omega)]
theorem lentPre_set1 (l : List S35) (i : Nat) (h : i < (lentL l).length) (x : S35) (hx : (lentL l)[i]? = some x) : (lentPre l i).set i x = lentPre l (i + 1) := by
  have := lentPre_set l i h x hx x
  rwa [List.set_set] at this
theorem lentPre_len (l : List S35) (i : Nat) (h : i ≤ (lentL l).length) : (lentPre l i).length = (lentL l).length := by
  unfold lentPre; rw [List.length_append, List.length_take, List.length_replicate]; omega
theorem lentL_len (l : List S35) : (lentL l).length = l.length + 8 := by simp [lentL]
theorem lent_l (l : List S35) (hl : l.length < 1000000000) : ∀ j : Nat, j ≤ (lentL l).length → cloisterlaw22_lent.l0 (j + 1) l (lentPre l ((lentL l).length - j)) (((lentL l).length - j : Nat) : Int) = some (lentL l)
  | 0, _ => by
    have hn := lentPre_len l (lentL l).length (Nat.le_refl _)
    rw [Nat.sub_zero, cloisterlaw22_lent.l0, if_neg (by rw [hn]; omega)]
    unfold lentPre
    rw [List.take_length, Nat.sub_self]; simp
  | j + 1, hj => by
    have ih := lent_l l hl j (by omega)
    obtain ⟨i, hi⟩ : ∃ i, i = (lentL l).length - (j + 1) := ⟨_, rfl⟩
    have e8 : (lentL l).length - j = i + 1 := by omega
    rw [e8] at ih
    rw [← hi]
    have hn := lentPre_len l i (by omega)
    have hm : cloisterlaw22_mark.f 0 = some (77, 0, -9, 0, 0, 0) := by unfold cloisterlaw22_mark.f wrap64; rfl
    have hL := lentL_len l
    rw [cloisterlaw22_lent.l0, if_pos (by rw [hn]; omega), hm, Option.bind_some, if_pos (by omega), Option.bind_some, w64_succ i (by omega)]
    simp only [Int.toNat_natCast]
    by_cases h : i < l.length
    · rw [if_pos (by omega)]
      have hx : (lentL l)[i]? = some (rd_T35 l i) := by
        unfold lentL rd_T35
        rw [List.getElem?_append_left h, Int.toNat_natCast, List.getD_eq_getElem?_getD, List.getElem?_eq_getElem h]; rfl
      rw [lentPre_set l i (by omega) _ hx]
      exact ih
    · rw [if_neg (by omega)]
      have hx : (lentL l)[i]? = some mark0 := by
        unfold lentL
        rw [List.getElem?_append_right (by omega), List.getElem?_replicate, if_pos (by omega)]
      have := lentPre_set1 l i (by omega) _ hx
      unfold mark0 at this
      rw [this]
      exact ih
theorem lent_f (l : List S35) (hl : l.length < 1000000000) : ∃ k, cloisterlaw22_lent.f k l = some (lentL l) := by
  have h := lent_l l hl (lentL l).length (Nat.le_refl _)
  have hL := lentL_len l
  have e : wrap64 ((l.length : Int) + 8) = (((lentL l).length : Nat) : Int) := by
    rw [hL]
    have := w64_small (l.length + 8) (by omega)
    rw [← this]; congr 1
  refine ⟨(lentL l).length + 1, ?_⟩
  unfold cloisterlaw22_lent.f
  rw [e, if_pos (by omega), if_pos (by omega), Int.toNat_natCast]
  rw [Nat.sub_self] at h
  have e2 : lentPre l 0 = List.replicate (lentL l).length z35 := by simp [lentPre]
  rw [e2] at h
  exact h
theorem same_l (l : List S35) (hl : l.length < 1000000000) : ∀ j : Nat, j ≤ l.length → cloisterlaw22_same.l0 (j + 1) l l ((l.length - j : Nat) : Int) = some true
  | 0, _ => by
    rw [cloisterlaw22_same.l0, if_neg (by omega)]
  | j + 1, hj => by
    have ih := same_l l hl j (by omega)
    obtain ⟨i, hi⟩ : ∃ i, i = l.length - (j + 1) := ⟨_, rfl⟩
    have e8 : l.length - j = i + 1 := by omega
    rw [e8] at ih
    rw [← hi, cloisterlaw22_same.l0, if_pos (by omega), if_pos (by omega), if_pos (by omega), if_neg (by simp), w64_succ i (by omega)]
    exact ih
theorem same_f (l : List S35) (hl : l.length < 1000000000) : ∃ k, cloisterlaw22_same.f k l l = some true := by
  have h := same_l l hl l.length (Nat.le_refl _)
  rw [Nat.sub_self] at h
  exact ⟨l.length + 1, by unfold cloisterlaw22_same.f; rw [if_pos rfl]; exact h⟩
/-- twin (10). -/
theorem twin_ok (A : Option Addr) (c : Nat) (l : List S35) (w : World) (hr : Kd.C k35 w A l.length l) (hc : l.length ≤ c) (hl : l.length < 1000000000) :
    Calls Tryz.prog 10 #[.slice A l.length c] w fun e w' => ∃ v, e = .returned v ∧ Kd.R k35 35 w' w.heap.size (fun _ => True) v l ∧ Below w.heap.size w w' :=
  cloisterlaw22_twin.calls A c l l w hr hc (twin_f l (by omega))
/-- lent (12). -/
theorem lent_ok (A : Option Addr) (c : Nat) (l : List S35) (w : World) (hr : Kd.C k35 w A l.length l) (hc : l.length ≤ c) (hl : l.length < 1000000000) :
    Calls Tryz.prog 12 #[.slice A l.length c] w fun e w' => ∃ v, e = .returned v ∧ Kd.R k35 35 w' w.heap.size (fun _ => True) v (lentL l) ∧ Below w.heap.size w w' := by
  obtain ⟨k, hk⟩ := lent_f l hl
  exact cloisterlaw22_lent.calls k A c l _ w hr hc hk
/-- same (18) at one row in two places. -/
theorem same_ok (A B : Option Addr) (c d : Nat) (l : List S35) (w : World) (hr : Kd.C k35 w A l.length l) (hc : l.length ≤ c) (hs : Kd.C k35 w B l.length l) (hd : l.length ≤ d) (hl : l.length < 1000000000) :
    Calls Tryz.prog 18 #[.slice A l.length c, .slice B l.length d] w fun e w' => e = .returned (.bool true) ∧ Drawn0 w w' := by
  obtain ⟨k, hk⟩ := same_f l hl
  exact cloisterlaw22_same.calls k A c l B d l true w hr hc hs hd hk
end Go.Proofs.YtohighedgdlflaaGreatDoor

/- kept (14) at lent ones that nobody wrote. -/
namespace Go.Proofs.YtohighedgdlflaaGreatDoor
open Go.Shelf Go.RowKit Go.Sort Go.Lib Go.Proofs.YtohighedgdlflaaGreatDoorW.PrintWords Go.Proofs.YtohighedgdlflaaGreatDoor.PR
set_option linter.unusedVariables false
set_option linter.unusedSimpArgs false
theorem rd_left (l m : List S35) (i : Nat) (h : i < l.length) : rd_T35 (l ++ m) i = rd_T35 l i := by
  unfold rd_T35
  simp only [Int.toNat_natCast, List.getD_eq_getElem?_getD]
  rw [List.getElem?_append_left h]
theorem rd_mark (l : List S35) (i : Nat) (h : ¬ i < l.length) (h2 : i < (lentL l).length) : rd_T35 (lentL l) i = mark0 := by
  have hL := lentL_len l
  unfold rd_T35 lentL
  simp only [Int.toNat_natCast, List.getD_eq_getElem?_getD]
  rw [List.getElem?_append_right (by omega), List.getElem?_replicate, if_pos (by omega)]
  rfl
theorem kept_l (l : List S35) (hl : l.length < 1000000000) : ∀ j : Nat, j ≤ (lentL l).length → cloisterlaw22_kept.l0 (j + 1) (lentL l) l (((lentL l).length - j : Nat) : Int) = some true := by
  intro j
  have hL := lentL_len l
  have hw : wrap64 ((l.length : Int) + 8) = (((lentL l).length : Nat) : Int) := by rw [hL]; unfold wrap64; omega
  induction j with
  | zero =>
    intro _
    rw [cloisterlaw22_kept.l0, if_neg (by omega), hw]
    simp
  | succ j ih =>
    intro hj
    replace ih := ih (by omega)
    obtain ⟨i, hi⟩ : ∃ i, i = (lentL l).length - (j + 1) := ⟨_, rfl⟩
    have e8 : (lentL l).length - j = i + 1 := by omega
    rw [e8] at ih
    rw [← hi, cloisterlaw22_kept.l0, if_pos (by omega)]
    by_cases h : i < l.length
    · have hr : rd_T35 (lentL l) i = rd_T35 l i := rd_left l _ i h
      rw [if_pos (by omega), if_pos (by omega), hr, if_neg (by simp), if_neg (by omega), w64_succ i (by omega)]
      exact ih
    · have hm : cloisterlaw22_mark.f 0 = some (77, 0, -9, 0, 0, 0) := by unfold cloisterlaw22_mark.f wrap64; rfl
      have hr := rd_mark l i h (by omega)
      rw [if_neg (by omega), if_pos (by omega), if_pos (by omega), hm, Option.bind_some, hr, if_neg (by simp [mark0]), w64_succ i (by omega)]
      exact ih
theorem kept_f (l : List S35) (hl : l.length < 1000000000) : cloisterlaw22_kept.f ((lentL l).length + 1) (lentL l) l = some true := by
  have h := kept_l l hl (lentL l).length (Nat.le_refl _)
  rw [Nat.sub_self] at h
  exact h
theorem kept_ok (A B : Option Addr) (c d : Nat) (l : List S35) (w : World) (hr : Kd.C k35 w A (lentL l).length (lentL l)) (hc : (lentL l).length ≤ c) (hs : Kd.C k35 w B l.length l) (hd : l.length ≤ d) (hl : l.length < 1000000000) :
    Calls Tryz.prog 14 #[.slice A (lentL l).length c, .slice B l.length d] w fun e w' => e = .returned (.bool true) ∧ Below w.heap.size w w' :=
  cloisterlaw22_kept.calls _ A c (lentL l) B d l true w hr hc hs hd (kept_f l hl)
end Go.Proofs.YtohighedgdlflaaGreatDoor

/- A row of observations in a block of its own, written in place. -/
namespace Go.Proofs.YtohighedgdlflaaGreatDoor
open Go.Shelf Go.RowKit Go.Sort Go.Lib Go.Proofs.YtohighedgdlflaaGreatDoorW.PrintWords Go.Proofs.YtohighedgdlflaaGreatDoor.PR
set_option linter.unusedVariables false
set_option linter.unusedSimpArgs false
def cells6 (x : S35) : List Value := [.int .u64 x.f0, .int .i64 x.f1, .int .i64 x.f2, .int .u32 x.f3, .int .u32 x.f4, .int .u32 x.f5]
def ORow (W : World) (g : Nat) (xs : List S35) : Prop := ∃ cur : Array Value, W.heap[g]? = some (.cells cur 35 (0, 0)) ∧ ∀ (i : Nat) x, xs[i]? = some x → ∀ (j : Nat) u, (cells6 x)[j]? = some u → cur[i * 6 + j]? = some u
theorem ORow.lt {W : World} {g : Nat} {xs : List S35} (h : ORow W g xs) : g < W.heap.size := by
  obtain ⟨cur, h1, _⟩ := h
  exact heap_lt' h1
theorem ORow.below {W W' : World} {g : Nat} {xs : List S35} (h : ORow W g xs) (hb : Below W.heap.size W W') : ORow W' g xs := by
  obtain ⟨cur, h1, h2⟩ := h
  exact ⟨cur, (hb.block _ (heap_lt' h1)).trans h1, h2⟩
theorem ORow.cell {W : World} {g : Nat} {xs : List S35} (h : ORow W g xs) {i : Nat} {x : S35} (hx : xs[i]? = some x) {j : Nat} {u : Value} (hu : (cells6 x)[j]? = some u) : W.cell? ⟨g, i * 6 + j, none⟩ = some u ∧ W.frozen? ⟨g, i * 6 + j, none⟩ = false := by
  obtain ⟨cur, h1, h2⟩ := h
  refine ⟨by rw [cell_in h1]; exact h2 i x hx j u hu, ?_⟩
  simp only [World.frozen?, h1]
  simp
theorem ORow.C {W : World} {g : Nat} {xs : List S35} (h : ORow W g xs) (hn : xs.length ≤ 9223372036854775807) : Kd.C k35 W (some ⟨g, 0, none⟩) xs.length xs := by
  refine ⟨rfl, hn, fun _ => ⟨_, rfl, fun j p hj => ⟨_, ?_, k35_mk _ p, fun i u hu => ?_⟩⟩⟩
  · rfl
  · rw [addr_add, Nat.zero_add]
    exact (h.cell hj hu).1
theorem orow_of_R {W : World} {base : Nat} {ok : Nat → Prop} {v : Value} {xs : List S35} (h : Kd.R k35 35 W base ok v xs) (hp : 0 < xs.length) : ∃ g cap, v = .slice (some ⟨g, 0, none⟩) xs.length cap ∧ base ≤ g ∧ xs.length ≤ cap ∧ ORow W g xs := by
  obtain ⟨g, cap, rfl, hg, _, cur, hc⟩ := Kd.R_form h hp
  obtain ⟨_, hcap, hC⟩ := Kd.R_reads' h
  refine ⟨g, cap, rfl, hg, hcap, cur, hc, fun i x hx j u hu => ?_⟩
  have hi : i < xs.length := by
    rcases Nat.lt_or_ge i xs.length with h' | h'
    · exact h'
    · rw [List.getElem?_eq_none h'] at hx; simp at hx
  obtain ⟨ad, had, cs⟩ := hC.2.2 hp
  obtain rfl := Option.some.inj had
  obtain ⟨c, _, hK, hcell⟩ := cs i x hx
  obtain rfl := k35_open hK
  have := hcell j u hu
  rw [addr_add, Nat.zero_add, cell_in hc] at this
  exact this
/-- One field of one element is written. -/
theorem ORow.set {W : World} {g : Nat} {xs : List S35} (h : ORow W g xs) {i j : Nat} {x y : S35} {v : Value} (hx : xs[i]? = some x) (hj : j < 6) (hy : ∀ k, (cells6 y)[k]? = if k = j then some v else (cells6 x)[k]?) : ORow (W.setCell ⟨g, i * 6 + j, none⟩ v) g (xs.set i y) := by
  obtain ⟨cur, h1, h2⟩ := h
  refine ⟨cur.setIfInBounds (i * 6 + j) v, heap_setCell_same _ _ _ _ _ _ h1, fun i' x' hx' k u hu => ?_⟩
  have hk6 : k < 6 := by
    rcases Nat.lt_or_ge k 6 with h' | h'
    · exact h'
    · rw [List.getElem?_eq_none (by simpa [cells6] using h')] at hu; simp at hu
  have hsz : i * 6 + j < cur.size := by
    have h3 : ∃ u, (cells6 x)[j]? = some u := ⟨_, List.getElem?_eq_getElem (by simpa [cells6] using hj)⟩
    obtain ⟨u3, hu3⟩ := h3
    have h4 := h2 i x hx j u3 hu3
    rcases Nat.lt_or_ge (i * 6 + j) cur.size with h' | h'
    · exact h'
    · rw [Array.getElem?_eq_none h'] at h4; simp at h4
  rw [List.getElem?_set] at hx'
  by_cases hii : i = i'
  · subst hii
    rw [if_pos rfl] at hx'
    split at hx'
    · obtain rfl := Option.some.inj hx'
      rw [hy k] at hu
      by_cases hkj : k = j
      · subst hkj
        rw [if_pos rfl] at hu
        rw [Array.getElem?_setIfInBounds_self_of_lt hsz]
        exact hu
      · rw [if_neg hkj] at hu
        rw [Array.getElem?_setIfInBounds_ne (by omega)]
        exact h2 i x hx k u hu
    · simp at hx'
  · rw [if_neg hii] at hx'
    rw [Array.getElem?_setIfInBounds_ne (by omega)]
    exact h2 i' x' hx' k u hu
theorem ORow.head_ {W : World} {g : Nat} {xs ys : List S35} (h : ORow W g (xs ++ ys)) : ORow W g xs := by
  obtain ⟨cur, h1, h2⟩ := h
  refine ⟨cur, h1, fun i x hx => h2 i x ?_⟩
  have hi : i < xs.length := by
    rcases Nat.lt_or_ge i xs.length with h' | h'
    · exact h'
    · rw [List.getElem?_eq_none h'] at hx; simp at hx
  rw [List.getElem?_append_left hi]; exact hx
theorem bound_ok (A : Option Addr) (n c : Nat) (w : World) (hc : n ≤ c) (hm : c ≤ 9223372036854775807) :
    Calls Tryz.prog 11 #[.slice A n c] w fun e w' => e = .returned (.slice A (min 400 n) c) ∧ w' = w := by
  by_cases h : 400 < n
  · have h1 : (400 : Int) < (n : Int) := by omega
    have h2 : decide ((400 : Int) < (n : Int)) = true := decide_eq_true h1
    have h3 : (400 : Int) ≤ (c : Int) := by omega
    have e : min 400 n = 400 := by omega
    rw [e]
    go_enter Tryz.func11, Tryz.ntmps11
    go_wp2_with fail
    go_ret
    exact ⟨rfl, rfl⟩
  · have h1 : ¬ (400 : Int) < (n : Int) := by omega
    have h2 : decide ((400 : Int) < (n : Int)) = false := decide_eq_false h1
    have e : min 400 n = n := by omega
    rw [e]
    go_enter Tryz.func11, Tryz.ntmps11
    go_wp2_with fail
    go_ret
    exact ⟨rfl, rfl⟩
end Go.Proofs.YtohighedgdlflaaGreatDoor

/- The document's Text, in plain Lean. -/
namespace Go.Proofs.YtohighedgdlflaaGreatDoor
open Go.Shelf Go.RowKit Go.Sort Go.Lib Go.Proofs.YtohighedgdlflaaGreatDoorW.PrintWords Go.Proofs.YtohighedgdlflaaGreatDoor.PR
set_option linter.unusedVariables false
set_option linter.unusedSimpArgs false
def sp : ByteArray := ⟨#[32]⟩
theorem sp_size : (⟨#[32]⟩ : ByteArray).size = 1 := rfl
theorem kind_size (q : Nat) : (kindS.getD q ByteArray.empty).size ≤ 9 := by
  rcases (show q = 0 ∨ q = 1 ∨ q = 2 ∨ q = 3 ∨ q = 4 ∨ q = 5 ∨ q = 6 ∨ q = 7 ∨ 8 ≤ q by omega) with h | h | h | h | h | h | h | h | h
  all_goals first | (subst h; decide) | (rw [List.getD_eq_getElem?_getD, List.getElem?_eq_none (by simpa [kindS] using h)]; exact Nat.zero_le _)
theorem fault_size (q : Nat) : (faultS.getD q ByteArray.empty).size ≤ 9 := by
  rcases (show q = 0 ∨ q = 1 ∨ q = 2 ∨ q = 3 ∨ q = 4 ∨ q = 5 ∨ q = 6 ∨ 7 ≤ q by omega) with h | h | h | h | h | h | h | h
  all_goals first | (subst h; decide) | (rw [List.getD_eq_getElem?_getD, List.getElem?_eq_none (by simpa [faultS] using h)]; exact Nat.zero_le _)
/-- The line's head. -/
def headZ (t cl q p : Nat) : ByteArray := decS t ++ ⟨#[32]⟩ ++ decS cl ++ ⟨#[32]⟩ ++ kindS.getD q ByteArray.empty ++ ⟨#[32]⟩ ++ hexS p
theorem headZ_size (t cl q p : Nat) (h1 : t < 18446744073709551616) (h2 : cl < 18446744073709551616) : (headZ t cl q p).size ≤ 60 := by
  have a1 := decS_size_le t h1
  have a2 := decS_size_le cl h2
  have a3 := kind_size q
  have a4 := hexS_size p
  unfold headZ
  simp only [ByteArray.size_append, sp_size]
  omega
/-- What stands behind the head. -/
def tailZ (q a b : Nat) : ByteArray :=
  if q = 1 ∨ q = 2 then ⟨#[32]⟩ ++ hexS a ++ ⟨#[32]⟩ ++ hexS b else if q = 3 then ⟨#[32]⟩ ++ faultS.getD a ByteArray.empty ++ ⟨#[32]⟩ ++ hexS b else if q = 4 then ⟨#[32]⟩ ++ decS a else if q = 5 then ⟨#[32]⟩ ++ hexS b ++ hexS a else if q = 7 then ⟨#[32]⟩ ++ hexS a else ⟨#[]⟩
theorem lineZ_eq (t cl q p a b : Nat) (hq1 : 1 ≤ q) (hq7 : q ≤ 7) : lineZ t cl q p a b = headZ t cl q p ++ tailZ q a b := by
  apply ByteArray.ext
  apply Array.toList_inj.1
  unfold lineZ headZ tailZ wordsN
  rcases (show q = 1 ∨ q = 2 ∨ q = 3 ∨ q = 4 ∨ q = 5 ∨ q = 6 ∨ q = 7 by omega) with h1 | h1 | h1 | h1 | h1 | h1 | h1 <;> subst h1 <;> simp [writeN, Lib.join_cons, Lib.joinTail]
theorem app_nil (X : ByteArray) : X ++ (⟨#[]⟩ : ByteArray) = X := by
  apply ByteArray.ext
  apply Array.toList_inj.1
  simp
theorem faultS_len : (faultS.length : Int) = 7 := rfl
theorem kindS_len : (kindS.length : Int) = 8 := rfl
theorem u64w (n : Nat) (h : n < 18446744073709551616) : IntKind.u64.wrap (n : Int) = (n : Int) := by
  show (n : Int) % 18446744073709551616 = _
  omega
theorem rdOf_nat (l : List ByteArray) (n : Nat) : rdOf ByteArray.empty l (n : Int) = l.getD n ByteArray.empty := by
  simp [rdOf]
theorem tail_f (k t cl q p a b : Nat) (X : ByteArray) (hX : X.size ≤ 60) (hk : 30 ≤ k) (hG : GoodN t cl q p a b) (bo : Bool) (hbo : bo = decide (q = 1 ∨ q = 2)) : cloisterref22_line.j0 k X (q : Int) bo (t : Int) (cl : Int) (q : Int) (p : Int) (a : Int) (b : Int) = some (X ++ tailZ q a b) := by
  obtain ⟨k, rfl⟩ : ∃ j, k = j + 1 := ⟨k - 1, by omega⟩
  have ha := hexS_size a
  have hb := hexS_size b
  have fa := hex_f k a (by omega) hG.a32
  have fb := hex_f k b (by omega) hG.b32
  have hs := sp_size
  have hf := fault_size a
  have dA := decS_size_le a (by have := hG.a32; omega)
  have h3 := hG.k3
  rw [cloisterref22_line.j0]
  rcases (show q = 1 ∨ q = 2 ∨ q = 3 ∨ q = 4 ∨ q = 5 ∨ q = 6 ∨ q = 7 by have := hG.q1; have := hG.q7; omega) with h1 | h1 | h1 | h1 | h1 | h1 | h1 <;> subst h1 <;> subst hbo
  · rw [if_pos (by decide), if_pos (by omega), fa, Option.bind_some, if_pos (by simp only [ByteArray.size_append]; omega), if_pos (by simp only [ByteArray.size_append]; omega), fb, Option.bind_some, if_pos (by simp only [ByteArray.size_append]; omega)]
    simp [tailZ, ByteArray.append_assoc]
  · rw [if_pos (by decide), if_pos (by omega), fa, Option.bind_some, if_pos (by simp only [ByteArray.size_append]; omega), if_pos (by simp only [ByteArray.size_append]; omega), fb, Option.bind_some, if_pos (by simp only [ByteArray.size_append]; omega)]
    simp [tailZ, ByteArray.append_assoc]
  · rw [if_neg (by decide), if_pos (by decide), if_pos (by omega), show cloisterref22_faults.f = some faultS from rfl, Option.bind_some, if_pos (by omega), if_pos (by rw [faultS_len]; omega), rdOf_nat, if_pos (by simp only [ByteArray.size_append]; omega), if_pos (by simp only [ByteArray.size_append]; omega), fb, Option.bind_some, if_pos (by simp only [ByteArray.size_append]; omega)]
    simp [tailZ, ByteArray.append_assoc]
  · rw [if_neg (by decide), if_neg (by decide), if_pos (by decide), if_pos (by omega), u64w a (by have := hG.a32; omega), decimal_f k a (by omega) (by have := hG.a32; omega), Option.bind_some, if_pos (by simp only [ByteArray.size_append]; omega)]
    simp [tailZ, ByteArray.append_assoc]
  · rw [if_neg (by decide), if_neg (by decide), if_neg (by decide), if_pos (by decide), if_pos (by omega), fb, Option.bind_some, if_pos (by simp only [ByteArray.size_append]; omega), fa, Option.bind_some, if_pos (by simp only [ByteArray.size_append]; omega)]
    simp [tailZ, ByteArray.append_assoc]
  · rw [if_neg (by decide), if_neg (by decide), if_neg (by decide), if_neg (by decide), if_neg (by decide)]
    show some X = some (X ++ (⟨#[]⟩ : ByteArray))
    rw [app_nil]
  · rw [if_neg (by decide), if_neg (by decide), if_neg (by decide), if_neg (by decide), if_pos (by decide), if_pos (by omega), fa, Option.bind_some, if_pos (by simp only [ByteArray.size_append]; omega)]
    simp [tailZ, ByteArray.append_assoc]
theorem line_f (k t cl q p a b : Nat) (hk : 30 ≤ k) (hG : GoodN t cl q p a b) : cloisterref22_line.f k (t : Int) (cl : Int) (q : Int) (p : Int) (a : Int) (b : Int) = some (lineZ t cl q p a b) := by
  have t1 : t < 18446744073709551616 := by have := hG.t63; omega
  have c1 : cl < 18446744073709551616 := by have := hG.cl8; omega
  have a1 := decS_size_le t t1
  have a2 := decS_size_le cl c1
  have a3 := kind_size q
  have a4 := hexS_size p
  have hs := sp_size
  have hq1 := hG.q1
  have hq7 := hG.q7
  unfold cloisterref22_line.f
  rw [decimal_f k t (by omega) t1, Option.bind_some, if_pos (by omega), u64w cl c1, decimal_f k cl (by omega) c1, Option.bind_some, if_pos (by simp only [ByteArray.size_append]; omega), if_pos (by simp only [ByteArray.size_append]; omega),
    show cloisterref22_kinds.f = some kindS from rfl, Option.bind_some, if_pos (by omega), if_pos (by rw [kindS_len]; omega), rdOf_nat, if_pos (by simp only [ByteArray.size_append]; omega), if_pos (by simp only [ByteArray.size_append]; omega), hex_f k p (by omega) hG.p32, Option.bind_some, if_pos (by simp only [ByteArray.size_append]; omega)]
  rw [lineZ_eq t cl q p a b hq1 hq7]
  by_cases h : q = 1
  · subst h
    rw [if_pos (by decide)]
    exact tail_f k t cl 1 p a b (headZ t cl 1 p) (headZ_size _ _ _ _ t1 c1) hk hG _ (by decide)
  · rw [if_neg (by omega)]
    refine tail_f k t cl q p a b (headZ t cl q p) (headZ_size _ _ _ _ t1 c1) hk hG _ ?_
    by_cases h2 : q = 2
    · subst h2; decide
    · rw [decide_eq_false (by omega)]
      simp; omega
theorem text_l (l : List S35) (hF : ∀ o ∈ l, FitsT o) (hl : l.length ≤ 1000000) : ∀ j : Nat, j ≤ l.length → (l.take (l.length - j)).all mayB = true →
    cloisterref22_Text.l0 (j + 32) l (textS (l.take (l.length - j))) ((l.length - j : Nat) : Int) = some (if l.all mayB = true then (textS l, true) else (⟨#[]⟩, false))
  | 0, _, hall => by
    rw [Nat.sub_zero, List.take_length] at *
    rw [show 0 + 32 = 31 + 1 from rfl, cloisterref22_Text.l0, if_neg (by omega), if_pos hall]
  | j + 1, hj, hall => by
    have ih := text_l l hF hl j (by omega)
    obtain ⟨i, hi⟩ : ∃ i, i = l.length - (j + 1) := ⟨_, rfl⟩
    have e8 : l.length - j = i + 1 := by omega
    rw [e8] at ih
    rw [← hi] at hall ⊢
    obtain ⟨o, ho⟩ : ∃ o, o = rd_T35 l i := ⟨_, rfl⟩
    have ho2 : l[i]? = some o := by
      rw [ho]; simp [rd_T35, List.getD_eq_getElem?_getD, List.getElem?_eq_getElem (show i < l.length by omega)]
    have hm := List.mem_of_getElem? ho2
    rw [show j + 1 + 32 = (j + 32) + 1 by omega, cloisterref22_Text.l0, if_pos (by omega), if_pos (by omega), ← ho, show j + 32 = (j + 30) + 2 by omega, refMay_f o (j + 30), Option.bind_some]
    cases hmb : mayB o with
    | false =>
      rw [if_neg (by decide)]
      have : ¬ l.all mayB = true := by
        intro h
        rw [List.all_eq_true.1 h o hm] at hmb
        cases hmb
      rw [if_neg this]
    | true =>
      obtain ⟨t, cl, q, p, a, b, hob, hG⟩ := good_of_may hmb (hF o hm)
      have hlb := lineB_obN t cl q p a b
      rw [← hob] at hlb
      have htk : (textS (l.take i)).size ≤ 200 * 1000000 := by
        have h1 : (textB (l.take i)).length ≤ 200 * (l.take i).length := text_len _ (fun x hx => by
          have hx2 := hF x (List.mem_of_mem_take hx)
          obtain ⟨⟨f1, f2, f3, f4, f5, f6⟩, f7, f8⟩ := hx2
          have := List.all_eq_true.1 hall x hx
          unfold mayB at this
          simp only [Bool.and_eq_true, decide_eq_true_eq] at this
          exact words_len x (by omega) (by omega) (by omega))
        have h2 : (l.take i).length ≤ 1000000 := by rw [List.length_take]; omega
        have h3 : (textS (l.take i)).size = (textB (l.take i)).length := by simp [textS, ByteArray.size]
        omega
      have hlz : (lineZ t cl q p a b).size ≤ 200 := by
        have h1 : (lineB o).length ≤ 200 := by
          rw [hob]
          have := hG.t63; have := hG.cl8; have := hG.a32
          exact words_len _ (show (t : Int) < _ by omega) (show (cl : Int) < _ by omega) (show (a : Int) < _ by omega)
        rw [hlb, List.length_append] at h1
        have h2 : (lineZ t cl q p a b).size = (lineZ t cl q p a b).data.toList.length := Lib.size_eq _
        omega
      have hlf := line_f (j + 32) t cl q p a b (by omega) hG
      rw [if_pos rfl, hob]
      show ((cloisterref22_line.f (j + 30 + 2) (t : Int) (cl : Int) (q : Int) (p : Int) (a : Int) (b : Int)).bind _) = _
      rw [hlf, Option.bind_some, if_pos (by omega), if_pos (by rw [ByteArray.size_append]; omega), w64_succ i (by omega)]
      have hnext : textS (l.take (i + 1)) = (textS (l.take i) ++ lineZ t cl q p a b) ++ ⟨#[10]⟩ := by
        apply ByteArray.ext
        apply Array.toList_inj.1
        rw [List.take_add_one, ho2]
        simp [textS, textB, hlb]
      rw [← hnext]
      refine ih ?_
      rw [List.take_add_one, ho2]
      simp [hall, hmb]
theorem text_f (l : List S35) (hF : ∀ o ∈ l, FitsT o) (hl : l.length ≤ 1000000) : cloisterref22_Text.f (l.length + 32) l = some (if l.all mayB = true then (textS l, true) else (⟨#[]⟩, false)) := by
  have h := text_l l hF hl l.length (Nat.le_refl _) (by simp)
  rw [Nat.sub_self] at h
  exact h
/-- cloisterref22.Text (15). -/
theorem refText_ok (l : List S35) (A : Option Addr) (c : Nat) (w : World) (hr : Kd.C k35 w A l.length l) (hc : l.length ≤ c) (hF : ∀ o ∈ l, FitsT o) (hl : l.length ≤ 1000000) :
    Calls Tryz.prog 15 #[.slice A l.length c] w fun e w' => e = .returned (.tuple #[.string (if l.all mayB = true then textS l else ⟨#[]⟩), .bool (l.all mayB)]) ∧ Below w.heap.size w w' := by
  refine cloisterref22_Text.calls (l.length + 32) A c l _ _ w hr hc ?_
  rw [text_f l hF hl]
  cases l.all mayB <;> rfl
end Go.Proofs.YtohighedgdlflaaGreatDoor

/- The law TraceTells answers true, whatever the row. -/
namespace Go.Proofs.YtohighedgdlflaaGreatDoor
open Go.Shelf Go.RowKit Go.Sort Go.Lib Go.Proofs.YtohighedgdlflaaGreatDoorW.PrintWords Go.Proofs.YtohighedgdlflaaGreatDoor.PR
set_option linter.unusedVariables false
set_option linter.unusedSimpArgs false
/-- What the law writes into an observation. -/
def modA (o : S35) : S35 := ⟨o.f0, o.f1, o.f2, o.f3, (o.f4 + 1) % 4294967296, o.f5⟩
def modO (o : S35) : S35 := ⟨IntKind.u64.wrap (o.f0.tdiv 2), o.f1, o.f2, o.f3, (o.f4 + 1) % 4294967296, o.f5⟩
theorem modO_fits {o : S35} (h : FitsT o) : FitsT (modO o) := by
  obtain ⟨⟨f1, f2, f3, f4, f5, f6⟩, f7, f8⟩ := h
  have h0 : IntKind.u64.wrap (o.f0.tdiv 2) = o.f0 / 2 := by
    rw [Int.tdiv_eq_ediv_of_nonneg f7]
    show (o.f0 / 2) % 18446744073709551616 = _
    omega
  refine ⟨⟨f1, f2, ?_, ?_, f5, f6⟩, ?_, ?_⟩
  · show 0 ≤ (o.f4 + 1) % 4294967296; omega
  · show (o.f4 + 1) % 4294967296 < 4294967296; omega
  · show 0 ≤ IntKind.u64.wrap (o.f0.tdiv 2); rw [h0]; omega
  · show IntKind.u64.wrap (o.f0.tdiv 2) < _; rw [h0]; omega
def rowP (l : List S35) (k : Nat) : List S35 := (l.take k).map modO ++ l.drop k ++ List.replicate 8 mark0
theorem rowP_0 (l : List S35) : rowP l 0 = lentL l := by simp [rowP, lentL]
theorem rowP_n (l : List S35) : rowP l l.length = l.map modO ++ List.replicate 8 mark0 := by simp [rowP]
theorem rowP_len (l : List S35) (k : Nat) : (rowP l k).length = l.length + 8 := by simp [rowP]; omega
theorem rowP_spec (l : List S35) (k j : Nat) (hk : k ≤ l.length) : (rowP l k)[j]? = if j < k then (l[j]?).map modO else if j < l.length then l[j]? else (List.replicate 8 mark0)[j - l.length]? := by
  have h1 : ((l.take k).map modO).length = k := by rw [List.length_map, List.length_take]; omega
  have h2 : (l.drop k).length = l.length - k := List.length_drop
  unfold rowP
  rw [List.append_assoc]
  by_cases hj : j < k
  · rw [if_pos hj, List.getElem?_append_left (by omega), List.getElem?_map, List.getElem?_take_of_lt hj]
  · rw [if_neg hj, List.getElem?_append_right (by omega), h1]
    by_cases hl : j < l.length
    · rw [if_pos hl, List.getElem?_append_left (by omega), List.getElem?_drop]
      congr 1; omega
    · rw [if_neg hl, List.getElem?_append_right (by omega), h2]
      congr 1; omega
theorem rowP_get (l : List S35) (k : Nat) (h : k < l.length) : (rowP l k)[k]? = some l[k] := by
  rw [rowP_spec l k k (by omega), if_neg (by omega), if_pos h, List.getElem?_eq_getElem h]
theorem rowP_set (l : List S35) (k : Nat) (h : k < l.length) (y : S35) : ((rowP l k).set k y).set k (modO l[k]) = rowP l (k + 1) := by
  rw [List.set_set]
  apply List.ext_getElem?
  intro j
  have hl := rowP_len l k
  rw [List.getElem?_set, rowP_spec l (k + 1) j (by omega), rowP_spec l k j (by omega)]
  by_cases hj : k = j
  · subst hj
    rw [if_pos rfl, if_pos (by omega), if_pos (by omega), List.getElem?_eq_getElem h]
    rfl
  · rw [if_neg hj]
    by_cases h1 : j < k
    · rw [if_pos h1, if_pos (show j < k + 1 by omega)]
    · rw [if_neg h1, if_neg (show ¬ j < k + 1 by omega)]
theorem C_head {W : World} {g : Nat} {xs ys : List S35} (h : ORow W g (xs ++ ys)) (hn : xs.length ≤ 9223372036854775807) : Kd.C k35 W (some ⟨g, 0, none⟩) xs.length xs := (h.head_).C hn
set_option maxRecDepth 100000 in
set_option maxHeartbeats 4000000 in
theorem tells_ok (l : List S35) (A : Option Addr) (c : Nat) (m : Int) (w : World) (hT : PTab w) (hm : w.cell? ⟨2, 0, none⟩ = some (.int .i64 m)) (hR : Kd.C k35 w A l.length l) (hc : l.length ≤ c) (hcm : c ≤ 9223372036854775807) (hF : ∀ o ∈ l, FitsT o) :
    Calls Tryz.prog 3 #[.slice A l.length c] w fun e w' => e = .returned (.bool true) ∧ Below w.heap.size w w' := by
  have HT := Lib.hid hT
  have HM := Lib.hid hm
  have HR := Lib.hid hR
  have HF : Hid (∀ o ∈ l.take 400, FitsT o) := fun o ho => hF o (List.mem_of_mem_take ho)
  clear hT hm hR hF
  go_enter Tryz.func3, Tryz.ntmps3
  go_wp2_with fail
  refine (known_ok m w HT.out HM.out).mono ?_
  rintro e w1 ⟨rfl, hb1⟩
  have HB1 := Lib.hid hb1
  clear hb1
  go_wp2_with fail
  refine (bound_ok A l.length c w1 hc hcm).mono ?_
  rintro e w1' ⟨rfl, rfl⟩
  have hC1 := Kd.C_take (Kd.C_below HR.out HB1.out) (m := min 400 l.length) (by omega)
  have htk : l.take (min 400 l.length) = l.take 400 := by
    rw [← List.take_take]; simp
  rw [htk] at hC1
  obtain ⟨l1, hl1⟩ : ∃ l1, l1 = l.take 400 := ⟨_, rfl⟩
  rw [← hl1] at hC1 HF
  have hlen : min 400 l.length = l1.length := by rw [hl1, List.length_take]
  have h400 : l1.length ≤ 400 := by omega
  have hc1 : l1.length ≤ c := by omega
  rw [hlen]
  have HC1 := Lib.hid hC1
  clear hC1 htk hl1 hlen HR
  go_wp2_with fail
  refine (twin_ok A c l1 _ HC1.out hc1 (by omega)).mono ?_
  rintro e w2 ⟨v2, rfl, hr2, hb2⟩
  have HB2 := Lib.hid (HB1.out.trans (hb2.mono HB1.out.size))
  obtain ⟨A2, c2, rfl, hc2, hC2⟩ := Kd.R_reads hr2
  have HC2 := Lib.hid hC2
  clear hr2 hb2 hC2 HC1 hc1
  go_wp2_with fail
  refine (lent_ok A2 c2 l1 _ HC2.out hc2 (by omega)).mono ?_
  rintro e w3 ⟨v3, rfl, hr3, hb3⟩
  have hL := lentL_len l1
  obtain ⟨g, c3, rfl, hg, hc3, hO⟩ := orow_of_R hr3 (by omega)
  have HB3 := Lib.hid hb3
  have HO := Lib.hid hO
  clear hr3 hb3 hO
  have hgc : l1.length ≤ c3 := by omega
  rw [hL]
  go_wp2_with fail
  have HPT3 : Hid (PTab w3) := HT.out.below (HB2.out.trans (HB3.out.mono HB2.out.size))
  refine (text_ok l1 (some ⟨g, 0, none⟩) c3 w3 HPT3.out (C_head HO.out (by omega)) HF.out (by omega)).mono ?_
  rintro e w4 ⟨rfl, hb4⟩
  obtain ⟨T1, hT1⟩ : ∃ T1, T1 = (if l1.all mayB = true then textS l1 else ⟨#[]⟩) := ⟨_, rfl⟩
  obtain ⟨E1, hE1⟩ : ∃ E1 : Int, E1 = (if l1.all mayB = true then 0 else 220) := ⟨_, rfl⟩
  rw [← hT1, ← hE1]
  have HT1 := Lib.hid hT1
  have HE1 := Lib.hid hE1
  clear hT1 hE1
  have HO4 := Lib.hid (HO.out.below hb4)
  have HC4 := Lib.hid (Kd.C_below HC2.out (HB3.out.trans (hb4.mono HB3.out.size)))
  have HB4 := Lib.hid (HB3.out.trans (hb4.mono HB3.out.size))
  clear hb4 HO HB3 HPT3
  go_wp2_with fail
  rw [← hL]
  refine (kept_ok (some ⟨g, 0, none⟩) A2 c3 c2 l1 w4 (HO4.out.C (by omega)) hc3 HC4.out hc2 (by omega)).mono ?_
  rintro e w5 ⟨rfl, hb5⟩
  have HO5 := Lib.hid (HO4.out.below hb5)
  have HC5 := Lib.hid (Kd.C_below HC4.out hb5)
  have HB5 := Lib.hid (HB4.out.trans (hb5.mono HB4.out.size))
  clear hb5 HO4 HC4 HB4
  go_wp2_with fail
  refine (twin_ok A2 c2 l1 _ HC5.out hc2 (by omega)).mono ?_
  rintro e w6 ⟨v6, rfl, hr6, hb6⟩
  obtain ⟨A6, c6, rfl, hc6, hC6⟩ := Kd.R_reads hr6
  have HO6 := Lib.hid (HO5.out.below hb6)
  have HC6 := Lib.hid (Kd.C_below HC5.out hb6)
  have HB6 := Lib.hid (HB5.out.trans (hb6.mono HB5.out.size))
  have HD6 := Lib.hid hC6
  clear hr6 hb6 hC6 HO5 HC5 HB5
  go_wp2_with fail
  refine (refText_ok l1 A6 c6 w6 HD6.out hc6 HF.out (by omega)).mono ?_
  rintro e w7 ⟨rfl, hb7⟩
  rw [← HT1.out]
  have HO7 := Lib.hid (HO6.out.below hb7)
  have HC7 := Lib.hid (Kd.C_below HC6.out hb7)
  have HB7 := Lib.hid (HB6.out.trans (hb7.mono HB6.out.size))
  clear hb7 HO6 HC6 HB6 HD6
  obtain ⟨b1, hb1⟩ : ∃ b1, b1 = l1.all mayB := ⟨_, rfl⟩
  rw [← hb1]
  have hEb : E1 = if b1 = true then 0 else 220 := by rw [hb1]; exact HE1.out
  clear hb1 HE1 HT1
  have HC8 := HC7
  cases b1
  all_goals
    first | obtain rfl : E1 = 220 := hEb | obtain rfl : E1 = 0 := hEb
    go_wp2_with fail
    go_loopw [10] (fun v10 wr => ∃ k : Nat, k ≤ l1.length ∧ v10 = .int .i64 k ∧ Hid (ORow wr g (rowP l1 k)) ∧ Hid (Below w2.heap.size w2 wr)) (fun i _ => l1.length - (RowKit.intOf i).toNat)
    case atStart =>
      refine ⟨0, by omega, rfl, ?_, HB7⟩
      rw [rowP_0]; exact HO7
    case round =>
      clear HO7 HB7 HC7
      obtain ⟨k, hk, rfl, HOk, HBk⟩ := hrel
      by_cases hlt : k < l1.length
      · obtain ⟨x, hx⟩ : ∃ x, x = l1[k] := ⟨_, rfl⟩
        have hget := rowP_get l1 k hlt
        rw [← hx] at hget
        obtain ⟨c4, z4⟩ := HOk.out.cell hget (j := 4) rfl
        have hO1 := HOk.out.set (y := modA x) (v := .int .u32 ((x.f4 + 1) % 4294967296)) hget (show 4 < 6 by omega) (fun k => by match k with
          | 0 => rfl
          | 1 => rfl
          | 2 => rfl
          | 3 => rfl
          | 4 => rfl
          | 5 => rfl
          | k + 6 => rfl)
        have hget2 : ((rowP l1 k).set k (modA x))[k]? = some (modA x) := by
          rw [List.getElem?_set, if_pos rfl, if_pos (by rw [rowP_len]; omega)]
        obtain ⟨d0, y0⟩ := hO1.cell hget2 (j := 0) rfl
        have hO2 := hO1.set (y := modO x) (v := .int .u64 (IntKind.u64.wrap (x.f0.tdiv 2))) hget2 (show 0 < 6 by omega) (fun k => by match k with
          | 0 => rfl
          | 1 => rfl
          | 2 => rfl
          | 3 => rfl
          | 4 => rfl
          | 5 => rfl
          | k + 6 => rfl)
        rw [hx, rowP_set l1 k hlt, ← hx] at hO2
        have hB2 : Below w2.heap.size w2 ((wr.setCell ⟨g, k * 6 + 4, none⟩ (.int .u32 ((x.f4 + 1) % 4294967296))).setCell ⟨g, k * 6 + 0, none⟩ (.int .u64 (IntKind.u64.wrap (x.f0.tdiv 2)))) := (HBk.out.setCell hg _).setCell hg _
        have HO2 := Lib.hid hO2
        have HB2' := Lib.hid hB2
        clear hO1 hO2 hB2 hget hget2 hx
        simp only [Nat.add_zero, modA] at d0 y0 HO2 HB2'
        go_wp2_with fail
        go_roundw
        case rel => exact ⟨k + 1, by omega, by go_num, HO2, HB2'⟩
        case measure => simp [RowKit.intOf]; omega
      · obtain rfl : k = l1.length := by omega
        have HOn : Hid (ORow wr g (l1.map modO ++ List.replicate 8 mark0)) := by
          show ORow wr g (l1.map modO ++ List.replicate 8 mark0)
          rw [← rowP_n]; exact HOk.out
        obtain ⟨l2, hl2⟩ : ∃ l2, l2 = l1.map modO := ⟨_, rfl⟩
        have hln : l1.length = l2.length := by rw [hl2, List.length_map]
        have HF2 : Hid (∀ o ∈ l2, FitsT o) := by
          intro o ho
          rw [hl2] at ho
          obtain ⟨o', ho', rfl⟩ := List.mem_map.1 ho
          exact modO_fits (HF.out o' ho')
        rw [← hl2] at HOn
        clear hl2 HOk HC8 HF hL
        rw [hln] at h400 hgc hc2 ⊢
        clear hlt hk
        go_wp2_with fail
        have HBw : Hid (Below w.heap.size w wr) := HB2.out.trans (HBk.out.mono HB2.out.size)
        refine (text_ok l2 (some ⟨g, 0, none⟩) c3 wr (HT.out.below HBw.out) (C_head HOn.out (by omega)) HF2.out (by omega)).mono ?_
        rintro e w8 ⟨rfl, hb8⟩
        obtain ⟨T2, hT2⟩ : ∃ T2, T2 = (if l2.all mayB = true then textS l2 else ⟨#[]⟩) := ⟨_, rfl⟩
        obtain ⟨E2, hE2⟩ : ∃ E2 : Int, E2 = (if l2.all mayB = true then 0 else 220) := ⟨_, rfl⟩
        rw [← hT2, ← hE2]
        have HT2 := Lib.hid hT2
        have HE2 := Lib.hid hE2
        clear hT2 hE2
        have HO8 := Lib.hid (HOn.out.below hb8)
        have HB8 := Lib.hid (HBw.out.trans (hb8.mono HBw.out.size))
        clear hb8 HOn HBk HBw
        go_wp2_with fail
        refine (twin_ok (some ⟨g, 0, none⟩) c3 l2 _ (C_head HO8.out (by omega)) hgc (by omega)).mono ?_
        rintro e w9 ⟨v9, rfl, hr9, hb9⟩
        obtain ⟨A9, c9, rfl, hc9, hC9⟩ := Kd.R_reads hr9
        have HD9 := Lib.hid hC9
        have HB9 := Lib.hid (HB8.out.trans (hb9.mono HB8.out.size))
        clear hr9 hb9 hC9 HO8 HB8
        go_wp2_with fail
        refine (refText_ok l2 A9 c9 w9 HD9.out hc9 HF2.out (by omega)).mono ?_
        rintro e w10 ⟨rfl, hb10⟩
        rw [← HT2.out]
        have HB10 := Lib.hid (HB9.out.trans (hb10.mono HB9.out.size))
        clear hb10 HB9 HD9
        obtain ⟨b2, hb2⟩ : ∃ b2, b2 = l2.all mayB := ⟨_, rfl⟩
        rw [← hb2]
        have hEb2 : E2 = if b2 = true then 0 else 220 := by rw [hb2]; exact HE2.out
        clear hb2 HE2 HT2
        cases b2
        all_goals
          first | obtain rfl : E2 = 220 := hEb2 | obtain rfl : E2 = 0 := hEb2
          go_wp2_with fail
          go_ret
          exact ⟨rfl, HB10.out⟩
end Go.Proofs.YtohighedgdlflaaGreatDoor

/- A row of observations among the arguments, opened. -/
namespace Go.Proofs.YtohighedgdlflaaGreatDoor
open Go.ChangeShapes Go.WideShapes Go.Deep Go.RowKit Go.Proofs.YtohighedgdlflaaGreatDoorW.PrintWords Go.Proofs.YtohighedgdlflaaGreatDoor.PR
set_option linter.unusedVariables false
set_option linter.unusedSimpArgs false
theorem cells35 : Tryz.prog.cellsOf 35 = 6 := by kernel_rfl
theorem cells32 : Tryz.prog.cellsOf 32 = 1 := by kernel_rfl
theorem cells3 : Tryz.prog.cellsOf 3 = 1 := by kernel_rfl
theorem cells33 : Tryz.prog.cellsOf 33 = 1 := by kernel_rfl
theorem cells31 : Tryz.prog.cellsOf 31 = 1 := by kernel_rfl
theorem len6 {α : Type} {l : List α} (h : l.length = 6) : ∃ a b c d e f, l = [a, b, c, d, e, f] := by
  match l, h with
  | [a, b, c, d, e, f], _ => exact ⟨a, b, c, d, e, f, rfl⟩
theorem wf_u64 {n : Int} (h : (Lit.int .u64 n).wf = true) : 0 ≤ n ∧ n < 18446744073709551616 := by
  have e1 : IntKind.u64.min = 0 := by decide
  have e2 : IntKind.u64.max = 18446744073709551615 := by decide
  simp only [Lit.wf, Bool.and_eq_true, decide_eq_true_eq, e1, e2] at h
  omega
theorem wf_u32 {n : Int} (h : (Lit.int .u32 n).wf = true) : 0 ≤ n ∧ n < 4294967296 := by
  have e1 : IntKind.u32.min = 0 := by decide
  have e2 : IntKind.u32.max = 4294967295 := by decide
  simp only [Lit.wf, Bool.and_eq_true, decide_eq_true_eq, e1, e2] at h
  omega
section
variable {H : Type} {enc : TypeId × Value → H} {W : World} {spare : Nat → Bool} {held : Bool}
theorem open_ob {n : Nat} {v0 v1 v2 v3 v4 v5 : Value} {x : DataW H × List MemPlace} (h : DataW.trod enc Tryz.prog W 0 spare held n 35 [v0, v1, v2, v3, v4, v5] = some x) :
    ∃ o : S35, FitsT o ∧ [v0, v1, v2, v3, v4, v5] = cells6 o := by
  obtain ⟨xs, k, hk, hxy, _, hxl, hf⟩ := DataW.trod_struct Tryz.underlying35 h
  obtain ⟨y0, y1, y2, y3, y4, y5, rfl⟩ := len6 (l := xs) hxl
  have g0 := hf 0 _ rfl
  have g1 := hf 1 _ rfl
  have g2 := hf 2 _ rfl
  have g3 := hf 3 _ rfl
  have g4 := hf 4 _ rfl
  have g5 := hf 5 _ rfl
  clear hf h
  replace g0 : DataW.trod enc Tryz.prog W 0 spare held k 32 (([v0, v1, v2, v3, v4, v5].drop 0).take (Tryz.prog.cellsOf 32)) = some y0 := g0
  replace g1 : DataW.trod enc Tryz.prog W 0 spare held k 3 (([v0, v1, v2, v3, v4, v5].drop 1).take (Tryz.prog.cellsOf 3)) = some y1 := g1
  replace g2 : DataW.trod enc Tryz.prog W 0 spare held k 33 (([v0, v1, v2, v3, v4, v5].drop 2).take (Tryz.prog.cellsOf 33)) = some y2 := g2
  replace g3 : DataW.trod enc Tryz.prog W 0 spare held k 31 (([v0, v1, v2, v3, v4, v5].drop 3).take (Tryz.prog.cellsOf 31)) = some y3 := g3
  replace g4 : DataW.trod enc Tryz.prog W 0 spare held k 31 (([v0, v1, v2, v3, v4, v5].drop 4).take (Tryz.prog.cellsOf 31)) = some y4 := g4
  replace g5 : DataW.trod enc Tryz.prog W 0 spare held k 31 (([v0, v1, v2, v3, v4, v5].drop 5).take (Tryz.prog.cellsOf 31)) = some y5 := g5
  rw [cells32] at g0
  rw [cells3] at g1
  rw [cells33] at g2
  rw [cells31] at g3 g4 g5
  obtain ⟨n0, e0, _, w0⟩ := DataW.trod_int Tryz.underlying32 g0
  obtain ⟨n1, e1, _, _⟩ := DataW.trod_int Tryz.underlying3 g1
  obtain ⟨n2, e2, _, _⟩ := DataW.trod_int Tryz.underlying33 g2
  obtain ⟨n3, e3, _, w3⟩ := DataW.trod_int Tryz.underlying31 g3
  obtain ⟨n4, e4, _, w4⟩ := DataW.trod_int Tryz.underlying31 g4
  obtain ⟨n5, e5, _, w5⟩ := DataW.trod_int Tryz.underlying31 g5
  have u0 := wf_u64 w0
  have u3 := wf_u32 w3
  have u4 := wf_u32 w4
  have u5 := wf_u32 w5
  refine ⟨⟨n0, n1, n2, n3, n4, n5⟩, ⟨⟨u3.1, u3.2, u4.1, u4.2, u5.1, u5.2⟩, u0.1, u0.2⟩, ?_⟩
  obtain rfl : v0 = .int .u64 n0 := (List.cons.inj (show [v0] = [_] from e0)).1
  obtain rfl : v1 = .int .i64 n1 := (List.cons.inj (show [v1] = [_] from e1)).1
  obtain rfl : v2 = .int .i64 n2 := (List.cons.inj (show [v2] = [_] from e2)).1
  obtain rfl : v3 = .int .u32 n3 := (List.cons.inj (show [v3] = [_] from e3)).1
  obtain rfl : v4 = .int .u32 n4 := (List.cons.inj (show [v4] = [_] from e4)).1
  obtain rfl : v5 = .int .u32 n5 := (List.cons.inj (show [v5] = [_] from e5)).1
  rfl
theorem open_obs {fuel : Nat} {A : Option Addr} {len cap : Nat} {x : DataW H × List MemPlace} (h : DataW.trod enc Tryz.prog W 0 spare held fuel 22 [.slice A len cap] = some x) :
    ∃ l : List S35, len = l.length ∧ l.length ≤ cap ∧ cap ≤ 9223372036854775807 ∧ Kd.C k35 W A l.length l ∧ ∀ o ∈ l, FitsT o := by
  rcases open_slice Tryz.underlying22 h with ⟨h0, _⟩ | ⟨a, len', cap', m, n, D, Pl, hcs, _, hl, hm, hmm, _, hx⟩
  · simp only [List.cons.injEq, Value.slice.injEq, and_true] at h0
    obtain ⟨rfl, rfl, rfl⟩ := h0
    exact ⟨[], rfl, by simp, by simp, Kd.C_nil _ _, by simp⟩
  · simp only [List.cons.injEq, Value.slice.injEq, and_true] at hcs
    obtain ⟨rfl, rfl, rfl⟩ := hcs
    have hlm : len ≤ m := by rw [hmm]; split <;> omega
    have hmax : cap ≤ 9223372036854775807 := by
      have e : maxLen = 9223372036854775807 := by decide
      omega
    have each : ∀ i, i < len → ∃ o : S35, FitsT o ∧ ∀ j u, (cells6 o)[j]? = some u → W.cell? (a.add (i * 6 + j)) = some u := by
      intro i hi
      obtain ⟨cs', h1, h2⟩ := hx i (by omega)
      rw [cells35] at h1
      obtain ⟨_, hlen, hcell⟩ := World.cells?_some h1
      obtain ⟨v0, v1, v2, v3, v4, v5, rfl⟩ := len6 hlen
      obtain ⟨o, ho, he⟩ := open_ob h2
      refine ⟨o, ho, fun j u hu => ?_⟩
      have hj : j < 6 := by
        rcases Nat.lt_or_ge j 6 with h' | h'
        · exact h'
        · rw [List.getElem?_eq_none (by simpa [cells6] using h')] at hu; simp at hu
      have := hcell j hj
      rw [Deep.add_add] at this
      rw [this, he, hu]
    haveI : Inhabited S35 := ⟨z35⟩
    obtain ⟨q, hq⟩ := choose_lt each
    refine ⟨(List.range len).map q, by simp, by simpa using hl, hmax, ⟨rfl, by simp; omega, fun hpos => ⟨a, rfl, fun j p hj => ?_⟩⟩, ?_⟩
    · rw [List.getElem?_map] at hj
      rcases Nat.lt_or_ge j len with h' | h'
      · rw [List.getElem?_range h'] at hj
        obtain rfl := Option.some.inj hj
        exact ⟨_, rfl, k35_mk _ _, fun i u hu => (hq j h').2 i u hu⟩
      · rw [List.getElem?_eq_none (by simpa using h')] at hj; simp at hj
    · intro o ho
      obtain ⟨i, hi, rfl⟩ := List.mem_map.1 ho
      exact (hq i (List.mem_range.1 hi)).1
end
end Go.Proofs.YtohighedgdlflaaGreatDoor

/- TraceTells holds, for every input. -/
set_option maxRecDepth 100000
namespace Go.Proofs.YtohighedgdlflaaGreatDoor
open Go.ChangeShapes Go.WideShapes Go.ChangeAt Go.RowKit
set_option linter.unusedVariables false
theorem own : ownKnob Tryz.prog.godebug = none := by kernel_rfl
theorem laidOut : laidOutB Tryz.prog = true := by kernel_rfl
theorem gPow : Tryz.prog.globalNamed "internal/strconv.uint64pow10" = some 1 := by kernel_rfl
theorem maxLen_cell {W : World} (h : W.ShapedOpen Tryz.prog) : ∃ m, W.cell? ⟨2, 0, none⟩ = some (.int .i64 m) := by
  obtain ⟨cs, hc, hs, hr⟩ := h.1 2 #[.int .i64 0] 3 (of_decide_eq_true (by kernel_rfl)) (by kernel_rfl)
  obtain ⟨ts, hts, _, hcell⟩ := hr (by kernel_rfl)
  have e : Tryz.prog.cellTypes Tryz.prog.depth 3 = some [3] := by kernel_rfl
  obtain rfl : [3] = ts := Option.some.inj (e.symm.trans hts)
  have h0 : 0 < cs.size := by rw [hs]; decide
  obtain ⟨u, hu, hk⟩ := hcell 0 cs[0] (Array.getElem?_eq_getElem h0)
  obtain rfl : 3 = u := Option.some.inj hu
  unfold Cell.ok at hk
  rw [Tryz.underlying3] at hk
  rw [cell_in hc, Array.getElem?_eq_getElem h0]
  cases hv : cs[0] <;> rw [hv] at hk <;> simp at hk
  obtain ⟨rfl, _⟩ := hk
  exact ⟨_, rfl⟩
theorem gPowType : (Tryz.prog.globals[1]?).map (·.type) = some 174 := by kernel_rfl
theorem powCells : Tryz.prog.cellsOf 174 = 20 := by kernel_rfl
/-- The table of powers, out of the row's list. -/
theorem pow_of {rest : List (String × DataW Unit)} {W : World} (h : laidMet Tryz.prog (("internal/strconv.uint64pow10", Rows.laid_internal_strconv_uint64pow10) :: rest) W) : PTab W :=
  Lib.tabIs_of_head (rest := rest) gPow gPowType Tryz.underlying174 Tryz.underlying32 cells32 powCells h
namespace tells
theorem hless : (Rows.traceTellsRow.laid.all fun x => x.2.handleName?.isNone) = true := by kernel_rfl
theorem contract (H : Type) (enc : TypeId × Value → H) (W : World) (base : Nat) (args : Array Value) (ds gs : List (DataW H)) (before : List MemPlace)
    (hval : ∀ (j : Nat) t v, Tryz.f3.params[j]? = some t → args[j]? = some v → Value.okWide Tryz.prog W .any base t v)
    (hW : DataW.Whole enc Tryz.prog Tryz.f3.params.toList Rows.traceTellsSpec.vars false W args.toList ds gs before) (hL : laidMetH Tryz.prog Rows.traceTellsRow.laid W) (hS : W.ShapedOpen Tryz.prog) :
    Calls Tryz.prog 3 args W fun e W' => ∃ v, e = .returned v ∧ Rows.traceTellsSpec.post enc Tryz.prog Tryz.f3 false true false false W args v W' := by
  have hW' := hW
  obtain ⟨p, q, hA0, hV, rfl, hfz, hnd⟩ := hW
  have hA : DataW.TrodAll enc Tryz.prog W 0 (fun _ => true) true Tryz.f3.params.toList args.toList ds p := hA0
  rw [Tryz.params3] at hA hval
  obtain ⟨v0, vs0, d0, ds0, p0, q0, hargs, rfl, rfl, h0, r0⟩ := trodAll_cons hA
  obtain ⟨rfl, rfl, rfl⟩ := trodAll_nil r0
  obtain rfl : args = #[v0] := by cases args; simp_all
  obtain ⟨rfl, rfl⟩ := trodVars_none hV
  obtain ⟨A, len, cap, rfl⟩ := okWide_slice Tryz.underlying22 (hval 0 22 v0 rfl rfl)
  have k0 := h0
  have lt0 : ∀ x ∈ p0, x.block < W.heap.size := by obtain ⟨m, hm⟩ := k0; exact DataW.trod_lt m _ _ _ hm
  obtain ⟨fuel, hf⟩ := h0
  obtain ⟨l, rfl, hlc, hcm, hC, hF⟩ := open_obs hf
  obtain ⟨m, hm⟩ := maxLen_cell hS
  rw [MakeChecks.laidMetH_plain _ _ _ hless] at hL
  have hT : PTab W := pow_of hL.tail.tail
  refine (tells_ok l A cap m W hT hm hC hlc hcm hF).mono fun e W' ⟨he, bel⟩ => ?_
  subst he
  exact ⟨_, rfl, _, _, _, [], _, [], hW', trodAll_mk1 (shut_bool Tryz.underlying4 _), (trodAll_cons_mk (Below.trod laidOut (by kernel_rfl) (of_decide_eq_true (by kernel_rfl)) k0 bel lt0) trodAll_mk0), rfl, bel.frame _, fun h => by cases h⟩
/-- A world for the witness: what the door's own run lays. -/
noncomputable def W0 (os : Os) : World :=
  { World.doorLaid Tryz.prog 4000 os with heap := (World.doorLaid Tryz.prog 4000 os).heap.modify 7 fun
      | .cells _ t fz => .cells ((Pinned.utf8FirstZ.map fun (z : Nat) => Value.int .u8 (z : Int)).toArray) t fz
      | o => o }
theorem laid_met (os : Os) (args : Array Value) : laidMet Tryz.prog Rows.traceTellsRow.laid ((W0 os).forCall (fun _ _ => 0) ⟨#[], args, []⟩).memory :=
  laidMet_of_run' 8 (by kernel_rfl) (by kernel_rfl)
theorem reads (os : Os) {H : Type} (enc : TypeId × Value → H) : ∃ places, DataW.whole enc Tryz.prog ((W0 os).forCall (fun _ _ => 0) ⟨#[], #[.slice none 0 0], []⟩).memory Tryz.f3.params.toList Rows.traceTellsSpec.vars false #[Value.slice none 0 0].toList 8 = some ([.nil], [], places) :=
  ⟨[], by kernel_rfl⟩
set_option maxRecDepth 100000 in
theorem lifted (os : Os) (started : os.Started) (H : Type) (enc : TypeId × Value → H) (F : Stop.Interp) :
    ReturnsInHanded {} Tryz.checked os 3 .any ((OpenSpec.ofChange Rows.traceTellsSpec).preRow enc Tryz.prog Tryz.f3 Rows.traceTellsRow.domain false Rows.traceTellsRow.laid) (((OpenSpec.ofChange Rows.traceTellsSpec).at F).post enc Tryz.prog Tryz.f3 false true false false) := by
  obtain ⟨places, hx⟩ := reads os enc
  refine returnsInHanded_of_row (C := Tryz.checked) (s := OpenSpec.ofChange Rows.traceTellsSpec) own started (by kernel_rfl) Tryz.func3
    (witness_row_at (enc := enc) (C := Tryz.checked) false (W0 os) #[.slice none 0 0] rfl (by kernel_rfl) (by kernel_rfl) (by kernel_rfl)
      (OpenSpec.preRow_of_cond 8 hx (by kernel_rfl) (fun k hk => by cases hk) (by kernel_rfl) (laid_met os _))) ?_
  intro W base args ds gs before hval hW _ _ _ hL hS _
  exact contract H enc W base args ds gs before hval hW hL hS
theorem said : Rows.TraceTellsSaid :=
  OpenClaim.holds_of_cond 3 Tryz.f3 rfl rfl rfl rfl rfl rfl rfl ⟨rfl, rfl, rfl, rfl, rfl⟩ rfl rfl rfl rfl rfl (by kernel_rfl) Tryz.func3 (by kernel_rfl)
    (of_decide_eq_true (by kernel_rfl)) (by unfold Func.isWrapper; first | (rw [if_pos (by decide +kernel)]; kernel_rfl) | (rw [if_neg (by decide +kernel)]; exact ⟨rfl, rfl⟩))
    (fun os started H enc _ F => by rw [OpenClaim.pre_eq_preRow]; exact lifted os started H enc F)
theorem plain (f : FuncId) (fn : Func) (hf : Tryz.pinned.checked.prog.funcNamed "cloister/cloisterlaw22.TraceTells" = some f) (hfn : Tryz.pinned.checked.prog.funcs[f]? = some fn) :
    true = Tryz.pinned.checked.prog.looks [] ∧ ∀ (j : Nat) t, fn.params[j]? = some t → Tryz.pinned.checked.prog.wantsStandIn t = false := by
  obtain rfl : f = 3 := Option.some.inj ((show Tryz.prog.funcNamed "cloister/cloisterlaw22.TraceTells" = some 3 by kernel_rfl).symm.trans hf) |>.symm
  obtain rfl : fn = Tryz.f3 := (Option.some.inj (Tryz.func3.symm.trans hfn)).symm
  refine ⟨by kernel_rfl, fun j t ht => ?_⟩
  rw [Tryz.params3] at ht
  obtain rfl : t = 22 := by simpa using Array.mem_of_getElem? ht
  exact (show Tryz.prog.wantsStandIn 22 = false by kernel_rfl)
/-- The card. -/
theorem card : Rows.TraceTellsCardSaid :=
  Claim7.holds_tied_plain_at .later [] _ _ _ _ said (fun _ h => by cases h) (by kernel_rfl) (fun _ h => by cases h) traceTells_row_tie rfl ⟨rfl, rfl⟩ (by kernel_rfl) rfl plain (by kernel_rfl)
end tells
/-- The law's card holds: TraceTells answers true for every row of observations. -/
theorem traceTells_card : Rows.TraceTellsCardSaid := tells.card
end Go.Proofs.YtohighedgdlflaaGreatDoor
