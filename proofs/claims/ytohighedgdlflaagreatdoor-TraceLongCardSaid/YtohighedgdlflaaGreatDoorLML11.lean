/- The law TraceLong of package trace answers true, for every two numbers. -/
import Derived.Test.YtohighedgdlflaaGreatDoorLML6
import Derived.Defers
import Derived.Recover
import Derived.Test.YtohighedgdlflaaGreatDoorLML10
import Derived.Test.YtohighedgdlflaaGreatDoorLML3
import Derived.Test.YtohighedgdlflaaGreatDoorLML4
import Derived.Deep.QuietTactic
import Derived.BigQuiet
import Derived.Laws.EntriesVeiled
import Derived.Deep.RegionHeld3
/- Parse's deferred function, where nothing panicked. -/
namespace Go.Proofs.YtohighedgdlflaaGreatDoor
open Go.Shelf Go.RowKit Go.Sort Go.Lib Go.Proofs.YtohighedgdlflaaGreatDoorW.PrintWords Go.Proofs.YtohighedgdlflaaGreatDoor.PR
set_option linter.unusedVariables false
set_option linter.unusedSimpArgs false
set_option maxRecDepth 100000 in
theorem p64_idle (A B : Addr) (w : World) :
    CallsD Tryz.prog 64 #[.pointer (some A), .pointer (some B)] .returning w fun e u' w' => e = .returned (.tuple #[]) ∧ u' = .returning ∧ w' = w := by
  refine callsD_of_wpS Tryz.func64 rfl fun c₀ cs hu => ?_
  apply wpS_seq
  apply wpS_region
  simp [wpOpsS, go_sem, recoverD, hu, Tryz.ntmps64, Exit.thenS]
  apply wpS_seq
  apply wpS_region
  simp [wpOpsS, go_sem, recoverD, hu, Tryz.ntmps64, Exit.thenS]
  refine wpS_cond (t := false) (by simp [Act.eval, Array.replicate]) ?_
  simp only [Bool.false_eq_true, if_false]
  refine wpS_of_wp (wp_skip ?_)
  cases c₀
  simp_all [bodyPostS, results]
end Go.Proofs.YtohighedgdlflaaGreatDoor

/- trace.Parse reads the lines of observations that may be. -/
namespace Go.Proofs.YtohighedgdlflaaGreatDoor
open Go.Proofs.YtohighedgdlflaaGreatDoorW.PrintLast Go.Shelf Go.RowKit Go.Sort Go.Lib Go.Proofs.YtohighedgdlflaaGreatDoorW.PrintWords Go.Proofs.YtohighedgdlflaaGreatDoor.PR
set_option linter.unusedVariables false
set_option linter.unusedSimpArgs false
theorem del_cut (x : ByteArray) (W : World) (hx : x.size ≤ 1000000000) :
    Calls Tryz.prog 66 #[.slice (some ⟨W.heap.size, 0, none⟩) (Lib.countB x ⟨#[32]⟩ + 1) (Lib.countB x ⟨#[32]⟩ + 1), .func (.func 67) #[] #[]] (W.alloc (.cells ((cutB x).map Value.string).toArray 9)) fun e w' =>
      e = .returned (.slice (some ⟨W.heap.size, 0, none⟩) (wordsB x).length (Lib.countB x ⟨#[32]⟩ + 1)) ∧ Below W.heap.size W w' ∧ W.heap.size < w'.heap.size ∧ ∀ (j : Nat) y, (wordsB x)[j]? = some y → w'.cell? ⟨W.heap.size, j, none⟩ = some (.string y) := by
  have hl := cutB_len x
  have hcs := count_small x ⟨#[32]⟩ (by decide)
  rw [← hl]
  have hd : (cutB x).length = (cutB x).toArray.size := by simp
  rw [hd]
  have hH : Holds Value.string (W.alloc (.cells ((cutB x).map Value.string).toArray 9)) W.heap.size 0 (cutB x).toArray := by
    intro j hj
    have hj2 : j < (cutB x).length := by simpa using hj
    rw [Nat.zero_add]
    have hb := blk_new W (.cells ((cutB x).map Value.string).toArray 9)
    constructor
    · simp only [World.cell?, hb]
      simp [hj2, getElem!_pos, List.getElem?_eq_getElem hj2]
    · simp only [World.frozen?, hb]; simp
  refine (del_ok W.heap.size _ (cutB x).toArray _ hH (by simp) (by rw [← hd, hl]; omega) (Nat.le_refl _)).mono ?_
  rintro e w' ⟨rfl, hb, hc⟩
  have hb2 : Below W.heap.size W w' := (below_alloc (Below.refl _ _) _).trans hb
  refine ⟨by rw [← hd]; rfl, hb2, ?_, hc⟩
  have := hb.size
  rw [World.size_alloc] at this
  omega
theorem R_sl {W : World} {B : Nat} {ok : Nat → Prop} {v : Value} {xs : List S35} (h : Kd.R k35 35 W B ok v xs) : ∃ A L c, v = .slice A L c := by
  obtain ⟨A, c, hv⟩ := Kd.R_slice h
  exact ⟨A, _, c, hv⟩
theorem cell_one {W : World} {B q : Nat} {v : Value} (h : W.heap[B]? = some (.cells #[v] q (0, 0))) : W.cell? ⟨B, 0, none⟩ = some v ∧ W.frozen? ⟨B, 0, none⟩ = false := by
  constructor
  · simp only [World.cell?, h]; rfl
  · simp only [World.frozen?, h]; rfl
/-- What holds while the lines are read. -/
structure PInv (w W : World) (n G : Nat) (cs : Array Value) (v : Value) (xs : List S35) : Prop where
  low : Below w.heap.size w W
  l : W.heap[w.heap.size]? = some (.cells #[v] 22 (0, 0))
  e : W.heap[w.heap.size + 1]? = some (.cells #[.int .i64 0] 25 (0, 0))
  r : Kd.R k35 35 W w.heap.size (fun _ => True) v xs
  frm : Frm W n
  pcs : W.heap[G]? = some (.cells cs 9 (0, 0))
theorem PInv.below {w W W' : World} {n G : Nat} {cs : Array Value} {v : Value} {xs : List S35} (h : PInv w W n G cs v xs) (hb : Below W.heap.size W W') : PInv w W' n G cs v xs :=
  ⟨h.low.trans (hb.mono h.low.size), (hb.block _ (heap_lt' h.l)).trans h.l, (hb.block _ (heap_lt' h.e)).trans h.e, Kd.R_below h.r hb, h.frm.below hb, (hb.block _ (heap_lt' h.pcs)).trans h.pcs⟩
theorem PInv.cellv {w W : World} {n G : Nat} {cs : Array Value} {v : Value} {xs : List S35} (h : PInv w W n G cs v xs) : W.cell? ⟨w.heap.size, 0, none⟩ = some v ∧ W.frozen? ⟨w.heap.size, 0, none⟩ = false := by
  have := h.l
  exact ⟨by simp [World.cell?, this], by simp [World.frozen?, this]⟩
theorem PInv.celle {w W : World} {n G : Nat} {cs : Array Value} {v : Value} {xs : List S35} (h : PInv w W n G cs v xs) : W.cell? ⟨w.heap.size + 1, 0, none⟩ = some (.int .i64 0) ∧ W.frozen? ⟨w.heap.size + 1, 0, none⟩ = false := by
  have := h.e
  exact ⟨by simp [World.cell?, this], by simp [World.frozen?, this]⟩
theorem PInv.grown {w W W1 : World} {n G : Nat} {cs : Array Value} {v : Value} {xs : List S35} (h : PInv w W n G cs v xs) (hg : W.grownBy W1 v.ownBlock) : W1.heap[w.heap.size]? = some (.cells #[v] 22 (0, 0)) :=
  (hg.block _ (heap_lt' h.l) (Kd.R_ne h.r h.l (by decide))).trans h.l
theorem k35_E {q : Nat} (h : q ∈ 35 :: k35.E) : q = 35 := by simpa [k35, Kd.iso, Kd.pair, Kd.int, Kd.scalar] using h
theorem PInv.put {w W W1 : World} {n G : Nat} {cs : Array Value} {v v1 : Value} {xs ys : List S35} (h : PInv w W n G cs v xs) (hg : W.grownBy W1 v.ownBlock) (hr : Kd.R k35 35 W1 w.heap.size (fun _ => True) v1 ys) (hb : Below w.heap.size w W1) (hn : w.heap.size < n) (hG : w.heap.size < G) : PInv w (W1.setCell ⟨w.heap.size, 0, none⟩ v1) n G cs v1 ys := by
  have hl := h.grown hg
  have mv : ∀ (k : Nat) (cells : Array Value) (q : Nat), w.heap.size ≠ k → q ≠ 35 → W.heap[k]? = some (.cells cells q (0, 0)) → (W1.setCell ⟨w.heap.size, 0, none⟩ v1).heap[k]? = some (.cells cells q (0, 0)) := fun k cells q hk hq hc => by
    rw [Below.heap_setCell _ _ _ _ (by simp; omega)]
    exact (hg.block _ (heap_lt' hc) (Kd.R_ne h.r hc (by omega))).trans hc
  refine ⟨hb.setCell (Nat.le_refl _) _, heap_setCell_same _ _ _ _ _ _ hl, mv _ _ _ (by omega) (by decide) h.e, Kd.R_set hr hl (fun q hq => by rw [k35_E hq]; decide) 0 v1, ⟨mv _ _ _ (by omega) (by decide) h.frm.names, mv _ _ _ (by omega) (by decide) h.frm.ptr, mv _ _ _ (by omega) (by decide) h.frm.tab⟩, mv _ _ _ (by omega) (by decide) h.pcs⟩
set_option maxRecDepth 100000 in
set_option maxHeartbeats 8000000 in
theorem parse_ok (s : ByteArray) (m : Int) (oss : List (List S35)) (w : World) (hs : s.size ≤ 1000000000) (hm : w.cell? ⟨2, 0, none⟩ = some (.int .i64 m)) (hlen : oss.length = (pieces s).length)
    (hP : ∀ (k : Nat) x os, (pieces s)[k]? = some x → oss[k]? = some os → PieceIs x os) (hn : oss.flatten.length ≤ 1000000) :
    Calls Tryz.prog 31 #[.string s] w fun e w' => ∃ v, e = .returned (.tuple #[v, .int .i64 0, .int .i64 0]) ∧ Kd.R k35 35 w' w.heap.size (fun _ => True) v oss.flatten ∧ Below w.heap.size w w' := by
  have HP := Lib.hid hP
  have HM := Lib.hid hm
  have h2 : 2 < w.heap.size := World.block_lt_of_cell? _ _ hm
  clear hP hm
  have hpl := pieces_len s
  obtain ⟨N, hN⟩ : ∃ N, N = (pieces s).length := ⟨_, rfl⟩
  have hmf : ∀ (fn : Fn) (first cap : Array Value) (w : World), (Instr.makeFunc fn first cap).run Tryz.prog w = .ok (.func fn first cap) w := fun _ _ _ _ => rfl
  go_enter_defers Tryz.func31, Tryz.ntmps31
  go_wp2_with fail
  have hA0 : ((w.alloc (.cells #[.slice none 0 0] 22)).alloc (.cells #[.int .i64 0] 25)).heap[w.heap.size]? = some (.cells #[.slice none 0 0] 22 (0, 0)) :=
    (below_alloc (Below.refl _ _) _ |>.block _ (by simp)).trans (blk_new w (.cells #[.slice none 0 0] 22))
  have hA1 : ((w.alloc (.cells #[.slice none 0 0] 22)).alloc (.cells #[.int .i64 0] 25)).heap[w.heap.size + 1]? = some (.cells #[.int .i64 0] 25 (0, 0)) := by
    have := blk_new (w.alloc (.cells #[.slice none 0 0] 22)) (.cells #[.int .i64 0] 25)
    rwa [World.size_alloc] at this
  have hB0 : Below w.heap.size w ((w.alloc (.cells #[.slice none 0 0] 22)).alloc (.cells #[.int .i64 0] 25)) := below_alloc (below_alloc (Below.refl _ _) _) _
  refine (forms_ok _).mono ?_
  rintro e w1 ⟨rfl, hfr, hb1⟩
  have HB1 := Lib.hid (hB0.trans (hb1.mono hB0.size))
  have HA1 := Lib.hid (And.intro ((hb1.block _ (heap_lt' hA0)).trans hA0) ((hb1.block _ (heap_lt' hA1)).trans hA1))
  simp only [World.size_alloc] at hfr ⊢
  generalize hn2 : w.heap.size + 1 + 1 = n at hfr ⊢
  have HF1 := Lib.hid hfr
  have hG1 : n + 2 < w1.heap.size := hfr.lt
  clear hA0 hA1 hB0 hfr hb1
  go_wp2_with fail
  refine (Tryz.strings_Split s ⟨#[10]⟩ m _ (by omega) ?_ (by decide)).mono ?_
  · rw [HB1.out.cell h2]; exact HM.out
  rintro e w2 ⟨rfl, rfl⟩
  have hNs : Lib.countB s ⟨#[10]⟩ + 1 ≤ 1000000001 := by
    have := count_small s ⟨#[10]⟩ (by decide)
    omega
  have hN' : (pieces s).length = N := hN.symm
  rw [← hpl, hN'] at hNs
  rw [← hpl, hN']
  have HN := Lib.hid hN'
  have hol : oss.length = N := hlen.trans hN'
  have HOL := Lib.hid hol
  clear hN hN' hpl hol hlen
  obtain ⟨cs, hcs⟩ : ∃ cs, cs = ((pieces s).map Value.string).toArray := ⟨_, rfl⟩
  have hI : PInv w (w1.alloc (.cells cs 9)) n w1.heap.size cs (.slice none 0 0) [] := by
    have hba := below_alloc (Below.refl w1.heap.size w1) (.cells cs 9)
    refine ⟨HB1.out.trans (hba.mono HB1.out.size), (hba.block _ (heap_lt' HA1.out.1)).trans HA1.out.1, (hba.block _ (heap_lt' HA1.out.2)).trans HA1.out.2, Kd.R_nil _ _ _ _ _, HF1.out.below hba, ?_⟩
    exact blk_new _ _
  have hcs2 : ((Lib.splitB ⟨#[10]⟩ 0 (Lib.countB s ⟨#[10]⟩) s).map Value.string).toArray = cs := by rw [hcs]; rfl
  rw [hcs2]
  have HI0 := Lib.hid hI
  have HCS := Lib.hid hcs
  clear HF1 HA1 HB1 hcs2 hcs hI
  go_wp2_with fail
  generalize w1.alloc (.cells cs 9) = w2 at HI0 ⊢
  go_loopw [4, 6, 7, 8, 14] (fun v4 v6 v7 v8 v14 wr => ∃ (k : Nat) (v : Value), k ≤ N ∧ v14 = .int .i64 k ∧ Hid (PInv w wr n w1.heap.size cs v (oss.take k).flatten)) (fun _ _ _ _ i _ => N - (RowKit.intOf i).toNat)
  case atStart => exact ⟨0, _, by omega, rfl, HI0⟩
  case round =>
    clear HI0
    obtain ⟨k, v, hk, rfl, HI⟩ := hrel
    by_cases hlt : k < N
    · obtain ⟨x, hx⟩ : ∃ x, (pieces s)[k]? = some x := ⟨_, List.getElem?_eq_getElem (by rw [HN.out]; exact hlt)⟩
      obtain ⟨os, hos⟩ : ∃ os, oss[k]? = some os := ⟨_, List.getElem?_eq_getElem (by rw [HOL.out]; exact hlt)⟩
      have HPI := Lib.hid (HP.out k x os hx hos)
      have hxs : x.size ≤ 1000000000 := Nat.le_trans (pieces_le (List.mem_of_getElem? hx)) hs
      have hcx : wr.cell? ⟨w1.heap.size, k, none⟩ = some (.string x) := by
        have h1 := HI.out.pcs
        have h2 := HCS.out
        simp only [World.cell?, h1, h2]
        simp [hx]
      have Hos := Lib.hid hos
      clear hx hos
      go_wp2_with fail
      refine (Tryz.strings_Split x ⟨#[32]⟩ m _ (by omega) ?_ (by decide)).mono ?_
      · rw [HI.out.low.cell h2]; exact HM.out
      rintro e w3 ⟨rfl, rfl⟩
      go_wp2_with fail
      refine (del_cut x _ hxs).mono ?_
      rintro e w4 ⟨rfl, hb4, hg4, hw4⟩
      have HI4 := Lib.hid (HI.out.below hb4)
      have HW4 := Lib.hid hw4
      have hcb : (wordsB x).length ≤ Lib.countB x ⟨#[32]⟩ + 1 := by rw [← cutB_len x]; exact List.length_filter_le _ _
      generalize wr.heap.size = g at hg4 HW4 ⊢
      generalize Lib.countB x ⟨#[32]⟩ + 1 = c at hcb ⊢
      clear hb4 hw4 HI hcx
      rcases HPI.out with ⟨hwe, hose⟩ | ⟨t, cl, q, p, a, b, hG, hwn, hose⟩
      · rw [hwe, List.length_nil]
        have HI5 : Hid (PInv w w4 n w1.heap.size cs v (oss.take (k + 1)).flatten) := by
          show PInv w w4 n w1.heap.size cs v (oss.take (k + 1)).flatten
          rw [List.take_add_one, Hos.out, hose]
          simpa using HI4.out
        clear HI4 HPI hwe hcb HW4
        go_wp2_with fail
        go_roundw
        case rel => exact ⟨k + 1, v, by omega, by go_num, HI5⟩
        case measure => simp [RowKit.intOf]; omega
      · obtain ⟨acc, hacc⟩ : ∃ acc, acc = (oss.take k).flatten := ⟨_, rfl⟩
        have hfl : (oss.take (k + 1)).flatten = acc ++ [obN t cl q p a b] := by
          rw [List.take_add_one, Hos.out, hose, hacc]; simp
        have hal : acc.length + 1 ≤ 1000000 := by
          have h1 : ((oss.take (k + 1)).flatten).length ≤ oss.flatten.length := by
            have h0 : oss.flatten = (oss.take (k + 1)).flatten ++ (oss.drop (k + 1)).flatten := by rw [← List.flatten_append, List.take_append_drop]
            rw [h0, List.length_append]; omega
          rw [hfl, List.length_append, List.length_singleton] at h1
          omega
        rw [← hacc] at HI4
        have Hfl := Lib.hid hfl
        clear hfl hacc hose HPI
        rw [hwn, wordsN_len t cl q p a b hG.q1 hG.q7] at hcb ⊢
        have hW0 := HW4.out 0 (decS t) (by rw [hwn]; rfl)
        have HW : Hid (∀ (j : Nat) x, (wordsN t cl q p a b)[j]? = some x → w4.cell? ⟨g, j, none⟩ = some (.string x)) := by
          intro j y hy
          exact HW4.out j y (by rw [hwn]; exact hy)
        have HG := Lib.hid hG
        have HI := HI4
        obtain ⟨hz0, hne⟩ := decS_first t
        have hpos : (0 : Int) < 4 + (nWords q : Int) := by omega
        have hg := hg4
        have hc := hcb
        clear hwn HW4 HI4 hG hg4 hcb
        go_upto_region 9 with (fail)
        clear hne hpos hW0
        have hc32 : k35.sz = 6 := rfl
        refine wp_region_noPanic ?_
        refine start_ (n := 7) (S := fun w' => w'.cell? ⟨w.heap.size, 0, none⟩ = some v) (ds := [6]) #[false, false, false, false, false, false, false] (by kernel_rfl) rfl rfl (HI.out.cellv.1) (fun hHeld => ?_)
        replace HI : Hid (PInv w w4.drew n w1.heap.size cs v acc) := HI.out.below (below_drew (Below.refl _ _))
        replace HW : Hid (∀ (j : Nat) x, (wordsN t cl q p a b)[j]? = some x → w4.drew.cell? ⟨g, j, none⟩ = some (.string x)) := HW.out
        replace hg : g < w4.drew.heap.size := hg
        generalize w4.drew = WY at HI HW hg hHeld ⊢
        refine pure_ (i := 1) (N := some 35) (v := ?_) (a' := ?_) #[false, true, false, false, false, false, false] rfl rfl (by kernel_rfl) (fun _ _ _ h => h) (Or.inl ⟨by rfl, ?_⟩) ?_ ?_
        rotate_left
        · intro w'
          go_simp
          with_reducible rfl
        rotate_left
        · simp only [Act.put, List.setIfInBounds_toArray, List.set_cons_zero, List.set_cons_succ, i64_w, i32_w]
          rfl
        refine pure_ (i := 2) (N := some 36) (v := ?_) (a' := ?_) #[false, true, true, false, false, false, false] rfl rfl (by kernel_rfl) (fun _ _ _ h => h) (Or.inl ⟨by rfl, ?_⟩) ?_ ?_
        rotate_left
        · intro w'
          go_simp
          with_reducible rfl
        rotate_left
        · simp only [Act.put, List.setIfInBounds_toArray, List.set_cons_zero, List.set_cons_succ, i64_w, i32_w]
          rfl
        refine take_ (i := 0) (N := some 34) (v := ?_) (a' := ?_) #[true, true, true, false, false, false, false] rfl rfl (by kernel_rfl) (fun _ _ _ h => h) (Or.inl ⟨by rfl, ?_⟩) hHeld ?_ ?_
        rotate_left
        · intro w' s0
          go_simp
          with_reducible rfl
        rotate_left
        · simp only [Act.put, List.setIfInBounds_toArray, List.set_cons_zero, List.set_cons_succ, i64_w, i32_w]
          rfl
        refine one_ (i := 3) (N := some 37) #[true, true, true, true, false, false, false] rfl rfl (by kernel_rfl) (by decide) (fun K hK => ?_)
        refine goes_ Tryz.func68 (by kernel_rfl) rfl #[.slice (some ⟨n + 2, 0, none⟩) 8 8, .slice (some ⟨g, 0, none⟩) (4 + nWords q) c] (by rfl) rfl rfl (by simp only [List.map_toArray, List.map_cons, List.map_nil]; rfl) ?_
        with_reducible refine (line_ok n g c t cl q p a b _ HG.out HI.out.frm hg hc HW.out).mono ?_
        rintro e w7 ⟨rfl, hb⟩
        refine ⟨_, rfl, ?_⟩
        replace HI := Lib.hid (HI.out.below hb)
        clear hb
        refine hK.out _ _ (HI.out.cellv.1) (fun hHeld => ?_)
        clear hK K
        refine norm_ (a' := ?_) ?_ ?_
        rotate_left
        · show Act.put _ (some 37) _ = _
          simp only [Act.put, List.setIfInBounds_toArray, List.set_cons_zero, List.set_cons_succ, i64_w, i32_w]
          rfl
        refine one_ (i := 4) (N := some 38) #[true, true, true, true, true, false, false] rfl rfl (by kernel_rfl) (by decide) (fun K hK => ?_)
        refine value_ (w1 := ?_) (v := ?_) (by rfl) rfl ?_ ?_
        rotate_left 2
        · go_simp
          constructor
          · rfl
          · rfl
        refine hK.out _ _ ((HI.out.below (below_alloc (Below.refl _ _) _)).cellv.1) (fun hHeld => ?_)
        clear hK K
        refine norm_ (a' := ?_) ?_ ?_
        rotate_left
        · show Act.put _ (some 38) _ = _
          simp only [Act.put, List.setIfInBounds_toArray, List.set_cons_zero, List.set_cons_succ, i64_w, i32_w]
          rfl
        refine one_ (i := 5) (N := some 39) #[true, true, true, true, true, true, false] rfl rfl (by kernel_rfl) (by decide) (fun K hK => ?_)
        refine Kd.R_append_step k35 (w0 := w) w.heap.size (by rfl) (.tmp 34) (.tmp 38) 22 35 (.agg #[(.int .u64 0), (.int .i64 0), (.int .i64 0), (.int .u32 0), (.int .u32 0), (.int .u32 0)]) 40 rfl Tryz.underlying22 info35 rfl (by decide) (by omega) v acc (obN t cl q p a b) [.int .u64 t, .int .i64 cl, .int .i64 q, .int .u32 p, .int .u32 a, .int .u32 b] (fun _ => True) (fun _ => False) (by rfl) (by rfl) (k35_mkM _ _ _ (obN t cl q p a b)) (fun _ hk => hk.elim) (fun _ _ => trivial) HI.out.r HI.out.low HI.out.low.size (by omega) ?_
        intro v9 w9 ho9 hb9 hg9 hat9
        have HO9 := Lib.hid ho9
        have HB9 := Lib.hid hb9
        have HG9 := Lib.hid hg9
        clear ho9 hb9 hg9 hat9
        obtain ⟨A9, L9, c9, rfl⟩ := R_sl HO9.out
        obtain ⟨hz9, hf9⟩ := cell_one (HI.out.grown HG9.out)
        refine hK.out _ _ (hz9) (fun hHeld => ?_)
        clear hK K
        refine norm_ (a' := ?_) ?_ ?_
        rotate_left
        · show Act.put _ (some 39) _ = _
          simp only [Act.put, List.setIfInBounds_toArray, List.set_cons_zero, List.set_cons_succ, i64_w, i32_w]
          rfl
        refine last_ (i := 6) (N := none) #[true, true, true, true, true, true, true] rfl rfl (by kernel_rfl) (by decide) (fun K hK => ?_)
        refine skip_ (w1 := ?_) (by rfl) rfl ?_ ?_
        rotate_left
        · go_simp
          rfl
        refine hK.out _ _ ?_
        clear hK K
        refine done_ (by kernel_rfl) ?_
        refine NoPanic.normal ?_
        have HI9 : Hid (PInv w (w9.setCell ⟨w.heap.size, 0, none⟩ (.slice A9 L9 c9)) n w1.heap.size cs (.slice A9 L9 c9) (oss.take (k + 1)).flatten) := by
          show PInv w (w9.setCell ⟨w.heap.size, 0, none⟩ (.slice A9 L9 c9)) n w1.heap.size cs (.slice A9 L9 c9) (oss.take (k + 1)).flatten
          rw [Hfl.out]
          exact HI.out.put HG9.out HO9.out HB9.out (by omega) (by omega)
        clear HI HO9 HG9 HB9 hz9 hf9 HW HG hHeld
        go_wp2_with fail
        go_roundw
        case rel => exact ⟨k + 1, _, by omega, by go_num, HI9⟩
        case measure => simp [RowKit.intOf]; omega
    · obtain rfl : k = N := by omega
      obtain ⟨A0, L0, c0, rfl⟩ := R_sl HI.out.r
      obtain ⟨hcv, hfv⟩ := HI.out.cellv
      obtain ⟨hce, hfe⟩ := HI.out.celle
      have hll := HI.out.l
      have hee := HI.out.e
      have hl1 := heap_setCell_same _ _ 0 _ _ (.slice A0 L0 c0) hll
      have he1 : (wr.setCell ⟨w.heap.size, 0, none⟩ (.slice A0 L0 c0)).heap[w.heap.size + 1]? = some (.cells #[.int .i64 0] 25 (0, 0)) := by
        rw [Below.heap_setCell _ _ _ _ (by simp)]; exact hee
      have hl2 : ((wr.setCell ⟨w.heap.size, 0, none⟩ (.slice A0 L0 c0)).setCell ⟨w.heap.size + 1, 0, none⟩ (.int .i64 0)).heap[w.heap.size]? = some (.cells #[.slice A0 L0 c0] 22 (0, 0)) := by
        rw [Below.heap_setCell _ _ _ _ (by simp)]; exact hl1
      have he2 := heap_setCell_same _ _ 0 _ _ (.int .i64 0) he1
      have hr2 : Kd.R k35 35 ((wr.setCell ⟨w.heap.size, 0, none⟩ (.slice A0 L0 c0)).setCell ⟨w.heap.size + 1, 0, none⟩ (.int .i64 0)) w.heap.size (fun _ => True) (.slice A0 L0 c0) oss.flatten := by
        have h1 := HI.out.r
        rw [List.take_of_length_le (by rw [HOL.out]; exact Nat.le_refl _)] at h1
        exact Kd.R_set (Kd.R_set h1 hll (fun q hq => by rw [k35_E hq]; decide) 0 _) he1 (fun q hq => by rw [k35_E hq]; decide) 0 _
      have hb2 : Below w.heap.size w ((wr.setCell ⟨w.heap.size, 0, none⟩ (.slice A0 L0 c0)).setCell ⟨w.heap.size + 1, 0, none⟩ (.int .i64 0)) := (HI.out.low.setCell (Nat.le_refl _) _).setCell (by simp) _
      have hce1 := (cell_one he1)
      obtain ⟨hce1, hfe1⟩ := hce1
      clear hl1 he1 hll hee HI hce hfe
      have Hr2 := Lib.hid hr2
      have Hb2 := Lib.hid hb2
      have Hl2 := Lib.hid hl2
      have He2 := Lib.hid he2
      clear hr2 hb2 hl2 he2
      go_wp2_with fail
      generalize ((wr.setCell ⟨w.heap.size, 0, none⟩ (.slice A0 L0 c0)).setCell ⟨w.heap.size + 1, 0, none⟩ (.int .i64 0)) = wF at Hr2 Hb2 Hl2 He2 ⊢
      refine leaves_cons (f := 64) (args := #[.pointer (some ⟨w.heap.size, 0, none⟩), .pointer (some ⟨w.heap.size + 1, 0, none⟩)]) (by simp) (by simp [go_sem]) ?_
      refine (p64_idle _ _ _).mono ?_
      rintro e u' w'' ⟨rfl, rfl, rfl⟩
      obtain ⟨cv, _⟩ := cell_one Hl2.out
      obtain ⟨ce, _⟩ := cell_one He2.out
      have hres : Tryz.f31.results = #[.cell 2 22, .cell 3 25, .tmp 4] := rfl
      simp [Leaves, settle, results, hres, go_sem, cv, ce]
      exact ⟨Hr2.out, Hb2.out⟩
end Go.Proofs.YtohighedgdlflaaGreatDoor

/- trace.Text writes textS. -/
namespace Go.Proofs.YtohighedgdlflaaGreatDoor
open Go.Shelf Go.RowKit Go.Sort Go.Lib Go.Proofs.YtohighedgdlflaaGreatDoorW.PrintWords Go.Proofs.YtohighedgdlflaaGreatDoor.PR
set_option linter.unusedVariables false
set_option linter.unusedSimpArgs false
set_option maxRecDepth 100000 in
set_option maxHeartbeats 8000000 in
theorem text_ok (l : List S35) (A : Option Addr) (c : Nat) (w : World) (hT : PTab w) (hR : Kd.C k35 w A l.length l) (hF : ∀ o ∈ l, FitsT o) (hl : l.length ≤ 1000000) :
    Calls Tryz.prog 13 #[.slice A l.length c] w (TextR w l) := by
  have HR := Lib.hid hR
  have HT := Lib.hid hT
  have HF := Lib.hid hF
  have hm := Kd.C_max hR
  clear hR hT hF
  go_enter Tryz.func13, Tryz.ntmps13
  go_wp2_with fail
  have hbl : Hid (Below w.heap.size w (w.alloc (.cells #[.pointer none, .slice none 0 0] 67))) := below_alloc (Below.refl _ _) _
  have hnb : Hid (Lib.IsBuilderF 67 5 w.heap.size w.heap.size [] (w.alloc (.cells #[.pointer none, .slice none 0 0] 67))) := builder_new w
  refine (forms_ok _).mono ?_
  rintro e w1 ⟨rfl, hfr, hb1⟩
  rw [World.size_alloc] at hfr
  have HF1 := Lib.hid hfr
  have HB1 := Lib.hid (hbl.out.trans (hb1.mono hbl.out.size))
  have hNB1 : Lib.IsBuilderF 67 5 w.heap.size w.heap.size [] w1 := builder_below hnb.out hb1
  have HNB1 := Lib.hid hNB1
  clear hnb hbl hfr hb1 hNB1
  simp only [World.size_alloc]
  go_wp2_with fail
  go_loopw [7, 8, 9, 13] (fun v7 v8 v9 v13 wr => ∃ k : Nat, k ≤ l.length ∧ v13 = .int .i64 k ∧ Hid ((l.take k).all mayB = true) ∧ Hid (Frm wr (w.heap.size + 1)) ∧ Hid (Lib.IsBuilderF 67 5 w.heap.size w.heap.size (Lib.byteCells (textB (l.take k))) wr) ∧ Hid (Below w.heap.size w wr)) (fun _ _ _ i _ => l.length - (RowKit.intOf i).toNat)
  case atStart => exact ⟨0, by omega, rfl, rfl, HF1, HNB1, HB1⟩
  case round =>
    clear HF1 HNB1 HB1
    obtain ⟨k, hk, rfl, hall, HFr, HNB, HB⟩ := hrel
    by_cases hlt : k < l.length
    · obtain ⟨o, ho⟩ : ∃ o, o = rd_T35 l k := ⟨_, rfl⟩
      have ho2 : Hid (l[k]? = some o) := by
        show l[k]? = some o
        rw [ho]; simp [rd_T35, List.getD_eq_getElem?_getD, List.getElem?_eq_getElem hlt]
      obtain ⟨ad, rfl, c0, c1, c2, c3, c4, c5⟩ := at_T35 (Kd.C_below HR.out HB.out) k (by omega) (by omega)
      rw [← ho] at c0 c1 c2 c3 c4 c5
      simp only [Int.toNat_natCast] at c0 c1 c2 c3 c4 c5
      clear ho
      have hfit := Lib.hid (HF.out o (List.mem_of_getElem? ho2.out))
      go_wp2_with fail
      refine (may_ok o _).mono ?_
      rintro e w2 ⟨rfl, hb2⟩
      have hbo : Hid (Below w.heap.size w (wr.alloc (.cells #[.int .u64 o.f0, .int .i64 o.f1, .int .i64 o.f2, .int .u32 o.f3, .int .u32 o.f4, .int .u32 o.f5] 35))) := below_alloc HB.out _
      cases hmb : mayB o with
      | false =>
        have HB2 := Lib.hid (hbo.out.trans (hb2.mono hbo.out.size))
        have hbad : Hid (l.all mayB = false) := by
          show l.all mayB = false
          rw [List.all_eq_false]
          exact ⟨o, List.mem_of_getElem? ho2.out, by rw [hmb]; decide⟩
        clear hbo hb2
        go_wp2_with fail
        refine bodyPost_ret (results_tmp2 rfl _ _ _) rfl ?_
        exact TextR.bad hbad.out HB2.out
      | true =>
        have HB2 := Lib.hid (hbo.out.trans (hb2.mono hbo.out.size))
        have hlow : Below wr.heap.size wr w2 := (below_alloc (Below.refl _ _) _).trans (hb2.mono (by simp))
        have HFr2 := Lib.hid (HFr.out.below hlow)
        have hO6 : Ob6 w2 wr.heap.size o := by
          unfold Ob6
          rw [hb2.block _ (by simp)]
          exact blk_new _ _
        obtain ⟨t, cl, q, p, a, b, hq1, hq7, hcl, ht, hp, ha, hb, h0, h1, h2, h3, h4, h5, hk1, hk2⟩ : ∃ t cl q p a b : Nat, 1 ≤ q ∧ q ≤ 7 ∧ cl < 10 ∧ t < 18446744073709551616 ∧ p < 4294967296 ∧ a < 4294967296 ∧ b < 4294967296 ∧ o.f0 = t ∧ o.f1 = cl ∧ o.f2 = q ∧ o.f3 = p ∧ o.f4 = a ∧ o.f5 = b ∧ (q = 3 → a < 7) ∧ (q = 4 → a < 100) := by
          obtain ⟨⟨f1, f2, f3, f4, f5, f6⟩, f7, f8⟩ := hfit.out
          have hm2 := hmb
          unfold mayB kindB at hm2
          simp only [Bool.and_eq_true, decide_eq_true_eq] at hm2
          obtain ⟨⟨⟨m1, m2⟩, m3⟩, m4⟩ := hm2
          have hq : 1 ≤ o.f2 ∧ o.f2 ≤ 7 ∧ (o.f2 = 3 → o.f4 ≤ 6) ∧ (o.f2 = 4 → o.f4 < 32) := by
            split at m4
            · omega
            · split at m4
              · omega
              · split at m4
                · simp at m4; omega
                · split at m4
                  · simp at m4; omega
                  · split at m4
                    · omega
                    · split at m4
                      · omega
                      · split at m4
                        · omega
                        · simp at m4
          exact ⟨o.f0.toNat, o.f1.toNat, o.f2.toNat, o.f3.toNat, o.f4.toNat, o.f5.toNat, by omega, by omega, by omega, by omega, by omega, by omega, by omega, by omega, by omega, by omega, by omega, by omega, by omega, by omega, by omega⟩
        obtain ⟨mw, fvw, nw, mr, fvr, g0, g1, g2, g3, hfw⟩ := frm_row HFr2.out q hq1 hq7
        clear c0 c1 c2 c3 c4 c5
        obtain ⟨c0, c1, c2, c3, c4, c5⟩ := hO6.cells
        have hOlt : wr.heap.size < w2.heap.size := heap_lt hO6
        rw [h0] at c0; rw [h1] at c1; rw [h2] at c2; rw [h3] at c3; rw [h4] at c4; rw [h5] at c5
        have Hfw := Lib.hid hfw
        obtain ⟨wd, hwd⟩ : ∃ wd, wd = kindS.getD q ByteArray.empty := ⟨_, rfl⟩
        rw [← hwd] at g0
        have Hwd := Lib.hid hwd
        have Hk12 := Lib.hid (And.intro hk1 hk2)
        have Hhs := Lib.hid (And.intro h0 (And.intro h1 (And.intro h2 (And.intro h3 (And.intro h4 h5)))))
        have hq8 : (0 : Int) ≤ q ∧ (q : Int) < 8 := by omega
        have HL2 := Lib.hid hlow
        clear hwd hfw hlow hb2 hbo hfit hk1 hk2 h0 h1 h2 h3 h4 h5
        have hcell : Hid (∀ W, Below (w2.heap.size + 1) (w2.alloc (.cells #[.string wd, .func (.func mw) #[] fvw, .int .i64 nw, .func (.func mr) #[] fvr] 74)) W → W.cell? ⟨wr.heap.size, 0, none⟩ = some (.int .u64 t) ∧ W.cell? ⟨wr.heap.size, 1, none⟩ = some (.int .i64 cl) ∧ W.cell? ⟨wr.heap.size, 3, none⟩ = some (.int .u32 p) ∧ W.cell? ⟨w2.heap.size, 0, none⟩ = some (.string wd) ∧ PTab W) := by
          intro W hW
          have hA : Below w2.heap.size w2 (w2.alloc (.cells #[.string wd, .func (.func mw) #[] fvw, .int .i64 nw, .func (.func mr) #[] fvr] 74)) := below_alloc (Below.refl _ _) _
          have hB : Below w2.heap.size w2 W := hA.trans (hW.mono (by omega))
          refine ⟨?_, ?_, ?_, ?_, HT.out.below (HB2.out.trans (hB.mono HB2.out.size))⟩
          · rw [hB.cell (by simp; omega)]; exact c0
          · rw [hB.cell (by simp; omega)]; exact c1
          · rw [hB.cell (by simp; omega)]; exact c3
          · rw [hW.cell (by simp)]; simp [World.cell?_alloc_new]
        have hcell2 : Hid (∀ W, Below (w2.heap.size + 1) (w2.alloc (.cells #[.string wd, .func (.func mw) #[] fvw, .int .i64 nw, .func (.func mr) #[] fvr] 74)) W → W.cell? ⟨wr.heap.size, 0, none⟩ = some (.int .u64 t) ∧ W.cell? ⟨wr.heap.size, 1, none⟩ = some (.int .i64 cl) ∧ W.cell? ⟨wr.heap.size, 2, none⟩ = some (.int .i64 q) ∧ W.cell? ⟨wr.heap.size, 3, none⟩ = some (.int .u32 p) ∧ W.cell? ⟨wr.heap.size, 4, none⟩ = some (.int .u32 a) ∧ W.cell? ⟨wr.heap.size, 5, none⟩ = some (.int .u32 b) ∧ W.cell? ⟨w2.heap.size, 1, none⟩ = some (.func (.func mw) #[] fvw)) := by
          intro W hW
          have hA : Below w2.heap.size w2 (w2.alloc (.cells #[.string wd, .func (.func mw) #[] fvw, .int .i64 nw, .func (.func mr) #[] fvr] 74)) := below_alloc (Below.refl _ _) _
          have hB : Below w2.heap.size w2 W := hA.trans (hW.mono (by omega))
          refine ⟨?_, ?_, ?_, ?_, ?_, ?_, ?_⟩
          · rw [hB.cell (by simp; omega)]; exact c0
          · rw [hB.cell (by simp; omega)]; exact c1
          · rw [hB.cell (by simp; omega)]; exact c2
          · rw [hB.cell (by simp; omega)]; exact c3
          · rw [hB.cell (by simp; omega)]; exact c4
          · rw [hB.cell (by simp; omega)]; exact c5
          · rw [hW.cell (by simp)]; simp [World.cell?_alloc_new]
        go_upto_region 9 with (fail)
        clear g0 g1 g2 g3 c0 c1 c2 c3 c4 c5 hq8
        go_cut [9] (fun v9 wc => Hid (Kd.string.R 9 wc (w2.heap.size + 1) (fun _ => True) v9 [decS t, decS cl, wd, hexS p]) ∧ Hid (Below (w2.heap.size + 1) (w2.alloc (.cells #[.string wd, .func (.func mw) #[] fvw, .int .i64 nw, .func (.func mr) #[] fvr] 74)) wc))
        case first =>
          clear hcell2 HR HT HF HFr HNB HB ho2 hall HB2 HFr2 Hfw Hwd Hk12 Hhs
          have HS : Hid (∀ W, Below (w2.heap.size + 1) (w2.alloc (.cells #[.string wd, .func (.func mw) #[] fvw, .int .i64 nw, .func (.func mr) #[] fvr] 74)) W → (W.cell? ⟨wr.heap.size, 0, none⟩ = some (.int .u64 t) ∧ W.cell? ⟨wr.heap.size, 1, none⟩ = some (.int .i64 cl) ∧ W.cell? ⟨wr.heap.size, 3, none⟩ = some (.int .u32 p) ∧ W.cell? ⟨w2.heap.size, 0, none⟩ = some (.string wd) ∧ Hid (PTab W) ∧ Hid (Below (w2.heap.size + 1) (w2.alloc (.cells #[.string wd, .func (.func mw) #[] fvw, .int .i64 nw, .func (.func mr) #[] fvr] 74)) W))) := fun W hW => by
            obtain ⟨e0, e1, e3, ef, ep⟩ := hcell.out _ hW
            exact ⟨e0, e1, e3, ef, ep, hW⟩
          have HB0 := Lib.hid (Below.refl (w2.heap.size + 1) (w2.alloc (.cells #[.string wd, .func (.func mw) #[] fvw, .int .i64 nw, .func (.func mr) #[] fvr] 74)))
          clear hcell
          go_region_held3 (fun W => W.cell? ⟨wr.heap.size, 0, none⟩ = some (.int .u64 t) ∧ W.cell? ⟨wr.heap.size, 1, none⟩ = some (.int .i64 cl) ∧ W.cell? ⟨wr.heap.size, 3, none⟩ = some (.int .u32 p) ∧ W.cell? ⟨w2.heap.size, 0, none⟩ = some (.string wd) ∧ Hid (PTab W) ∧ Hid (Below (w2.heap.size + 1) (w2.alloc (.cells #[.string wd, .func (.func mw) #[] fvw, .int .i64 nw, .func (.func mr) #[] fvr] 74)) W))
            (first
              | exact HS.out _ HB0.out
              | exact HS.out _ (below_drew HB0.out)
              | exact HS.out _ HB5.out
              | exact HS.out _ HB7.out
              | exact HS.out _ (HB7.out.alloc (by have hz := HB7.out.size; simp at hz; omega) _))
            (first
              | (go_at_call 34; with_reducible refine (fmt_ok t ht _ (HS.out _ (below_drew HB0.out)).2.2.2.2.1.out).mono ?_; rintro e w5 ⟨rfl, hb5⟩; have HB5 := Lib.hid ((below_drew HB0.out).trans (hb5.mono (by simp))))
              | (go_at_call 35; with_reducible refine (Tryz.strconv_Itoa_small cl (by omega) _).mono ?_; rintro e w6 ⟨rfl, rfl⟩)
              | (go_at_call 36; with_reducible refine (hex_ok p hp _).mono ?_; rintro e w7 ⟨rfl, hb7⟩; have HB7 := Lib.hid (HB5.out.trans (hb7.mono (by have hz := HB5.out.size; simp at hz; omega)))))
          all_goals
            go_wp2_with fail
            go_meet
            case rel =>
              refine ⟨?_, ?_⟩
              · exact R_fresh _ [decS t, decS cl, wd, hexS p] (by have hz := HB7.out.size; simp at hz; omega) rfl (by simp) rfl
              · exact HB7.out.alloc (by have hz := HB7.out.size; simp at hz; omega) _
        case rest =>
          obtain ⟨HV, HBc⟩ := hcut
          obtain ⟨A9, cp9, rfl, hc9, hC9⟩ := Kd.R_reads HV.out
          have hent : ∀ args w, (callFunc mw args).run Tryz.prog w = .ok (.enter mw args) w := enter_any hq1 hq7 Hfw.out
          have hwr : Hid (∀ W, Below (w2.heap.size + 1) (w2.alloc (.cells #[.string wd, .func (.func mw) #[] fvw, .int .i64 nw, .func (.func mr) #[] fvr] 74)) W → Calls Tryz.prog mw (#[.agg #[.int .u64 t, .int .i64 cl, .int .i64 q, .int .u32 p, .int .u32 a, .int .u32 b]] ++ fvw) W (WrR W (writeL o))) := by
            intro W hW
            obtain ⟨h0, h1, h2, h3, h4, h5⟩ := Hhs.out
            rw [writeL_eq h2 h4 h5]
            refine write_any (HFr2.out.below ?_) t cl p a b hq1 hq7 ha hb Hk12.out.1 Hk12.out.2 Hfw.out
            exact (below_alloc (Below.refl w2.heap.size w2) _).trans (hW.mono (by omega))
          obtain ⟨c0, c1, c2, c3, c4, c5, f1⟩ := hcell2.out _ HBc.out
          have HLc : Hid (Below wr.heap.size wr wc) := HL2.out.trans ((below_alloc (Below.refl w2.heap.size w2) _ |>.trans (HBc.out.mono (by omega))).mono HL2.out.size)
          have HCc : Hid (Below w.heap.size w wc) := HB.out.trans (HLc.out.mono HB.out.size)
          have hsz : wr.heap.size ≤ wc.heap.size ∧ w2.heap.size + 1 ≤ wc.heap.size := ⟨HLc.out.size, by have hz := HBc.out.size; simp at hz; omega⟩
          go_wp2_with fail
          refine (hwr.out _ HBc.out).mono ?_
          rintro e w10 ⟨v10, rfl, hr10, hb10⟩
          clear c0 c1 c2 c3 c4 c5 f1 hcell hcell2
          obtain ⟨A10, c10, rfl, hc10, hC10⟩ := Kd.R_reads hr10
          have HC10 := Lib.hid hC10
          have HV10 : Hid (Kd.string.R 9 w10 (w2.heap.size + 1) (fun _ => True) (.slice A9 [decS t, decS cl, wd, hexS p].length cp9) [decS t, decS cl, wd, hexS p]) := Kd.R_below HV.out hb10
          have HL10 : Hid (Below wr.heap.size wr w10) := HLc.out.trans (hb10.mono hsz.1)
          have HB10 : Hid (Below w.heap.size w w10) := HCc.out.trans (hb10.mono HCc.out.size)
          have hs10 : w2.heap.size + 1 ≤ w10.heap.size := by have := hb10.size; omega
          have hwl : (writeL o).length ≤ 2 := by unfold writeL; repeat' (first | split | simp)
          clear hr10 hb10 hC10 hC9 HV HBc hwr hent
          go_wp2_with (at_builtin; refine Kd.R_append_row Value.string ByteArray.empty (w0 := wr) wr.heap.size rfl (.tmp 37) (.tmp 41) 78 9 (.string ⟨#[]⟩) 16 rfl Tryz.underlying78 info9 rfl (by decide) _ _ (writeL o) A10 _ c10 (fun _ => True) rfl rfl (fun _ _ => trivial) (Kd.R_lower HV10.out (by omega)) HC10.out HL10.out HL10.out.size (by simp; omega) ?_; intro v11 w11 hr11 hb11 hg11 hat11; have HR11 := Lib.hid hr11; have HL11 := Lib.hid hb11; clear hr11 hb11 hg11 hat11)
          have hws : [decS t, decS cl, wd, hexS p] ++ writeL o = wordsL o := by
            obtain ⟨h0, h1, h2, h3, h4, h5⟩ := Hhs.out
            simp [wordsL, headL, h0, h1, h2, h3, Hwd.out]
          have HR11' := HR11.out
          rw [hws] at HR11'
          obtain ⟨g11, c11, rfl, hcp11, hg11, hcell11⟩ := R_cells HR11' (by simp [wordsL, headL])
          have HX11 := Lib.hid hcell11
          have hll : (lineB o).length ≤ 200 := by
            obtain ⟨h0, h1, h2, h3, h4, h5⟩ := Hhs.out
            exact words_len o (by omega) (by omega) (by omega)
          have hjl : (Lib.join ((wordsL o).map (·.data.toList)) [32]).length ≤ 199 := by unfold lineB at hll; rw [List.length_append] at hll; simp at hll; omega
          have HJ := Lib.hid hjl
          have hwl2 : (wordsL o).length ≤ 6 := by rw [← hws, List.length_append]; simp; omega
          clear HR11 HR11' hcell11 hws hjl HC10 HV10
          refine (Tryz.strings_Join g11 0 c11 (wordsL o) _ _ HX11.out hg11 (by omega) hcp11 (by have := HJ.out; simpa using Nat.le_trans this (by omega))).mono ?_
          rintro e w12 ⟨rfl, hb12⟩
          have HL12 := Lib.hid (HL11.out.trans (hb12.mono HL11.out.size))
          clear HX11 hb12 HL11
          obtain ⟨ln, hln⟩ : ∃ ln : ByteArray, ln = ⟨(Lib.join ((wordsL o).map (·.data.toList)) [32]).toArray⟩ := ⟨_, rfl⟩
          have hlb : (ln ++ ⟨#[10]⟩ : ByteArray).data.toList = lineB o := by rw [hln]; simp [lineB]
          have h10 : (⟨#[10]⟩ : ByteArray).size = 1 := rfl
          have hls : ln.size ≤ 199 := by rw [hln]; simpa [ByteArray.size] using HJ.out
          have hlz : (ln ++ ⟨#[10]⟩ : ByteArray).size ≤ 200 := by rw [ByteArray.size_append, h10]; omega
          have Hlb := Lib.hid hlb
          have hadd : ∀ W : World, (Op.stringOp .add ln ⟨#[10]⟩).run Tryz.prog W = .ok (.string (ln ++ ⟨#[10]⟩)) W := fun W => run_string_add_sum W _ _ (by rw [h10]; omega)
          rw [← hln]
          clear hln hls hlb HJ
          go_wp2_with fail
          have hbuf : (Lib.byteCells (textB (l.take k))).length ≤ 200 * 1000000 := by
            rw [Lib.byteCells_length]
            refine Nat.le_trans (text_len _ (fun x hx => ?_)) ?_
            · have hx2 := HF.out x (List.mem_of_mem_take hx)
              obtain ⟨⟨f1, f2, f3, f4, f5, f6⟩, f7, f8⟩ := hx2
              have := List.all_eq_true.1 hall.out x hx
              unfold mayB at this
              simp only [Bool.and_eq_true, decide_eq_true_eq] at this
              exact words_len x (by omega) (by omega) (by omega)
            · rw [List.length_take]; exact Nat.mul_le_mul_left _ (by omega)
          have HB12 := Lib.hid (HB.out.trans (HL12.out.mono HB.out.size))
          have hW := Tryz.Builder_WriteString_k w.heap.size w.heap.size _ (ln ++ ⟨#[10]⟩) w12 (builder_below HNB.out HL12.out) (by omega) HB12.out.size
          obtain ⟨lz, hz⟩ : ∃ lz : ByteArray, lz = ln ++ ⟨#[10]⟩ := ⟨_, rfl⟩
          rw [← hz] at hW ⊢
          have Hz := Lib.hid hz
          clear hz
          refine hW.mono ?_
          clear hW
          rintro e w13 ⟨rfl, hbu, hb13, hok13⟩
          have HFr13 := Lib.hid ((HFr.out.below HL12.out).others hok13 (by omega))
          have HB13 := Lib.hid (HB12.out.trans hb13)
          have hall13 : Hid ((l.take (k + 1)).all mayB = true) := by
            show (l.take (k + 1)).all mayB = true
            rw [List.take_add_one, ho2.out]
            simp [hall.out, hmb]
          have HNB13 : Hid (Lib.IsBuilderF 67 5 w.heap.size w.heap.size (Lib.byteCells (textB (l.take (k + 1)))) w13) := by
            have h1 := hbu
            rw [Lib.strCells_eq, Hz.out, Hlb.out] at h1
            have h2 : Lib.byteCells (textB (l.take (k + 1))) = Lib.byteCells (textB (l.take k)) ++ Lib.byteCells (lineB o) := by
              rw [List.take_add_one, ho2.out]
              simp [textB, Lib.byteCells]
            show Lib.IsBuilderF 67 5 w.heap.size w.heap.size (Lib.byteCells (textB (l.take (k + 1)))) w13
            rw [h2]
            exact .inr h1
          clear hbu hb13 hok13 hbuf hall HNB HB HFr HL12 HB12 hadd
          go_wp2_with fail
          go_roundw
          case rel => exact ⟨k + 1, by omega, by go_num, hall13, HFr13, HNB13, HB13⟩
          case measure => simp [RowKit.intOf]; omega
    · obtain rfl : k = l.length := by omega
      go_wp2_with fail
      refine (Tryz.Builder_String_any_f w.heap.size w.heap.size _ wr HNB.out HB.out.size).mono ?_
      rintro e w14 ⟨rfl, _, hb14⟩
      have HB14 := Lib.hid (HB.out.trans hb14)
      clear hb14
      go_wp2_with fail
      refine bodyPost_ret (results_tmp2 rfl _ _ _) rfl ?_
      have h1 := hall.out
      rw [List.take_of_length_le (Nat.le_refl _)] at h1
      refine ⟨?_, HB14.out⟩
      rw [if_pos h1, if_pos h1]
      rfl
end Go.Proofs.YtohighedgdlflaaGreatDoor
