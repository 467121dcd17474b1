/- The law TraceSums of package trace answers true, for every cell, every two rows of observations and every place to stop. -/
import Derived.Lib.SplitLaws
import Derived.Lib.Join
import Derived.Test.YtohighedgdlflaaGreatDoorTMS4
import Derived.Defers
import Derived.Recover
import Derived.Test.YtohighedgdlflaaGreatDoorTMS5
/- strings.Split at one byte, as a plain recursion. -/
namespace Go.Proofs.YtohighedgdlflaaGreatDoor
open Go.Lib
def splitC (c : UInt8) : List UInt8 → List (List UInt8)
  | [] => [[]]
  | b :: l => if b = c then [] :: splitC c l else
    match splitC c l with
    | [] => [[b]]
    | p :: ps => (b :: p) :: ps
theorem splitK_splitC (c : UInt8) : ∀ (s : List UInt8), splitK [c] 0 (count s [c]) s = splitC c s
  | [] => by rw [count_miss (by simp [index])]; rfl
  | b :: l => by
    have ih := splitK_splitC c l
    by_cases h : b = c
    · subst h
      have hix : index (b :: l) [b] = 0 := by rw [index]; simp [List.isPrefixOf]
      rw [count_cons_eq, Nat.add_comm, splitK, hix]
      simp [splitC, ih]
    · have hp : ([c] : List UInt8).isPrefixOf (b :: l) = false := by simp [List.isPrefixOf, Ne.symm h]
      have hix : index (b :: l) [c] = if index l [c] == -1 then -1 else index l [c] + 1 := by rw [index, hp]; simp
      rw [count_cons_ne b c l h]
      by_cases hm : index l [c] = -1
      · rw [count_miss hm] at ih ⊢
        rw [splitK] at ih ⊢
        rw [splitC, if_neg h, ← ih]
      · have hge := index_ge l [c]
        obtain ⟨j, hj⟩ : ∃ j : Nat, index l [c] = j := ⟨(index l [c]).toNat, by omega⟩
        have hix' : index (b :: l) [c] = ((j + 1 : Nat) : Int) := by rw [hix, if_neg (fun e => hm (beq_iff_eq.1 e)), hj]; omega
        rw [count_hit (by simp) hj, Nat.add_comm] at ih ⊢
        rw [splitK, hj] at ih
        rw [splitK, hix']
        rw [if_neg (show ¬ ((((j : Nat) : Int) == -1) = true) by simp <;> omega)] at ih
        rw [if_neg (show ¬ ((((j + 1 : Nat) : Int) == -1) = true) by simp <;> omega)]
        rw [splitC, if_neg h, ← ih]
        have e1 : (((j + 1 : Nat) : Int)).toNat = j + 1 := by omega
        have e2 : ((j : Int)).toNat = j := by omega
        rw [e1, e2]
        simp [List.take_succ_cons]
theorem splitB_splitC (c : UInt8) (s : ByteArray) : (splitB ⟨#[c]⟩ 0 (countB s ⟨#[c]⟩) s).map (·.data.toList) = splitC c s.data.toList := by
  rw [splitB_data]
  exact splitK_splitC c s.data.toList
end Go.Proofs.YtohighedgdlflaaGreatDoor

/- The pieces of a text of lines, and what they say. -/
namespace Go.Proofs.YtohighedgdlflaaGreatDoor
open Go.Shelf Go.RowKit Go.Sort Go.Lib Go.Proofs.YtohighedgdlflaaGreatDoorW.PrintWords Go.Proofs.YtohighedgdlflaaGreatDoor.PR
set_option linter.unusedVariables false
set_option linter.unusedSimpArgs false
def pieces (s : ByteArray) : List ByteArray := Lib.splitB ⟨#[10]⟩ 0 (Lib.countB s ⟨#[10]⟩) s
def cutB (s : ByteArray) : List ByteArray := Lib.splitB ⟨#[32]⟩ 0 (Lib.countB s ⟨#[32]⟩) s
def wordsB (s : ByteArray) : List ByteArray := (cutB s).filter fun x => !emp x
def PieceIs (x : ByteArray) (os : List S35) : Prop :=
  (wordsB x = [] ∧ os = []) ∨ ∃ t cl q p a b : Nat, GoodN t cl q p a b ∧ wordsB x = wordsN t cl q p a b ∧ os = [obN t cl q p a b]
theorem splitC_le (c : UInt8) : ∀ (s : List UInt8) (x : List UInt8), x ∈ splitC c s → x.length ≤ s.length
  | [], x, h => by simp [splitC] at h; simp [h]
  | b :: l, x, h => by
    have ih := splitC_le c l
    rw [splitC] at h
    split at h
    · rcases List.mem_cons.1 h with rfl | h
      · simp
      · have := ih x h; simp; omega
    · split at h
      · rename_i heq
        simp at h; subst h; simp
      · rename_i p ps heq
        rcases List.mem_cons.1 h with rfl | h
        · have := ih p (by rw [heq]; simp); simp; omega
        · have := ih x (by rw [heq]; simp [h]); simp; omega
theorem pieces_le {s x : ByteArray} (h : x ∈ pieces s) : x.size ≤ s.size := by
  have h1 : x.data.toList ∈ splitC 10 s.data.toList := by
    rw [← splitB_splitC]
    exact List.mem_map_of_mem h
  have := splitC_le _ _ _ h1
  rw [Lib.size_eq, Lib.size_eq]
  exact this
theorem pieces_len (s : ByteArray) : (pieces s).length = Lib.countB s ⟨#[10]⟩ + 1 := Lib.splitB_all _ (by decide) 0 _ s rfl
theorem cutB_len (s : ByteArray) : (cutB s).length = Lib.countB s ⟨#[32]⟩ + 1 := Lib.splitB_all _ (by decide) 0 _ s rfl
theorem count_small (s sep : ByteArray) (h1 : 1 ≤ sep.size) : Lib.countB s sep ≤ s.size := Lib.countB_le sep h1 _ s (Nat.le_refl _)
/-- A digit stands first. -/
theorem decS_first (t : Nat) : ∃ h : 0 < (decS t).size, ((((decS t)[0]'h).toNat : Int) != 35) = true := by
  have hz : 0 < (decS t).size := by
    rw [decS_size, ← Lib.decDigits_length]
    rw [Lib.decDigits]; split <;> simp
  refine ⟨hz, ?_⟩
  have key : ∀ (u : Nat) c, (Lib.decDigits u)[0]? = some c → 48 ≤ c.toNat := by
    intro u
    induction u using Nat.strongRecOn with
    | _ u ih =>
      intro c hc
      rw [Lib.decDigits] at hc
      split at hc
      · rename_i h
        simp at hc
        rw [← hc]
        rcases (show u = 0 ∨ u = 1 ∨ u = 2 ∨ u = 3 ∨ u = 4 ∨ u = 5 ∨ u = 6 ∨ u = 7 ∨ u = 8 ∨ u = 9 by omega) with h | h | h | h | h | h | h | h | h | h <;> subst h <;> decide
      · rename_i h
        refine ih (u / 10) (by omega) c ?_
        rw [List.getElem?_append_left] at hc
        · exact hc
        · rw [Lib.decDigits]; split <;> simp
  have h1 : (Lib.decDigits t)[0]? = some ((decS t)[0]'hz) := by
    have hl : 0 < (Lib.decDigits t).length := by rw [Lib.decDigits_length, ← decS_size]; exact hz
    rw [List.getElem?_eq_getElem hl]
    congr 1
  have h2 := key t _ h1
  rw [bne_iff_ne]
  omega
end Go.Proofs.YtohighedgdlflaaGreatDoor

/- Parse's deferred function, where nothing panicked. -/
namespace Go.Proofs.YtohighedgdlflaaGreatDoor
open Go.Shelf Go.RowKit Go.Sort Go.Lib Go.Proofs.YtohighedgdlflaaGreatDoorW.PrintWords Go.Proofs.YtohighedgdlflaaGreatDoor.PR
set_option linter.unusedVariables false
set_option linter.unusedSimpArgs false
set_option maxRecDepth 100000 in
theorem p64_idle (A B : Addr) (w : World) :
    CallsD Tryz.prog 64 #[.pointer (some A), .pointer (some B)] .returning w fun e u' w' => e = .returned (.tuple #[]) ∧ u' = .returning ∧ w' = w := by
  refine callsD_of_wpS Tryz.func64 rfl fun c₀ cs hu => ?_
  apply wpS_seq
  apply wpS_region
  simp [wpOpsS, go_sem, recoverD, hu, Tryz.ntmps64, Exit.thenS]
  apply wpS_seq
  apply wpS_region
  simp [wpOpsS, go_sem, recoverD, hu, Tryz.ntmps64, Exit.thenS]
  refine wpS_cond (t := false) (by simp [Act.eval, Array.replicate]) ?_
  simp only [Bool.false_eq_true, if_false]
  refine wpS_of_wp (wp_skip ?_)
  cases c₀
  simp_all [bodyPostS, results]
end Go.Proofs.YtohighedgdlflaaGreatDoor

/- trace.Parse reads the lines of observations that may be. -/
namespace Go.Proofs.YtohighedgdlflaaGreatDoor
open Go.Proofs.YtohighedgdlflaaGreatDoorW.PrintLast Go.Shelf Go.RowKit Go.Sort Go.Lib Go.Proofs.YtohighedgdlflaaGreatDoorW.PrintWords Go.Proofs.YtohighedgdlflaaGreatDoor.PR
set_option linter.unusedVariables false
set_option linter.unusedSimpArgs false
theorem del_cut (x : ByteArray) (W : World) (hx : x.size ≤ 1000000000) :
    Calls Tryz.prog 66 #[.slice (some ⟨W.heap.size, 0, none⟩) (Lib.countB x ⟨#[32]⟩ + 1) (Lib.countB x ⟨#[32]⟩ + 1), .func (.func 67) #[] #[]] (W.alloc (.cells ((cutB x).map Value.string).toArray 9)) fun e w' =>
      e = .returned (.slice (some ⟨W.heap.size, 0, none⟩) (wordsB x).length (Lib.countB x ⟨#[32]⟩ + 1)) ∧ Below W.heap.size W w' ∧ W.heap.size < w'.heap.size ∧ ∀ (j : Nat) y, (wordsB x)[j]? = some y → w'.cell? ⟨W.heap.size, j, none⟩ = some (.string y) := by
  have hl := cutB_len x
  have hcs := count_small x ⟨#[32]⟩ (by decide)
  rw [← hl]
  have hd : (cutB x).length = (cutB x).toArray.size := by simp
  rw [hd]
  have hH : Holds Value.string (W.alloc (.cells ((cutB x).map Value.string).toArray 9)) W.heap.size 0 (cutB x).toArray := by
    intro j hj
    have hj2 : j < (cutB x).length := by simpa using hj
    rw [Nat.zero_add]
    have hb := blk_new W (.cells ((cutB x).map Value.string).toArray 9)
    constructor
    · simp only [World.cell?, hb]
      simp [hj2, getElem!_pos, List.getElem?_eq_getElem hj2]
    · simp only [World.frozen?, hb]; simp
  refine (del_ok W.heap.size _ (cutB x).toArray _ hH (by simp) (by rw [← hd, hl]; omega) (Nat.le_refl _)).mono ?_
  rintro e w' ⟨rfl, hb, hc⟩
  have hb2 : Below W.heap.size W w' := (below_alloc (Below.refl _ _) _).trans hb
  refine ⟨by rw [← hd]; rfl, hb2, ?_, hc⟩
  have := hb.size
  rw [World.size_alloc] at this
  omega
theorem R_sl {W : World} {B : Nat} {ok : Nat → Prop} {v : Value} {xs : List S35} (h : Kd.R k35 35 W B ok v xs) : ∃ A L c, v = .slice A L c := by
  obtain ⟨A, c, hv⟩ := Kd.R_slice h
  exact ⟨A, _, c, hv⟩
theorem cell_one {W : World} {B q : Nat} {v : Value} (h : W.heap[B]? = some (.cells #[v] q (0, 0))) : W.cell? ⟨B, 0, none⟩ = some v ∧ W.frozen? ⟨B, 0, none⟩ = false := by
  constructor
  · simp only [World.cell?, h]; rfl
  · simp only [World.frozen?, h]; rfl
/-- What holds while the lines are read. -/
structure PInv (w W : World) (n G : Nat) (cs : Array Value) (v : Value) (xs : List S35) : Prop where
  low : Below w.heap.size w W
  l : W.heap[w.heap.size]? = some (.cells #[v] 22 (0, 0))
  e : W.heap[w.heap.size + 1]? = some (.cells #[.int .i64 0] 25 (0, 0))
  r : Kd.R k35 35 W w.heap.size (fun _ => True) v xs
  frm : Frm W n
  pcs : W.heap[G]? = some (.cells cs 9 (0, 0))
theorem PInv.below {w W W' : World} {n G : Nat} {cs : Array Value} {v : Value} {xs : List S35} (h : PInv w W n G cs v xs) (hb : Below W.heap.size W W') : PInv w W' n G cs v xs :=
  ⟨h.low.trans (hb.mono h.low.size), (hb.block _ (heap_lt' h.l)).trans h.l, (hb.block _ (heap_lt' h.e)).trans h.e, Kd.R_below h.r hb, h.frm.below hb, (hb.block _ (heap_lt' h.pcs)).trans h.pcs⟩
theorem PInv.cellv {w W : World} {n G : Nat} {cs : Array Value} {v : Value} {xs : List S35} (h : PInv w W n G cs v xs) : W.cell? ⟨w.heap.size, 0, none⟩ = some v ∧ W.frozen? ⟨w.heap.size, 0, none⟩ = false := by
  have := h.l
  exact ⟨by simp [World.cell?, this], by simp [World.frozen?, this]⟩
theorem PInv.celle {w W : World} {n G : Nat} {cs : Array Value} {v : Value} {xs : List S35} (h : PInv w W n G cs v xs) : W.cell? ⟨w.heap.size + 1, 0, none⟩ = some (.int .i64 0) ∧ W.frozen? ⟨w.heap.size + 1, 0, none⟩ = false := by
  have := h.e
  exact ⟨by simp [World.cell?, this], by simp [World.frozen?, this]⟩
theorem PInv.grown {w W W1 : World} {n G : Nat} {cs : Array Value} {v : Value} {xs : List S35} (h : PInv w W n G cs v xs) (hg : W.grownBy W1 v.ownBlock) : W1.heap[w.heap.size]? = some (.cells #[v] 22 (0, 0)) :=
  (hg.block _ (heap_lt' h.l) (Kd.R_ne h.r h.l (by decide))).trans h.l
theorem k35_E {q : Nat} (h : q ∈ 35 :: k35.E) : q = 35 := by simpa [k35, Kd.iso, Kd.pair, Kd.int, Kd.scalar] using h
theorem PInv.put {w W W1 : World} {n G : Nat} {cs : Array Value} {v v1 : Value} {xs ys : List S35} (h : PInv w W n G cs v xs) (hg : W.grownBy W1 v.ownBlock) (hr : Kd.R k35 35 W1 w.heap.size (fun _ => True) v1 ys) (hb : Below w.heap.size w W1) (hn : w.heap.size < n) (hG : w.heap.size < G) : PInv w (W1.setCell ⟨w.heap.size, 0, none⟩ v1) n G cs v1 ys := by
  have hl := h.grown hg
  have mv : ∀ (k : Nat) (cells : Array Value) (q : Nat), w.heap.size ≠ k → q ≠ 35 → W.heap[k]? = some (.cells cells q (0, 0)) → (W1.setCell ⟨w.heap.size, 0, none⟩ v1).heap[k]? = some (.cells cells q (0, 0)) := fun k cells q hk hq hc => by
    rw [Below.heap_setCell _ _ _ _ (by simp; omega)]
    exact (hg.block _ (heap_lt' hc) (Kd.R_ne h.r hc (by omega))).trans hc
  refine ⟨hb.setCell (Nat.le_refl _) _, heap_setCell_same _ _ _ _ _ _ hl, mv _ _ _ (by omega) (by decide) h.e, Kd.R_set hr hl (fun q hq => by rw [k35_E hq]; decide) 0 v1, ⟨mv _ _ _ (by omega) (by decide) h.frm.names, mv _ _ _ (by omega) (by decide) h.frm.ptr, mv _ _ _ (by omega) (by decide) h.frm.tab⟩, mv _ _ _ (by omega) (by decide) h.pcs⟩
set_option maxRecDepth 100000 in
set_option maxHeartbeats 8000000 in
theorem parse_ok (s : ByteArray) (m : Int) (oss : List (List S35)) (w : World) (hs : s.size ≤ 1000000000) (hm : w.cell? ⟨2, 0, none⟩ = some (.int .i64 m)) (hlen : oss.length = (pieces s).length)
    (hP : ∀ (k : Nat) x os, (pieces s)[k]? = some x → oss[k]? = some os → PieceIs x os) (hn : oss.flatten.length ≤ 1000000) :
    Calls Tryz.prog 31 #[.string s] w fun e w' => ∃ v, e = .returned (.tuple #[v, .int .i64 0, .int .i64 0]) ∧ Kd.R k35 35 w' w.heap.size (fun _ => True) v oss.flatten ∧ Below w.heap.size w w' := by
  have HP := Lib.hid hP
  have HM := Lib.hid hm
  have h2 : 2 < w.heap.size := World.block_lt_of_cell? _ _ hm
  clear hP hm
  have hpl := pieces_len s
  obtain ⟨N, hN⟩ : ∃ N, N = (pieces s).length := ⟨_, rfl⟩
  have hmf : ∀ (fn : Fn) (first cap : Array Value) (w : World), (Instr.makeFunc fn first cap).run Tryz.prog w = .ok (.func fn first cap) w := fun _ _ _ _ => rfl
  go_enter_defers Tryz.func31, Tryz.ntmps31
  go_wp2_with fail
  have hA0 : ((w.alloc (.cells #[.slice none 0 0] 22)).alloc (.cells #[.int .i64 0] 25)).heap[w.heap.size]? = some (.cells #[.slice none 0 0] 22 (0, 0)) :=
    (below_alloc (Below.refl _ _) _ |>.block _ (by simp)).trans (blk_new w (.cells #[.slice none 0 0] 22))
  have hA1 : ((w.alloc (.cells #[.slice none 0 0] 22)).alloc (.cells #[.int .i64 0] 25)).heap[w.heap.size + 1]? = some (.cells #[.int .i64 0] 25 (0, 0)) := by
    have := blk_new (w.alloc (.cells #[.slice none 0 0] 22)) (.cells #[.int .i64 0] 25)
    rwa [World.size_alloc] at this
  have hB0 : Below w.heap.size w ((w.alloc (.cells #[.slice none 0 0] 22)).alloc (.cells #[.int .i64 0] 25)) := below_alloc (below_alloc (Below.refl _ _) _) _
  refine (forms_ok _).mono ?_
  rintro e w1 ⟨rfl, hfr, hb1⟩
  have HB1 := Lib.hid (hB0.trans (hb1.mono hB0.size))
  have HA1 := Lib.hid (And.intro ((hb1.block _ (heap_lt' hA0)).trans hA0) ((hb1.block _ (heap_lt' hA1)).trans hA1))
  simp only [World.size_alloc] at hfr ⊢
  generalize hn2 : w.heap.size + 1 + 1 = n at hfr ⊢
  have HF1 := Lib.hid hfr
  have hG1 : n + 2 < w1.heap.size := hfr.lt
  clear hA0 hA1 hB0 hfr hb1
  go_wp2_with fail
  refine (Tryz.strings_Split s ⟨#[10]⟩ m _ (by omega) ?_ (by decide)).mono ?_
  · rw [HB1.out.cell h2]; exact HM.out
  rintro e w2 ⟨rfl, rfl⟩
  have hNs : Lib.countB s ⟨#[10]⟩ + 1 ≤ 1000000001 := by
    have := count_small s ⟨#[10]⟩ (by decide)
    omega
  have hN' : (pieces s).length = N := hN.symm
  rw [← hpl, hN'] at hNs
  rw [← hpl, hN']
  have HN := Lib.hid hN'
  have hol : oss.length = N := hlen.trans hN'
  have HOL := Lib.hid hol
  clear hN hN' hpl hol hlen
  obtain ⟨cs, hcs⟩ : ∃ cs, cs = ((pieces s).map Value.string).toArray := ⟨_, rfl⟩
  have hI : PInv w (w1.alloc (.cells cs 9)) n w1.heap.size cs (.slice none 0 0) [] := by
    have hba := below_alloc (Below.refl w1.heap.size w1) (.cells cs 9)
    refine ⟨HB1.out.trans (hba.mono HB1.out.size), (hba.block _ (heap_lt' HA1.out.1)).trans HA1.out.1, (hba.block _ (heap_lt' HA1.out.2)).trans HA1.out.2, Kd.R_nil _ _ _ _ _, HF1.out.below hba, ?_⟩
    exact blk_new _ _
  have hcs2 : ((Lib.splitB ⟨#[10]⟩ 0 (Lib.countB s ⟨#[10]⟩) s).map Value.string).toArray = cs := by rw [hcs]; rfl
  rw [hcs2]
  have HI0 := Lib.hid hI
  have HCS := Lib.hid hcs
  clear HF1 HA1 HB1 hcs2 hcs hI
  go_wp2_with fail
  generalize w1.alloc (.cells cs 9) = w2 at HI0 ⊢
  go_loopw [4, 6, 7, 8, 14] (fun v4 v6 v7 v8 v14 wr => ∃ (k : Nat) (v : Value), k ≤ N ∧ v14 = .int .i64 k ∧ Hid (PInv w wr n w1.heap.size cs v (oss.take k).flatten)) (fun _ _ _ _ i _ => N - (RowKit.intOf i).toNat)
  case atStart => exact ⟨0, _, by omega, rfl, HI0⟩
  case round =>
    clear HI0
    obtain ⟨k, v, hk, rfl, HI⟩ := hrel
    by_cases hlt : k < N
    · obtain ⟨x, hx⟩ : ∃ x, (pieces s)[k]? = some x := ⟨_, List.getElem?_eq_getElem (by rw [HN.out]; exact hlt)⟩
      obtain ⟨os, hos⟩ : ∃ os, oss[k]? = some os := ⟨_, List.getElem?_eq_getElem (by rw [HOL.out]; exact hlt)⟩
      have HPI := Lib.hid (HP.out k x os hx hos)
      have hxs : x.size ≤ 1000000000 := Nat.le_trans (pieces_le (List.mem_of_getElem? hx)) hs
      have hcx : wr.cell? ⟨w1.heap.size, k, none⟩ = some (.string x) := by
        have h1 := HI.out.pcs
        have h2 := HCS.out
        simp only [World.cell?, h1, h2]
        simp [hx]
      have Hos := Lib.hid hos
      clear hx hos
      go_wp2_with fail
      refine (Tryz.strings_Split x ⟨#[32]⟩ m _ (by omega) ?_ (by decide)).mono ?_
      · rw [HI.out.low.cell h2]; exact HM.out
      rintro e w3 ⟨rfl, rfl⟩
      go_wp2_with fail
      refine (del_cut x _ hxs).mono ?_
      rintro e w4 ⟨rfl, hb4, hg4, hw4⟩
      have HI4 := Lib.hid (HI.out.below hb4)
      have HW4 := Lib.hid hw4
      have hcb : (wordsB x).length ≤ Lib.countB x ⟨#[32]⟩ + 1 := by rw [← cutB_len x]; exact List.length_filter_le _ _
      generalize wr.heap.size = g at hg4 HW4 ⊢
      generalize Lib.countB x ⟨#[32]⟩ + 1 = c at hcb ⊢
      clear hb4 hw4 HI hcx
      rcases HPI.out with ⟨hwe, hose⟩ | ⟨t, cl, q, p, a, b, hG, hwn, hose⟩
      · rw [hwe, List.length_nil]
        have HI5 : Hid (PInv w w4 n w1.heap.size cs v (oss.take (k + 1)).flatten) := by
          show PInv w w4 n w1.heap.size cs v (oss.take (k + 1)).flatten
          rw [List.take_add_one, Hos.out, hose]
          simpa using HI4.out
        clear HI4 HPI hwe hcb HW4
        go_wp2_with fail
        go_roundw
        case rel => exact ⟨k + 1, v, by omega, by go_num, HI5⟩
        case measure => simp [RowKit.intOf]; omega
      · obtain ⟨acc, hacc⟩ : ∃ acc, acc = (oss.take k).flatten := ⟨_, rfl⟩
        have hfl : (oss.take (k + 1)).flatten = acc ++ [obN t cl q p a b] := by
          rw [List.take_add_one, Hos.out, hose, hacc]; simp
        have hal : acc.length + 1 ≤ 1000000 := by
          have h1 : ((oss.take (k + 1)).flatten).length ≤ oss.flatten.length := by
            have h0 : oss.flatten = (oss.take (k + 1)).flatten ++ (oss.drop (k + 1)).flatten := by rw [← List.flatten_append, List.take_append_drop]
            rw [h0, List.length_append]; omega
          rw [hfl, List.length_append, List.length_singleton] at h1
          omega
        rw [← hacc] at HI4
        have Hfl := Lib.hid hfl
        clear hfl hacc hose HPI
        rw [hwn, wordsN_len t cl q p a b hG.q1 hG.q7] at hcb ⊢
        have hW0 := HW4.out 0 (decS t) (by rw [hwn]; rfl)
        have HW : Hid (∀ (j : Nat) x, (wordsN t cl q p a b)[j]? = some x → w4.cell? ⟨g, j, none⟩ = some (.string x)) := by
          intro j y hy
          exact HW4.out j y (by rw [hwn]; exact hy)
        have HG := Lib.hid hG
        have HI := HI4
        obtain ⟨hz0, hne⟩ := decS_first t
        have hpos : (0 : Int) < 4 + (nWords q : Int) := by omega
        have hg := hg4
        have hc := hcb
        clear hwn HW4 HI4 hG hg4 hcb
        go_upto_region 9 with (fail)
        clear hne hpos hW0
        have hc32 : k35.sz = 6 := rfl
        refine wp_region_noPanic ?_
        refine start_ (n := 7) (S := fun w' => w'.cell? ⟨w.heap.size, 0, none⟩ = some v) (ds := [6]) #[false, false, false, false, false, false, false] (by kernel_rfl) rfl rfl (HI.out.cellv.1) (fun hHeld => ?_)
        replace HI : Hid (PInv w w4.drew n w1.heap.size cs v acc) := HI.out.below (below_drew (Below.refl _ _))
        replace HW : Hid (∀ (j : Nat) x, (wordsN t cl q p a b)[j]? = some x → w4.drew.cell? ⟨g, j, none⟩ = some (.string x)) := HW.out
        replace hg : g < w4.drew.heap.size := hg
        generalize w4.drew = WY at HI HW hg hHeld ⊢
        refine pure_ (i := 1) (N := some 35) (v := ?_) (a' := ?_) #[false, true, false, false, false, false, false] rfl rfl (by kernel_rfl) (fun _ _ _ h => h) (Or.inl ⟨by rfl, ?_⟩) ?_ ?_
        rotate_left
        · intro w'
          go_simp
          with_reducible rfl
        rotate_left
        · simp only [Act.put, List.setIfInBounds_toArray, List.set_cons_zero, List.set_cons_succ, i64_w, i32_w]
          rfl
        refine pure_ (i := 2) (N := some 36) (v := ?_) (a' := ?_) #[false, true, true, false, false, false, false] rfl rfl (by kernel_rfl) (fun _ _ _ h => h) (Or.inl ⟨by rfl, ?_⟩) ?_ ?_
        rotate_left
        · intro w'
          go_simp
          with_reducible rfl
        rotate_left
        · simp only [Act.put, List.setIfInBounds_toArray, List.set_cons_zero, List.set_cons_succ, i64_w, i32_w]
          rfl
        refine take_ (i := 0) (N := some 34) (v := ?_) (a' := ?_) #[true, true, true, false, false, false, false] rfl rfl (by kernel_rfl) (fun _ _ _ h => h) (Or.inl ⟨by rfl, ?_⟩) hHeld ?_ ?_
        rotate_left
        · intro w' s0
          go_simp
          with_reducible rfl
        rotate_left
        · simp only [Act.put, List.setIfInBounds_toArray, List.set_cons_zero, List.set_cons_succ, i64_w, i32_w]
          rfl
        refine one_ (i := 3) (N := some 37) #[true, true, true, true, false, false, false] rfl rfl (by kernel_rfl) (by decide) (fun K hK => ?_)
        refine goes_ Tryz.func68 (by kernel_rfl) rfl #[.slice (some ⟨n + 2, 0, none⟩) 8 8, .slice (some ⟨g, 0, none⟩) (4 + nWords q) c] (by rfl) rfl rfl (by simp only [List.map_toArray, List.map_cons, List.map_nil]; rfl) ?_
        with_reducible refine (line_ok n g c t cl q p a b _ HG.out HI.out.frm hg hc HW.out).mono ?_
        rintro e w7 ⟨rfl, hb⟩
        refine ⟨_, rfl, ?_⟩
        replace HI := Lib.hid (HI.out.below hb)
        clear hb
        refine hK.out _ _ (HI.out.cellv.1) (fun hHeld => ?_)
        clear hK K
        refine norm_ (a' := ?_) ?_ ?_
        rotate_left
        · show Act.put _ (some 37) _ = _
          simp only [Act.put, List.setIfInBounds_toArray, List.set_cons_zero, List.set_cons_succ, i64_w, i32_w]
          rfl
        refine one_ (i := 4) (N := some 38) #[true, true, true, true, true, false, false] rfl rfl (by kernel_rfl) (by decide) (fun K hK => ?_)
        refine value_ (w1 := ?_) (v := ?_) (by rfl) rfl ?_ ?_
        rotate_left 2
        · go_simp
          constructor
          · rfl
          · rfl
        refine hK.out _ _ ((HI.out.below (below_alloc (Below.refl _ _) _)).cellv.1) (fun hHeld => ?_)
        clear hK K
        refine norm_ (a' := ?_) ?_ ?_
        rotate_left
        · show Act.put _ (some 38) _ = _
          simp only [Act.put, List.setIfInBounds_toArray, List.set_cons_zero, List.set_cons_succ, i64_w, i32_w]
          rfl
        refine one_ (i := 5) (N := some 39) #[true, true, true, true, true, true, false] rfl rfl (by kernel_rfl) (by decide) (fun K hK => ?_)
        refine Kd.R_append_step k35 (w0 := w) w.heap.size (by rfl) (.tmp 34) (.tmp 38) 22 35 (.agg #[(.int .u64 0), (.int .i64 0), (.int .i64 0), (.int .u32 0), (.int .u32 0), (.int .u32 0)]) 40 rfl Tryz.underlying22 info35 rfl (by decide) (by omega) v acc (obN t cl q p a b) [.int .u64 t, .int .i64 cl, .int .i64 q, .int .u32 p, .int .u32 a, .int .u32 b] (fun _ => True) (fun _ => False) (by rfl) (by rfl) (k35_mkM _ _ _ (obN t cl q p a b)) (fun _ hk => hk.elim) (fun _ _ => trivial) HI.out.r HI.out.low HI.out.low.size (by omega) ?_
        intro v9 w9 ho9 hb9 hg9 hat9
        have HO9 := Lib.hid ho9
        have HB9 := Lib.hid hb9
        have HG9 := Lib.hid hg9
        clear ho9 hb9 hg9 hat9
        obtain ⟨A9, L9, c9, rfl⟩ := R_sl HO9.out
        obtain ⟨hz9, hf9⟩ := cell_one (HI.out.grown HG9.out)
        refine hK.out _ _ (hz9) (fun hHeld => ?_)
        clear hK K
        refine norm_ (a' := ?_) ?_ ?_
        rotate_left
        · show Act.put _ (some 39) _ = _
          simp only [Act.put, List.setIfInBounds_toArray, List.set_cons_zero, List.set_cons_succ, i64_w, i32_w]
          rfl
        refine last_ (i := 6) (N := none) #[true, true, true, true, true, true, true] rfl rfl (by kernel_rfl) (by decide) (fun K hK => ?_)
        refine skip_ (w1 := ?_) (by rfl) rfl ?_ ?_
        rotate_left
        · go_simp
          rfl
        refine hK.out _ _ ?_
        clear hK K
        refine done_ (by kernel_rfl) ?_
        refine NoPanic.normal ?_
        have HI9 : Hid (PInv w (w9.setCell ⟨w.heap.size, 0, none⟩ (.slice A9 L9 c9)) n w1.heap.size cs (.slice A9 L9 c9) (oss.take (k + 1)).flatten) := by
          show PInv w (w9.setCell ⟨w.heap.size, 0, none⟩ (.slice A9 L9 c9)) n w1.heap.size cs (.slice A9 L9 c9) (oss.take (k + 1)).flatten
          rw [Hfl.out]
          exact HI.out.put HG9.out HO9.out HB9.out (by omega) (by omega)
        clear HI HO9 HG9 HB9 hz9 hf9 HW HG hHeld
        go_wp2_with fail
        go_roundw
        case rel => exact ⟨k + 1, _, by omega, by go_num, HI9⟩
        case measure => simp [RowKit.intOf]; omega
    · obtain rfl : k = N := by omega
      obtain ⟨A0, L0, c0, rfl⟩ := R_sl HI.out.r
      obtain ⟨hcv, hfv⟩ := HI.out.cellv
      obtain ⟨hce, hfe⟩ := HI.out.celle
      have hll := HI.out.l
      have hee := HI.out.e
      have hl1 := heap_setCell_same _ _ 0 _ _ (.slice A0 L0 c0) hll
      have he1 : (wr.setCell ⟨w.heap.size, 0, none⟩ (.slice A0 L0 c0)).heap[w.heap.size + 1]? = some (.cells #[.int .i64 0] 25 (0, 0)) := by
        rw [Below.heap_setCell _ _ _ _ (by simp)]; exact hee
      have hl2 : ((wr.setCell ⟨w.heap.size, 0, none⟩ (.slice A0 L0 c0)).setCell ⟨w.heap.size + 1, 0, none⟩ (.int .i64 0)).heap[w.heap.size]? = some (.cells #[.slice A0 L0 c0] 22 (0, 0)) := by
        rw [Below.heap_setCell _ _ _ _ (by simp)]; exact hl1
      have he2 := heap_setCell_same _ _ 0 _ _ (.int .i64 0) he1
      have hr2 : Kd.R k35 35 ((wr.setCell ⟨w.heap.size, 0, none⟩ (.slice A0 L0 c0)).setCell ⟨w.heap.size + 1, 0, none⟩ (.int .i64 0)) w.heap.size (fun _ => True) (.slice A0 L0 c0) oss.flatten := by
        have h1 := HI.out.r
        rw [List.take_of_length_le (by rw [HOL.out]; exact Nat.le_refl _)] at h1
        exact Kd.R_set (Kd.R_set h1 hll (fun q hq => by rw [k35_E hq]; decide) 0 _) he1 (fun q hq => by rw [k35_E hq]; decide) 0 _
      have hb2 : Below w.heap.size w ((wr.setCell ⟨w.heap.size, 0, none⟩ (.slice A0 L0 c0)).setCell ⟨w.heap.size + 1, 0, none⟩ (.int .i64 0)) := (HI.out.low.setCell (Nat.le_refl _) _).setCell (by simp) _
      have hce1 := (cell_one he1)
      obtain ⟨hce1, hfe1⟩ := hce1
      clear hl1 he1 hll hee HI hce hfe
      have Hr2 := Lib.hid hr2
      have Hb2 := Lib.hid hb2
      have Hl2 := Lib.hid hl2
      have He2 := Lib.hid he2
      clear hr2 hb2 hl2 he2
      go_wp2_with fail
      generalize ((wr.setCell ⟨w.heap.size, 0, none⟩ (.slice A0 L0 c0)).setCell ⟨w.heap.size + 1, 0, none⟩ (.int .i64 0)) = wF at Hr2 Hb2 Hl2 He2 ⊢
      refine leaves_cons (f := 64) (args := #[.pointer (some ⟨w.heap.size, 0, none⟩), .pointer (some ⟨w.heap.size + 1, 0, none⟩)]) (by simp) (by simp [go_sem]) ?_
      refine (p64_idle _ _ _).mono ?_
      rintro e u' w'' ⟨rfl, rfl, rfl⟩
      obtain ⟨cv, _⟩ := cell_one Hl2.out
      obtain ⟨ce, _⟩ := cell_one He2.out
      have hres : Tryz.f31.results = #[.cell 2 22, .cell 3 25, .tmp 4] := rfl
      simp [Leaves, settle, results, hres, go_sem, cv, ce]
      exact ⟨Hr2.out, Hb2.out⟩
end Go.Proofs.YtohighedgdlflaaGreatDoor
