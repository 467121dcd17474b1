/- Texts of a proof that TraceReads holds, for every row of bytes, merged in order. -/
import Derived.Test.YtohighedgdlflaaGreatDoorTMR15
import Derived.Test.YtohighedgdlflaaGreatDoorTMR10
import Derived.Lib.SplitLaws
import Derived.Lib.Join
import Derived.Test.YtohighedgdlflaaGreatDoorTMR7
import Derived.Test.YtohighedgdlflaaGreatDoorTMR5
import Derived.Defers
import Derived.Recover
/- The document's Encode, in plain Lean: encBytes, if all may be. -/
namespace Go.Proofs.YtohighedgdlflaaGreatDoor
open Go.Shelf Go.RowKit Go.Sort Go.Lib Go.Proofs.YtohighedgdlflaaGreatDoorW.PrintWords Go.Proofs.YtohighedgdlflaaGreatDoor.PR
set_option linter.unusedVariables false
set_option linter.unusedSimpArgs false
def encPre (l : List S35) (i : Nat) : List Int := leb 4 1381256259 ++ leb 4 l.length ++ (l.take i).flatMap rowB
theorem encPre_len (l : List S35) (i : Nat) : (encPre l i).length ≤ 8 + 22 * l.length := by
  simp only [encPre, List.length_append, leb_length, flat_len, List.length_take]; omega
theorem encR_l (l : List S35) (hF : ∀ o ∈ l, FitsT o) (hl : l.length ≤ 1000000) (F : Nat) (hFu : F = 10 * (8 + 22 * l.length) + 1) : ∀ j : Nat, j ≤ l.length → (l.take (l.length - j)).all mayB = true →
    cloisterref22_Encode.l0 (j + F + 1) l (encPre l (l.length - j)) ((l.length - j : Nat) : Int) = some (if l.all mayB = true then (encBytes l, true) else ([], false))
  | 0, _, hall => by
    rw [Nat.sub_zero, List.take_length] at *
    have e0 : encPre l l.length = encBody l := by simp [encPre, encBody]
    have hlen := encBody_len l
    have hs := sum_f (encBody l) (encBody_bytes l) (by omega)
    have hc := crc_b (encBody_bytes l)
    obtain ⟨n, hn⟩ : ∃ n : Nat, Crc.crc (encBody l) = (n : Int) := ⟨(Crc.crc (encBody l)).toNat, by omega⟩
    rw [e0, Nat.zero_add, cloisterref22_Encode.l0, if_neg (by omega), if_pos hall]
    rw [hlen, ← hFu] at hs
    rw [hs, Option.bind_some, hn, u64w n (by omega)]
    have p4 : cloisterref22_put.f F (encBody l) (n : Int) 4 = some (encBody l ++ leb 4 (n : Int)) := put_f (encBody l) (n : Int) 4 F (by omega) (by omega) (by decide) (by omega) (by omega)
    rw [p4, Option.bind_some]
    unfold encBytes
    rw [hn]
  | j + 1, hj, hall => by
    have ih := encR_l l hF hl F hFu j (by omega)
    obtain ⟨i, hi⟩ : ∃ i, i = l.length - (j + 1) := ⟨_, rfl⟩
    have e8 : l.length - j = i + 1 := by omega
    rw [e8] at ih
    rw [← hi] at hall ⊢
    obtain ⟨o, ho⟩ : ∃ o, o = rd_T35 l i := ⟨_, rfl⟩
    have ho2 : l[i]? = some o := by
      rw [ho]; simp [rd_T35, List.getD_eq_getElem?_getD, List.getElem?_eq_getElem (show i < l.length by omega)]
    have hm := List.mem_of_getElem? ho2
    have hfu : j + F + 1 = (j + F - 1) + 2 := by omega
    rw [show j + 1 + F + 1 = (j + F + 1) + 1 by omega, cloisterref22_Encode.l0, if_pos (by omega), if_pos (by omega), ← ho]
    have hmf := refMay_f o (j + F - 1)
    rw [← hfu] at hmf
    rw [hmf, Option.bind_some]
    cases hmb : mayB o with
    | false =>
      rw [if_neg (by decide)]
      have : ¬ l.all mayB = true := by
        intro h
        rw [List.all_eq_true.1 h o hm] at hmb
        cases hmb
      rw [if_neg this]
    | true =>
      obtain ⟨t, cl, q, p, a, b, hob, hG⟩ := good_of_may hmb (hF o hm)
      have hr := row_f (j + F + 1) (by omega) hG
      have hle := encPre_len l i
      have hro := rowB_length o
      rw [if_pos rfl, hob]
      show ((cloisterref22_Row.f (j + F + 1) (t : Int) (cl : Int) (q : Int) (p : Int) (a : Int) (b : Int)).bind _) = _
      rw [hr, Option.bind_some, ← hob, if_pos (by omega), w64_succ i (by omega)]
      have hnext : encPre l (i + 1) = encPre l i ++ rowB o := by
        unfold encPre
        rw [List.take_add_one, ho2]
        simp
      rw [← hnext]
      refine ih ?_
      rw [List.take_add_one, ho2]
      simp [hall, hmb]
theorem encR_f (l : List S35) (hF : ∀ o ∈ l, FitsT o) (hl : l.length ≤ 1000000) : cloisterref22_Encode.f (l.length + (10 * (8 + 22 * l.length) + 1) + 1) l = some (if l.all mayB = true then (encBytes l, true) else ([], false)) := by
  have h := encR_l l hF hl _ rfl l.length (Nat.le_refl _) (by simp)
  rw [Nat.sub_self] at h
  have e0 : encPre l 0 = [67, 76, 84, 82] ++ leb 4 (l.length : Int) := by
    simp only [encPre, List.take_zero, List.flatMap_nil, List.append_nil]
    rfl
  rw [e0] at h
  unfold cloisterref22_Encode.f
  have p4 : cloisterref22_put.f (l.length + (10 * (8 + 22 * l.length) + 1) + 1) [67, 76, 84, 82] ((l.length : Nat) : Int) 4 = some ([67, 76, 84, 82] ++ leb 4 (l.length : Int)) := put_f [67, 76, 84, 82] ((l.length : Nat) : Int) 4 _ (by omega) (by omega) (by decide) (by omega) (by simp)
  rw [if_neg (by omega), u64w l.length (by omega), p4, Option.bind_some]
  exact h
/-- cloisterref22.Encode (19). -/
theorem refEncode_ok (l : List S35) (A : Option Addr) (c : Nat) (w : World) (hr : Kd.C k35 w A l.length l) (hc : l.length ≤ c) (hF : ∀ o ∈ l, FitsT o) (hl : l.length ≤ 1000000) :
    Calls Tryz.prog 19 #[.slice A l.length c] w fun e w' => ∃ v, e = .returned (.tuple #[v, .bool (l.all mayB)]) ∧ Kd.R (Kd.int .u8) 5 w' w.heap.size (fun _ => True) v (if l.all mayB = true then encBytes l else []) ∧ Below w.heap.size w w' := by
  refine cloisterref22_Encode.calls (l.length + (10 * (8 + 22 * l.length) + 1) + 1) A c l _ _ w hr hc ?_
  rw [encR_f l hF hl]
  cases l.all mayB <;> rfl
end Go.Proofs.YtohighedgdlflaaGreatDoor

/- strings.Split at one byte, as a plain recursion. -/
namespace Go.Proofs.YtohighedgdlflaaGreatDoor
open Go.Lib
def splitC (c : UInt8) : List UInt8 → List (List UInt8)
  | [] => [[]]
  | b :: l => if b = c then [] :: splitC c l else
    match splitC c l with
    | [] => [[b]]
    | p :: ps => (b :: p) :: ps
theorem splitK_splitC (c : UInt8) : ∀ (s : List UInt8), splitK [c] 0 (count s [c]) s = splitC c s
  | [] => by rw [count_miss (by simp [index])]; rfl
  | b :: l => by
    have ih := splitK_splitC c l
    by_cases h : b = c
    · subst h
      have hix : index (b :: l) [b] = 0 := by rw [index]; simp [List.isPrefixOf]
      rw [count_cons_eq, Nat.add_comm, splitK, hix]
      simp [splitC, ih]
    · have hp : ([c] : List UInt8).isPrefixOf (b :: l) = false := by simp [List.isPrefixOf, Ne.symm h]
      have hix : index (b :: l) [c] = if index l [c] == -1 then -1 else index l [c] + 1 := by rw [index, hp]; simp
      rw [count_cons_ne b c l h]
      by_cases hm : index l [c] = -1
      · rw [count_miss hm] at ih ⊢
        rw [splitK] at ih ⊢
        rw [splitC, if_neg h, ← ih]
      · have hge := index_ge l [c]
        obtain ⟨j, hj⟩ : ∃ j : Nat, index l [c] = j := ⟨(index l [c]).toNat, by omega⟩
        have hix' : index (b :: l) [c] = ((j + 1 : Nat) : Int) := by rw [hix, if_neg (fun e => hm (beq_iff_eq.1 e)), hj]; omega
        rw [count_hit (by simp) hj, Nat.add_comm] at ih ⊢
        rw [splitK, hj] at ih
        rw [splitK, hix']
        rw [if_neg (show ¬ ((((j : Nat) : Int) == -1) = true) by simp <;> omega)] at ih
        rw [if_neg (show ¬ ((((j + 1 : Nat) : Int) == -1) = true) by simp <;> omega)]
        rw [splitC, if_neg h, ← ih]
        have e1 : (((j + 1 : Nat) : Int)).toNat = j + 1 := by omega
        have e2 : ((j : Int)).toNat = j := by omega
        rw [e1, e2]
        simp [List.take_succ_cons]
theorem splitB_splitC (c : UInt8) (s : ByteArray) : (splitB ⟨#[c]⟩ 0 (countB s ⟨#[c]⟩) s).map (·.data.toList) = splitC c s.data.toList := by
  rw [splitB_data]
  exact splitK_splitC c s.data.toList
end Go.Proofs.YtohighedgdlflaaGreatDoor

/- The pieces of a text of lines, and what they say. -/
namespace Go.Proofs.YtohighedgdlflaaGreatDoor
open Go.Shelf Go.RowKit Go.Sort Go.Lib Go.Proofs.YtohighedgdlflaaGreatDoorW.PrintWords Go.Proofs.YtohighedgdlflaaGreatDoor.PR
set_option linter.unusedVariables false
set_option linter.unusedSimpArgs false
def pieces (s : ByteArray) : List ByteArray := Lib.splitB ⟨#[10]⟩ 0 (Lib.countB s ⟨#[10]⟩) s
def cutB (s : ByteArray) : List ByteArray := Lib.splitB ⟨#[32]⟩ 0 (Lib.countB s ⟨#[32]⟩) s
def wordsB (s : ByteArray) : List ByteArray := (cutB s).filter fun x => !emp x
def PieceIs (x : ByteArray) (os : List S35) : Prop :=
  (wordsB x = [] ∧ os = []) ∨ ∃ t cl q p a b : Nat, GoodN t cl q p a b ∧ wordsB x = wordsN t cl q p a b ∧ os = [obN t cl q p a b]
theorem splitC_le (c : UInt8) : ∀ (s : List UInt8) (x : List UInt8), x ∈ splitC c s → x.length ≤ s.length
  | [], x, h => by simp [splitC] at h; simp [h]
  | b :: l, x, h => by
    have ih := splitC_le c l
    rw [splitC] at h
    split at h
    · rcases List.mem_cons.1 h with rfl | h
      · simp
      · have := ih x h; simp; omega
    · split at h
      · rename_i heq
        simp at h; subst h; simp
      · rename_i p ps heq
        rcases List.mem_cons.1 h with rfl | h
        · have := ih p (by rw [heq]; simp); simp; omega
        · have := ih x (by rw [heq]; simp [h]); simp; omega
theorem pieces_le {s x : ByteArray} (h : x ∈ pieces s) : x.size ≤ s.size := by
  have h1 : x.data.toList ∈ splitC 10 s.data.toList := by
    rw [← splitB_splitC]
    exact List.mem_map_of_mem h
  have := splitC_le _ _ _ h1
  rw [Lib.size_eq, Lib.size_eq]
  exact this
theorem pieces_len (s : ByteArray) : (pieces s).length = Lib.countB s ⟨#[10]⟩ + 1 := Lib.splitB_all _ (by decide) 0 _ s rfl
theorem cutB_len (s : ByteArray) : (cutB s).length = Lib.countB s ⟨#[32]⟩ + 1 := Lib.splitB_all _ (by decide) 0 _ s rfl
theorem count_small (s sep : ByteArray) (h1 : 1 ≤ sep.size) : Lib.countB s sep ≤ s.size := Lib.countB_le sep h1 _ s (Nat.le_refl _)
/-- A digit stands first. -/
theorem decS_first (t : Nat) : ∃ h : 0 < (decS t).size, ((((decS t)[0]'h).toNat : Int) != 35) = true := by
  have hz : 0 < (decS t).size := by
    rw [decS_size, ← Lib.decDigits_length]
    rw [Lib.decDigits]; split <;> simp
  refine ⟨hz, ?_⟩
  have key : ∀ (u : Nat) c, (Lib.decDigits u)[0]? = some c → 48 ≤ c.toNat := by
    intro u
    induction u using Nat.strongRecOn with
    | _ u ih =>
      intro c hc
      rw [Lib.decDigits] at hc
      split at hc
      · rename_i h
        simp at hc
        rw [← hc]
        rcases (show u = 0 ∨ u = 1 ∨ u = 2 ∨ u = 3 ∨ u = 4 ∨ u = 5 ∨ u = 6 ∨ u = 7 ∨ u = 8 ∨ u = 9 by omega) with h | h | h | h | h | h | h | h | h | h <;> subst h <;> decide
      · rename_i h
        refine ih (u / 10) (by omega) c ?_
        rw [List.getElem?_append_left] at hc
        · exact hc
        · rw [Lib.decDigits]; split <;> simp
  have h1 : (Lib.decDigits t)[0]? = some ((decS t)[0]'hz) := by
    have hl : 0 < (Lib.decDigits t).length := by rw [Lib.decDigits_length, ← decS_size]; exact hz
    rw [List.getElem?_eq_getElem hl]
    congr 1
  have h2 := key t _ h1
  rw [bne_iff_ne]
  omega
end Go.Proofs.YtohighedgdlflaaGreatDoor

/- Parse's deferred function, where nothing panicked. -/
namespace Go.Proofs.YtohighedgdlflaaGreatDoor
open Go.Shelf Go.RowKit Go.Sort Go.Lib Go.Proofs.YtohighedgdlflaaGreatDoorW.PrintWords Go.Proofs.YtohighedgdlflaaGreatDoor.PR
set_option linter.unusedVariables false
set_option linter.unusedSimpArgs false
set_option maxRecDepth 100000 in
theorem p64_idle (A B : Addr) (w : World) :
    CallsD Tryz.prog 64 #[.pointer (some A), .pointer (some B)] .returning w fun e u' w' => e = .returned (.tuple #[]) ∧ u' = .returning ∧ w' = w := by
  refine callsD_of_wpS Tryz.func64 rfl fun c₀ cs hu => ?_
  apply wpS_seq
  apply wpS_region
  simp [wpOpsS, go_sem, recoverD, hu, Tryz.ntmps64, Exit.thenS]
  apply wpS_seq
  apply wpS_region
  simp [wpOpsS, go_sem, recoverD, hu, Tryz.ntmps64, Exit.thenS]
  refine wpS_cond (t := false) (by simp [Act.eval, Array.replicate]) ?_
  simp only [Bool.false_eq_true, if_false]
  refine wpS_of_wp (wp_skip ?_)
  cases c₀
  simp_all [bodyPostS, results]
end Go.Proofs.YtohighedgdlflaaGreatDoor
