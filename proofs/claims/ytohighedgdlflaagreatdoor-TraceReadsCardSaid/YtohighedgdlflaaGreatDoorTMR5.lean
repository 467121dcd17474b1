/- Texts of a proof that TraceReads holds, for every row of bytes, merged in order. -/
import Derived.Test.YtohighedgdlflaaGreatDoorTMR4
import Derived.Test.YtohighedgdlflaaGreatDoorTMR3
import Derived.Lib.OthersKept
import Derived.Lib.ItoaLen
import Derived.Deep.QuietTactic
import Derived.BigQuiet
import Derived.BigGuard
import Derived.Deep.RegionHeld3
import Derived.Lib.QuietBelow
import Derived.Lib.OwnBridge
/- The Writer's calls Word, Long, Byte, Raw, Done and NewWriter, and the row that package trace writes. -/
namespace Go.Proofs.YtohighedgdlflaaGreatDoor
open Go.RowKit Go.Proofs.YtohighedgdlflaaGreatDoorW.PrintWords Go.Proofs.YtohighedgdlflaaGreatDoor.PR
set_option linter.unusedVariables false
set_option linter.unusedSimpArgs false
/-- An observation's row. -/
def rowB (o : S35) : List Int := leb 8 o.f0 ++ leb 1 (o.f1 % 256) ++ leb 1 (o.f2 % 256) ++ leb 4 o.f3 ++ leb 4 o.f4 ++ leb 4 o.f5
theorem rowB_length (o : S35) : (rowB o).length = 22 := by simp [rowB, leb_length]
/-- The kinds of an observation's fields (those that the calls below lean on). -/
def Fits (o : S35) : Prop := 0 ≤ o.f3 ∧ o.f3 < 4294967296 ∧ 0 ≤ o.f4 ∧ o.f4 < 4294967296 ∧ 0 ≤ o.f5 ∧ o.f5 < 4294967296
/-- Six cells of an observation at the head of a block. -/
def Ob6 (w : World) (B : Nat) (o : S35) : Prop := w.heap[B]? = some (.cells #[.int .u64 o.f0, .int .i64 o.f1, .int .i64 o.f2, .int .u32 o.f3, .int .u32 o.f4, .int .u32 o.f5] 35 (0, 0))
theorem Ob6.cells {w : World} {B : Nat} {o : S35} (h : Ob6 w B o) : w.cell? ⟨B, 0, none⟩ = some (.int .u64 o.f0) ∧ w.cell? ⟨B, 1, none⟩ = some (.int .i64 o.f1) ∧ w.cell? ⟨B, 2, none⟩ = some (.int .i64 o.f2) ∧ w.cell? ⟨B, 3, none⟩ = some (.int .u32 o.f3) ∧ w.cell? ⟨B, 4, none⟩ = some (.int .u32 o.f4) ∧ w.cell? ⟨B, 5, none⟩ = some (.int .u32 o.f5) := by
  unfold Ob6 at h
  refine ⟨?_, ?_, ?_, ?_, ?_, ?_⟩ <;> simp [World.cell?, h]
end Go.Proofs.YtohighedgdlflaaGreatDoor

/- What trace.Text writes. -/
namespace Go.Proofs.YtohighedgdlflaaGreatDoor
open Go.Shelf Go.RowKit Go.Sort Go.Lib Go.Proofs.YtohighedgdlflaaGreatDoorW.PrintWords Go.Proofs.YtohighedgdlflaaGreatDoor.PR
set_option linter.unusedVariables false
set_option linter.unusedSimpArgs false
def decS (n : Nat) : ByteArray := ⟨(Lib.decDigits n).toArray⟩
/-- The words behind the place. -/
def writeL (o : S35) : List ByteArray :=
  if o.f2 = 1 ∨ o.f2 = 2 then [hexS o.f4.toNat, hexS o.f5.toNat]
  else if o.f2 = 3 then [faultS.getD o.f4.toNat ByteArray.empty, hexS o.f5.toNat]
  else if o.f2 = 4 then [decS o.f4.toNat]
  else if o.f2 = 5 then [hexS o.f5.toNat ++ hexS o.f4.toNat]
  else if o.f2 = 7 then [hexS o.f4.toNat]
  else []
def headL (o : S35) : List ByteArray := [decS o.f0.toNat, decS o.f1.toNat, kindS.getD o.f2.toNat ByteArray.empty, hexS o.f3.toNat]
def wordsL (o : S35) : List ByteArray := headL o ++ writeL o
def lineB (o : S35) : List UInt8 := Lib.join ((wordsL o).map (·.data.toList)) [32] ++ [10]
def textB (l : List S35) : List UInt8 := l.flatMap lineB
def textS (l : List S35) : ByteArray := ⟨(textB l).toArray⟩
def TextR (w : World) (l : List S35) (e : Ending) (w' : World) : Prop :=
  e = .returned (.tuple #[.string (if l.all mayB = true then textS l else ⟨#[]⟩), .int .i64 (if l.all mayB = true then 0 else 220)]) ∧ Below w.heap.size w w'
theorem TextR.bad {w W : World} {l : List S35} (hb : l.all mayB = false) (h : Below w.heap.size w W) : TextR w l (.returned (.tuple #[.string ⟨#[]⟩, .int .i64 220])) W :=
  ⟨by rw [hb]; rfl, h⟩
theorem decS_size (n : Nat) : (decS n).size = Lib.nDigits n := by
  have := Lib.decDigits_length n
  simpa [decS, ByteArray.size] using this
theorem words_len (o : S35) (h0 : o.f0 < 18446744073709551616) (h1 : o.f1 < 18446744073709551616) (h4 : o.f4 < 18446744073709551616) : (lineB o).length ≤ 200 := by
  have d0 : (decS o.f0.toNat).data.toList.length ≤ 20 := by
    rw [← Lib.size_eq, decS_size]; exact Lib.nDigits_le20 _ (by omega)
  have d1 : (decS o.f1.toNat).data.toList.length ≤ 20 := by
    rw [← Lib.size_eq, decS_size]; exact Lib.nDigits_le20 _ (by omega)
  have d4 : (decS o.f4.toNat).data.toList.length ≤ 20 := by
    rw [← Lib.size_eq, decS_size]; exact Lib.nDigits_le20 _ (by omega)
  have hx : ∀ n, (hexS n).data.toList.length = 8 := fun n => by rw [← Lib.size_eq, hexS_size]
  have hk : (kindS.getD o.f2.toNat ByteArray.empty).data.toList.length ≤ 9 := by
    rcases (show o.f2.toNat = 0 ∨ o.f2.toNat = 1 ∨ o.f2.toNat = 2 ∨ o.f2.toNat = 3 ∨ o.f2.toNat = 4 ∨ o.f2.toNat = 5 ∨ o.f2.toNat = 6 ∨ o.f2.toNat = 7 ∨ 8 ≤ o.f2.toNat by omega) with h | h | h | h | h | h | h | h | h
    all_goals first | (rw [h]; decide) | (rw [List.getD_eq_getElem?_getD, List.getElem?_eq_none (by simpa [kindS] using h)]; exact Nat.zero_le _)
  have hf : (faultS.getD o.f4.toNat ByteArray.empty).data.toList.length ≤ 9 := by
    rcases (show o.f4.toNat = 0 ∨ o.f4.toNat = 1 ∨ o.f4.toNat = 2 ∨ o.f4.toNat = 3 ∨ o.f4.toNat = 4 ∨ o.f4.toNat = 5 ∨ o.f4.toNat = 6 ∨ 7 ≤ o.f4.toNat by omega) with h | h | h | h | h | h | h | h
    all_goals first | (rw [h]; decide) | (rw [List.getD_eq_getElem?_getD, List.getElem?_eq_none (by simpa [faultS] using h)]; exact Nat.zero_le _)
  have happ : ∀ a b : Nat, (hexS a ++ hexS b).data.toList.length = 16 := fun a b => by
    rw [← Lib.size_eq, ByteArray.size_append, hexS_size, hexS_size]
  have hxa := hx o.f3.toNat
  have hxb := hx o.f4.toNat
  have hxc := hx o.f5.toNat
  have hxd := happ o.f5.toNat o.f4.toNat
  have hs : ∀ xs : List (List UInt8), (Lib.join xs [32]).length ≤ Lib.lens xs + xs.length := fun xs => by
    cases xs with
    | nil => simp [Lib.join_nil]
    | cons x r => rw [Lib.join_cons, List.length_append, Lib.joinTail_length]; simp [Lib.lens]; omega
  have := hs ((wordsL o).map (·.data.toList))
  unfold lineB
  rw [List.length_append]
  refine Nat.le_trans (Nat.add_le_add_right this _) ?_
  unfold wordsL headL writeL
  split
  · simp only [Lib.lens, List.map_cons, List.map_nil, List.cons_append, List.nil_append, List.sum_cons, List.sum_nil, List.length_cons, List.length_nil]; omega
  · split
    · simp only [Lib.lens, List.map_cons, List.map_nil, List.cons_append, List.nil_append, List.sum_cons, List.sum_nil, List.length_cons, List.length_nil]; omega
    · split
      · simp only [Lib.lens, List.map_cons, List.map_nil, List.cons_append, List.nil_append, List.sum_cons, List.sum_nil, List.length_cons, List.length_nil]; omega
      · split
        · simp only [Lib.lens, List.map_cons, List.map_nil, List.cons_append, List.nil_append, List.sum_cons, List.sum_nil, List.length_cons, List.length_nil]; omega
        · split <;> (simp only [Lib.lens, List.map_cons, List.map_nil, List.cons_append, List.nil_append, List.append_nil, List.sum_cons, List.sum_nil, List.length_cons, List.length_nil]; omega)
theorem text_len (l : List S35) (h : ∀ o ∈ l, (lineB o).length ≤ 200) : (textB l).length ≤ 200 * l.length := by
  induction l with
  | nil => simp [textB]
  | cons o l ih =>
    have h1 := h o (by simp)
    have h2 := ih (fun x hx => h x (by simp [hx]))
    simp only [textB, List.flatMap_cons, List.length_append, List.length_cons] at h2 ⊢
    omega
end Go.Proofs.YtohighedgdlflaaGreatDoor

/- Decimal digits, read again. -/
namespace Go.Proofs.YtohighedgdlflaaGreatDoor
open Go.Shelf Go.RowKit Go.Sort Go.Lib Go.Proofs.YtohighedgdlflaaGreatDoorW.PrintWords Go.Proofs.YtohighedgdlflaaGreatDoor.PR
set_option linter.unusedVariables false
set_option linter.unusedSimpArgs false
theorem pm_append (M : Nat) (ys : List UInt8) : ∀ (xs : List UInt8) (acc v : Nat), Lib.parseUintM M acc xs = .ok v → Lib.parseUintM M acc (xs ++ ys) = Lib.parseUintM M v ys
  | [], acc, v, h => by simp [Lib.parseUintM] at h; subst h; rfl
  | c :: r, acc, v, h => by
    simp only [Lib.parseUintM, List.cons_append] at h ⊢
    split at h
    · split at h
      · cases h
      · split at h
        · cases h
        · rename_i h1 h2 h3
          rw [if_pos h1, if_neg h2, if_neg h3]
          exact pm_append M ys r _ v h
    · cases h
theorem dec_step {u : Nat} (h : ¬ u < 10) : Lib.decDigits u = Lib.decDigits (u / 10) ++ [UInt8.ofNat (48 + u % 10)] := by
  rw [Lib.decDigits, dif_neg h]
theorem dec_small {u : Nat} (h : u < 10) : Lib.decDigits u = [UInt8.ofNat (48 + u)] := by
  rw [Lib.decDigits, dif_pos h]
theorem pm_dec : ∀ (u : Nat), u < 18446744073709551616 → Lib.parseUintM 18446744073709551615 0 (Lib.decDigits u) = .ok u := by
  intro u
  induction u using Nat.strongRecOn with
  | ind u ih =>
    intro hu
    by_cases h : u < 10
    · rw [dec_small h]
      have hc : (UInt8.ofNat (48 + u)).toNat = 48 + u := by simp; omega
      simp only [Lib.parseUintM, hc]
      rw [if_pos (by omega), if_neg (by omega), if_neg (by omega)]
      congr 1; omega
    · rw [dec_step h, pm_append _ _ _ _ _ (ih (u / 10) (by omega) (by omega))]
      have hc : (UInt8.ofNat (48 + u % 10)).toNat = 48 + u % 10 := by simp; omega
      simp only [Lib.parseUintM, hc]
      rw [if_pos (by omega), if_neg (by omega), if_neg (by omega)]
      congr 1; omega
theorem dec_ne (u : Nat) : Lib.decDigits u ≠ [] := by
  intro h
  have := Lib.decDigits_length u
  rw [h] at this
  have := Lib.nDigits_pos u
  simp at *; omega
theorem pb_dec (u : Nat) (hu : u < 18446744073709551616) : Lib.parseUintB 64 (decS u).data.toList = .ok u := by
  unfold Lib.parseUintB
  rw [show (decS u).data.toList = Lib.decDigits u by simp [decS], if_neg (dec_ne u)]
  exact pm_dec u hu
theorem u8n {k : Nat} (h : k < 256) : (UInt8.ofNat k).toNat = k := by simp; omega
theorem dec_mem : ∀ (u : Nat), ∀ b ∈ Lib.decDigits u, 48 ≤ b.toNat ∧ b.toNat < 58 := by
  intro u
  induction u using Nat.strongRecOn with
  | ind u ih =>
    intro b hb
    by_cases h : u < 10
    · rw [dec_small h] at hb
      rw [List.mem_singleton] at hb
      rw [hb, u8n (by omega)]; omega
    · rw [dec_step h] at hb
      rcases List.mem_append.1 hb with h1 | h1
      · exact ih (u / 10) (by omega) b h1
      · rw [List.mem_singleton] at h1
        rw [h1, u8n (by omega)]; omega
theorem dec_head : ∀ (u : Nat), u ≠ 0 → ∀ c, (Lib.decDigits u)[0]? = some c → c.toNat ≠ 48 := by
  intro u
  induction u using Nat.strongRecOn with
  | ind u ih =>
    intro hu c hc
    by_cases h : u < 10
    · rw [dec_small h] at hc
      simp only [List.getElem?_cons_zero, Option.some.injEq] at hc
      rw [← hc, u8n (by omega)]; omega
    · rw [dec_step h, List.getElem?_append_left (by rw [Lib.decDigits_length]; exact Lib.nDigits_pos _)] at hc
      exact ih (u / 10) (by omega) (by omega) c hc
theorem dec_digits (u : Nat) : Digits (decS u) := by
  intro j h
  have : (decS u)[j]'h ∈ Lib.decDigits u := by
    have h2 : j < (Lib.decDigits u).length := by rw [Lib.decDigits_length, ← decS_size]; exact h
    have h3 : (decS u)[j]'h = (Lib.decDigits u)[j] := rfl
    rw [h3]; exact List.getElem_mem h2
  exact dec_mem u _ this
theorem cutRight_ok (w : World) : Calls Tryz.prog 111 #[.string ⟨#[]⟩, .string tenS] w fun e w' => e = .returned (.string ⟨#[]⟩) ∧ w' = w := by
  go_enter Tryz.func111, Tryz.ntmps111
  go_wp2_with fail
  go_loop [0] (fun v0 => v0 = .string ⟨#[]⟩) (fun _ => 0)
  case atStart => rfl
  case round =>
    obtain rfl := hrel
    go_wp2_with fail
    go_ret
    exact ⟨rfl, rfl⟩
theorem decimal_0 (m : Nat) (w : World) :
    Calls Tryz.prog 79 #[.string ⟨#[48]⟩, .int .u64 m] w fun e w' => e = .returned (.int .u64 0) ∧ Below w.heap.size w w' := by
  have HSZ : Hid ((⟨#[48]⟩ : ByteArray).size = 1) := rfl
  have HD : Hid (Digits ⟨#[48]⟩) := by
    intro j h
    obtain rfl : j = 0 := by have : j < 1 := h; omega
    have h48 : ((⟨#[48]⟩ : ByteArray)[0]'h) = 48 := rfl
    rw [h48]; decide
  have HP : Hid (Lib.parseUintB 64 (⟨#[48]⟩ : ByteArray).data.toList = .ok 0) := by
    have := pb_dec 0 (by decide)
    rwa [show decS 0 = ⟨#[48]⟩ by unfold decS; rw [dec_small (by decide)]; rfl] at this
  have hm : (0 : Int) ≤ m := by omega
  have hslc : ∀ W : World, (Instr.slice 9 (.string digitS) none (some (.int .i64 10)) none).run Tryz.prog W = .ok (.string tenS) W := fun W => by kernel_rfl
  have HB0 := Lib.hid (Below.refl w.heap.size w)
  go_enter Tryz.func79, Tryz.ntmps79
  go_wp2_with fail
  go_region_held3 (fun W => Hid (Below w.heap.size w W))
    (first
      | exact HB0
      | exact Lib.hid (below_drew HB0.out)
      | exact HB5)
    (first
      | (go_at_call 112; with_reducible refine (cutLeft_ok _ HD.out _).mono ?_; rintro e w5 ⟨rfl, hb5⟩; have HB5 := Lib.hid ((below_drew HB0.out).trans (hb5.mono (by simp))))
      | (go_at_call 111; with_reducible refine (cutRight_ok _).mono ?_; rintro e w6 ⟨rfl, rfl⟩)
      | (go_at_call 75; with_reducible refine (must_ok _).mono ?_; rintro e w7 ⟨rfl, rfl⟩))
  go_wp2_with fail
  refine (Tryz.strconv_ParseUint_10_at64_ok _ (by first | (rw [HSZ.out]; omega) | decide) _ HP.out _).mono ?_
  rintro e w8 ⟨rfl, hw8⟩
  have HB8 : Hid (Below w.heap.size w w8) := by
    rcases hw8 with rfl | rfl
    · exact HB5
    · exact HB5.out.trans ((bytesWorld_below _ _ _).mono HB5.out.size)
  clear hw8
  go_wp2_with fail
  refine (must_ok _).mono ?_
  rintro e w9 ⟨rfl, rfl⟩
  go_wp2_with fail
  go_ret
  exact ⟨rfl, HB8.out⟩
theorem decimal_ok (u m : Nat) (hu : u < 18446744073709551616) (hm : u ≤ m) (w : World) :
    Calls Tryz.prog 79 #[.string (decS u), .int .u64 m] w fun e w' => e = .returned (.int .u64 u) ∧ Below w.heap.size w w' := by
  by_cases hu0 : u = 0
  · subst hu0
    have := decimal_0 m w
    rwa [show (⟨#[48]⟩ : ByteArray) = decS 0 by unfold decS; rw [dec_small (by decide)]; rfl] at this
  have hsz : (decS u).size = Lib.nDigits u := decS_size u
  have hn1 := Lib.nDigits_pos u
  have hn20 := Lib.nDigits_le20 u hu
  have HSZ := Lib.hid hsz
  have HD := Lib.hid (dec_digits u)
  have HP := Lib.hid (pb_dec u hu)
  have h0 : 0 < (decS u).size := by omega
  have hne : ((((decS u)[0]'h0).toNat : Int) != 48) = true := by
    have h1 := dec_head u hu0 ((decS u)[0]'h0) (by
      have h2 : 0 < (Lib.decDigits u).length := by rw [Lib.decDigits_length]; omega
      rw [List.getElem?_eq_getElem h2]; rfl)
    simp; omega
  have hemp : (decS u).toList.isEmpty = false := by
    rw [← decide_eq_emptyBytes]
    exact decide_eq_false (fun h => by rw [h] at hsz; simp at hsz; omega)
  have hs1 : 0 < (decS u).size := h0
  generalize decS u = s at *
  have hm2 : (u : Int) ≤ m := by omega
  clear hsz hm hu
  have hslc : ∀ W : World, (Instr.slice 9 (.string digitS) none (some (.int .i64 10)) none).run Tryz.prog W = .ok (.string tenS) W := fun W => by kernel_rfl
  have HB0 := Lib.hid (Below.refl w.heap.size w)
  go_enter Tryz.func79, Tryz.ntmps79
  go_wp2_with fail
  have cL : ∀ d os, Calls Tryz.prog 112 #[.string s, .string tenS] (grow (redrawn w d) os) fun e w'' => e = .returned (.string ⟨#[]⟩) ∧ ∃ p : Regrown, w'' = grow (redrawn w p.d) p.os := fun d os => Calls.regrown_of (cutLeft_ok s HD.out _)
  have cR : ∀ d os, Calls Tryz.prog 111 #[.string ⟨#[]⟩, .string tenS] (grow (redrawn w d) os) fun e w'' => e = .returned (.string ⟨#[]⟩) ∧ ∃ p : Regrown, w'' = grow (redrawn w p.d) p.os := fun d os => Calls.regrown_of ((cutRight_ok _).mono fun _ _ ⟨h1, h2⟩ => ⟨h1, h2 ▸ Below.refl _ _⟩)
  have cM : ∀ d os, Calls Tryz.prog 75 #[.bool true] (grow (redrawn w d) os) fun e w'' => e = .returned (.tuple #[]) ∧ ∃ p : Regrown, w'' = grow (redrawn w p.d) p.os := fun d os => Calls.regrown_of ((must_ok _).mono fun _ _ ⟨h1, h2⟩ => ⟨h1, h2 ▸ Below.refl _ _⟩)
  refine wp_region_quiet_below (by kernel_rfl) (by kernel_rfl) ?_
  repeat (quiet_step (first | with_reducible exact cL _ _ | with_reducible exact cR _ _ | with_reducible exact cM _ _))
  refine wpQuiet_nil ?_
  intro _ hw'
  obtain ⟨⟨dq, osq⟩, hw''⟩ := hw'
  subst hw''
  have HB5 := Lib.hid (below_regrown w dq osq)
  go_wp2_with fail
  refine (Tryz.strconv_ParseUint_10_at64_ok _ (by first | (rw [HSZ.out]; omega) | decide) _ HP.out _).mono ?_
  rintro e w8 ⟨rfl, hw8⟩
  have HB8 : Hid (Below w.heap.size w w8) := by
    rcases hw8 with rfl | rfl
    · exact HB5
    · exact HB5.out.trans ((bytesWorld_below _ _ _).mono HB5.out.size)
  clear hw8
  go_wp2_with fail
  refine (must_ok _).mono ?_
  rintro e w9 ⟨rfl, rfl⟩
  go_wp2_with fail
  go_ret
  exact ⟨rfl, HB8.out⟩
end Go.Proofs.YtohighedgdlflaaGreatDoor

/- slices.DeleteFunc at Parse's predicate: the empty words go. -/
namespace Go.Proofs.YtohighedgdlflaaGreatDoor
open Go.Shelf Go.RowKit Go.Sort Go.Lib Go.Proofs.YtohighedgdlflaaGreatDoorW.PrintWords Go.Proofs.YtohighedgdlflaaGreatDoor.PR
set_option linter.unusedVariables false
set_option linter.unusedSimpArgs false
def emp (x : ByteArray) : Bool := x.toList.isEmpty
theorem p2_ok (x : ByteArray) (W : World) : FnGives Tryz.prog 67 #[] #[.string x] (.bool (emp x)) W := by
  show Calls Tryz.prog 67 #[.string x] W _
  cases hx : x.toList.isEmpty with
  | true =>
    go_enter Tryz.func67, Tryz.ntmps67
    go_wp2_with fail
    go_ret
    exact ⟨by unfold emp; rw [hx]; rfl, 0, rfl⟩
  | false =>
    go_enter Tryz.func67, Tryz.ntmps67
    go_wp2_with fail
    go_ret
    exact ⟨by unfold emp; rw [hx]; rfl, 0, rfl⟩
theorem del_ok (g cap : Nat) (d : Array ByteArray) (w : World) (hH : Holds Value.string w g 0 d) (hg : g < w.heap.size) (hsz : d.size ≤ 9223372036854775807) (hcap : d.size ≤ cap) :
    Calls Tryz.prog 66 #[.slice (some ⟨g, 0, none⟩) d.size cap, .func (.func 67) #[] #[]] w fun e w' => e = .returned (.slice (some ⟨g, 0, none⟩) (d.toList.filter fun x => !emp x).length cap) ∧ Below g w w' ∧ ∀ (j : Nat) x, (d.toList.filter fun x => !emp x)[j]? = some x → w'.cell? ⟨g, j, none⟩ = some (.string x) := by
  have eg : ∀ args w, (callFunc 67 args).run Tryz.prog w = .ok (.enter 67 args) w := enters_of Tryz.func67 (by kernel_rfl) rfl
  have hcon := AnyE.slices_DeleteFunc Tryz.del66 Value.string (fun _ => rfl) emp 67 #[] eg ByteArray.empty Tryz.zeroValue9 g 0 cap d w
    (fun W x _ => p2_ok x W) (fun n os dk x _ => p2_ok x _) hH hsz hcap
  refine hcon.mono ?_
  rintro e w' ⟨rfl, q, rfl⟩
  obtain ⟨r, hr⟩ : ∃ r, r = (d.toList.filter fun x => !emp x) := ⟨_, rfl⟩
  have hrl : r.length ≤ d.size := by rw [hr]; simpa using List.length_filter_le (fun x => !emp x) d.toList
  rw [← hr]
  refine ⟨rfl, below_putRow (Below.refl _ _) (Nat.le_refl _), fun j x hx => ?_⟩
  have hj : j < r.length := by
    rcases Nat.lt_or_ge j r.length with h' | h'
    · exact h'
    · rw [List.getElem?_eq_none h'] at hx; simp at hx
  have h := cell?_putRow Value.string (Sort.ahead w q) g 0 d (r ++ List.replicate (d.size - r.length) ByteArray.empty).toArray hH (by simp; omega) j (by simp; omega)
  rw [Nat.zero_add] at h
  rw [h]
  congr 2
  rw [getElem!_pos _ j (by simp; omega)]
  have hx2 : r[j] = x := by rw [List.getElem?_eq_getElem hj] at hx; exact Option.some.inj hx
  simp [List.getElem_append_left hj, hx2]
end Go.Proofs.YtohighedgdlflaaGreatDoor
