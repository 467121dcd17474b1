/- The law TraceSums of package trace answers true, for every cell, every two rows of observations and every place to stop. -/
import Derived.Test.YtohighedgdlflaaGreatDoorTMS2
import Derived.Test.YtohighedgdlflaaGreatDoorTMS3
import Derived.Deep.QuietTactic
import Derived.BigQuiet
import Derived.BigGuard
import Derived.Deep.RegionHeld3
import Derived.Lib.QuietBelow
import Derived.Lib.OwnBridge
import Derived.Laws.EntriesVeiled
import Derived.Laws.Strings3
/- Decimal digits, read again. -/
namespace Go.Proofs.YtohighedgdlflaaGreatDoor
open Go.Shelf Go.RowKit Go.Sort Go.Lib Go.Proofs.YtohighedgdlflaaGreatDoorW.PrintWords Go.Proofs.YtohighedgdlflaaGreatDoor.PR
set_option linter.unusedVariables false
set_option linter.unusedSimpArgs false
theorem pm_append (M : Nat) (ys : List UInt8) : ∀ (xs : List UInt8) (acc v : Nat), Lib.parseUintM M acc xs = .ok v → Lib.parseUintM M acc (xs ++ ys) = Lib.parseUintM M v ys
  | [], acc, v, h => by simp [Lib.parseUintM] at h; subst h; rfl
  | c :: r, acc, v, h => by
    simp only [Lib.parseUintM, List.cons_append] at h ⊢
    split at h
    · split at h
      · cases h
      · split at h
        · cases h
        · rename_i h1 h2 h3
          rw [if_pos h1, if_neg h2, if_neg h3]
          exact pm_append M ys r _ v h
    · cases h
theorem dec_step {u : Nat} (h : ¬ u < 10) : Lib.decDigits u = Lib.decDigits (u / 10) ++ [UInt8.ofNat (48 + u % 10)] := by
  rw [Lib.decDigits, dif_neg h]
theorem dec_small {u : Nat} (h : u < 10) : Lib.decDigits u = [UInt8.ofNat (48 + u)] := by
  rw [Lib.decDigits, dif_pos h]
theorem pm_dec : ∀ (u : Nat), u < 18446744073709551616 → Lib.parseUintM 18446744073709551615 0 (Lib.decDigits u) = .ok u := by
  intro u
  induction u using Nat.strongRecOn with
  | ind u ih =>
    intro hu
    by_cases h : u < 10
    · rw [dec_small h]
      have hc : (UInt8.ofNat (48 + u)).toNat = 48 + u := by simp; omega
      simp only [Lib.parseUintM, hc]
      rw [if_pos (by omega), if_neg (by omega), if_neg (by omega)]
      congr 1; omega
    · rw [dec_step h, pm_append _ _ _ _ _ (ih (u / 10) (by omega) (by omega))]
      have hc : (UInt8.ofNat (48 + u % 10)).toNat = 48 + u % 10 := by simp; omega
      simp only [Lib.parseUintM, hc]
      rw [if_pos (by omega), if_neg (by omega), if_neg (by omega)]
      congr 1; omega
theorem dec_ne (u : Nat) : Lib.decDigits u ≠ [] := by
  intro h
  have := Lib.decDigits_length u
  rw [h] at this
  have := Lib.nDigits_pos u
  simp at *; omega
theorem pb_dec (u : Nat) (hu : u < 18446744073709551616) : Lib.parseUintB 64 (decS u).data.toList = .ok u := by
  unfold Lib.parseUintB
  rw [show (decS u).data.toList = Lib.decDigits u by simp [decS], if_neg (dec_ne u)]
  exact pm_dec u hu
theorem u8n {k : Nat} (h : k < 256) : (UInt8.ofNat k).toNat = k := by simp; omega
theorem dec_mem : ∀ (u : Nat), ∀ b ∈ Lib.decDigits u, 48 ≤ b.toNat ∧ b.toNat < 58 := by
  intro u
  induction u using Nat.strongRecOn with
  | ind u ih =>
    intro b hb
    by_cases h : u < 10
    · rw [dec_small h] at hb
      rw [List.mem_singleton] at hb
      rw [hb, u8n (by omega)]; omega
    · rw [dec_step h] at hb
      rcases List.mem_append.1 hb with h1 | h1
      · exact ih (u / 10) (by omega) b h1
      · rw [List.mem_singleton] at h1
        rw [h1, u8n (by omega)]; omega
theorem dec_head : ∀ (u : Nat), u ≠ 0 → ∀ c, (Lib.decDigits u)[0]? = some c → c.toNat ≠ 48 := by
  intro u
  induction u using Nat.strongRecOn with
  | ind u ih =>
    intro hu c hc
    by_cases h : u < 10
    · rw [dec_small h] at hc
      simp only [List.getElem?_cons_zero, Option.some.injEq] at hc
      rw [← hc, u8n (by omega)]; omega
    · rw [dec_step h, List.getElem?_append_left (by rw [Lib.decDigits_length]; exact Lib.nDigits_pos _)] at hc
      exact ih (u / 10) (by omega) (by omega) c hc
theorem dec_digits (u : Nat) : Digits (decS u) := by
  intro j h
  have : (decS u)[j]'h ∈ Lib.decDigits u := by
    have h2 : j < (Lib.decDigits u).length := by rw [Lib.decDigits_length, ← decS_size]; exact h
    have h3 : (decS u)[j]'h = (Lib.decDigits u)[j] := rfl
    rw [h3]; exact List.getElem_mem h2
  exact dec_mem u _ this
theorem cutRight_ok (w : World) : Calls Tryz.prog 111 #[.string ⟨#[]⟩, .string tenS] w fun e w' => e = .returned (.string ⟨#[]⟩) ∧ w' = w := by
  go_enter Tryz.func111, Tryz.ntmps111
  go_wp2_with fail
  go_loop [0] (fun v0 => v0 = .string ⟨#[]⟩) (fun _ => 0)
  case atStart => rfl
  case round =>
    obtain rfl := hrel
    go_wp2_with fail
    go_ret
    exact ⟨rfl, rfl⟩
theorem decimal_0 (m : Nat) (w : World) :
    Calls Tryz.prog 79 #[.string ⟨#[48]⟩, .int .u64 m] w fun e w' => e = .returned (.int .u64 0) ∧ Below w.heap.size w w' := by
  have HSZ : Hid ((⟨#[48]⟩ : ByteArray).size = 1) := rfl
  have HD : Hid (Digits ⟨#[48]⟩) := by
    intro j h
    obtain rfl : j = 0 := by have : j < 1 := h; omega
    have h48 : ((⟨#[48]⟩ : ByteArray)[0]'h) = 48 := rfl
    rw [h48]; decide
  have HP : Hid (Lib.parseUintB 64 (⟨#[48]⟩ : ByteArray).data.toList = .ok 0) := by
    have := pb_dec 0 (by decide)
    rwa [show decS 0 = ⟨#[48]⟩ by unfold decS; rw [dec_small (by decide)]; rfl] at this
  have hm : (0 : Int) ≤ m := by omega
  have hslc : ∀ W : World, (Instr.slice 9 (.string digitS) none (some (.int .i64 10)) none).run Tryz.prog W = .ok (.string tenS) W := fun W => by kernel_rfl
  have HB0 := Lib.hid (Below.refl w.heap.size w)
  go_enter Tryz.func79, Tryz.ntmps79
  go_wp2_with fail
  go_region_held3 (fun W => Hid (Below w.heap.size w W))
    (first
      | exact HB0
      | exact Lib.hid (below_drew HB0.out)
      | exact HB5)
    (first
      | (go_at_call 112; with_reducible refine (cutLeft_ok _ HD.out _).mono ?_; rintro e w5 ⟨rfl, hb5⟩; have HB5 := Lib.hid ((below_drew HB0.out).trans (hb5.mono (by simp))))
      | (go_at_call 111; with_reducible refine (cutRight_ok _).mono ?_; rintro e w6 ⟨rfl, rfl⟩)
      | (go_at_call 75; with_reducible refine (must_ok _).mono ?_; rintro e w7 ⟨rfl, rfl⟩))
  go_wp2_with fail
  refine (Tryz.strconv_ParseUint_10_at64_ok _ (by first | (rw [HSZ.out]; omega) | decide) _ HP.out _).mono ?_
  rintro e w8 ⟨rfl, hw8⟩
  have HB8 : Hid (Below w.heap.size w w8) := by
    rcases hw8 with rfl | rfl
    · exact HB5
    · exact HB5.out.trans ((bytesWorld_below _ _ _).mono HB5.out.size)
  clear hw8
  go_wp2_with fail
  refine (must_ok _).mono ?_
  rintro e w9 ⟨rfl, rfl⟩
  go_wp2_with fail
  go_ret
  exact ⟨rfl, HB8.out⟩
theorem decimal_ok (u m : Nat) (hu : u < 18446744073709551616) (hm : u ≤ m) (w : World) :
    Calls Tryz.prog 79 #[.string (decS u), .int .u64 m] w fun e w' => e = .returned (.int .u64 u) ∧ Below w.heap.size w w' := by
  by_cases hu0 : u = 0
  · subst hu0
    have := decimal_0 m w
    rwa [show (⟨#[48]⟩ : ByteArray) = decS 0 by unfold decS; rw [dec_small (by decide)]; rfl] at this
  have hsz : (decS u).size = Lib.nDigits u := decS_size u
  have hn1 := Lib.nDigits_pos u
  have hn20 := Lib.nDigits_le20 u hu
  have HSZ := Lib.hid hsz
  have HD := Lib.hid (dec_digits u)
  have HP := Lib.hid (pb_dec u hu)
  have h0 : 0 < (decS u).size := by omega
  have hne : ((((decS u)[0]'h0).toNat : Int) != 48) = true := by
    have h1 := dec_head u hu0 ((decS u)[0]'h0) (by
      have h2 : 0 < (Lib.decDigits u).length := by rw [Lib.decDigits_length]; omega
      rw [List.getElem?_eq_getElem h2]; rfl)
    simp; omega
  have hemp : (decS u).toList.isEmpty = false := by
    rw [← decide_eq_emptyBytes]
    exact decide_eq_false (fun h => by rw [h] at hsz; simp at hsz; omega)
  have hs1 : 0 < (decS u).size := h0
  generalize decS u = s at *
  have hm2 : (u : Int) ≤ m := by omega
  clear hsz hm hu
  have hslc : ∀ W : World, (Instr.slice 9 (.string digitS) none (some (.int .i64 10)) none).run Tryz.prog W = .ok (.string tenS) W := fun W => by kernel_rfl
  have HB0 := Lib.hid (Below.refl w.heap.size w)
  go_enter Tryz.func79, Tryz.ntmps79
  go_wp2_with fail
  have cL : ∀ d os, Calls Tryz.prog 112 #[.string s, .string tenS] (grow (redrawn w d) os) fun e w'' => e = .returned (.string ⟨#[]⟩) ∧ ∃ p : Regrown, w'' = grow (redrawn w p.d) p.os := fun d os => Calls.regrown_of (cutLeft_ok s HD.out _)
  have cR : ∀ d os, Calls Tryz.prog 111 #[.string ⟨#[]⟩, .string tenS] (grow (redrawn w d) os) fun e w'' => e = .returned (.string ⟨#[]⟩) ∧ ∃ p : Regrown, w'' = grow (redrawn w p.d) p.os := fun d os => Calls.regrown_of ((cutRight_ok _).mono fun _ _ ⟨h1, h2⟩ => ⟨h1, h2 ▸ Below.refl _ _⟩)
  have cM : ∀ d os, Calls Tryz.prog 75 #[.bool true] (grow (redrawn w d) os) fun e w'' => e = .returned (.tuple #[]) ∧ ∃ p : Regrown, w'' = grow (redrawn w p.d) p.os := fun d os => Calls.regrown_of ((must_ok _).mono fun _ _ ⟨h1, h2⟩ => ⟨h1, h2 ▸ Below.refl _ _⟩)
  refine wp_region_quiet_below (by kernel_rfl) (by kernel_rfl) ?_
  repeat (quiet_step (first | with_reducible exact cL _ _ | with_reducible exact cR _ _ | with_reducible exact cM _ _))
  refine wpQuiet_nil ?_
  intro _ hw'
  obtain ⟨⟨dq, osq⟩, hw''⟩ := hw'
  subst hw''
  have HB5 := Lib.hid (below_regrown w dq osq)
  go_wp2_with fail
  refine (Tryz.strconv_ParseUint_10_at64_ok _ (by first | (rw [HSZ.out]; omega) | decide) _ HP.out _).mono ?_
  rintro e w8 ⟨rfl, hw8⟩
  have HB8 : Hid (Below w.heap.size w w8) := by
    rcases hw8 with rfl | rfl
    · exact HB5
    · exact HB5.out.trans ((bytesWorld_below _ _ _).mono HB5.out.size)
  clear hw8
  go_wp2_with fail
  refine (must_ok _).mono ?_
  rintro e w9 ⟨rfl, rfl⟩
  go_wp2_with fail
  go_ret
  exact ⟨rfl, HB8.out⟩
end Go.Proofs.YtohighedgdlflaaGreatDoor

/- slices.DeleteFunc at Parse's predicate: the empty words go. -/
namespace Go.Proofs.YtohighedgdlflaaGreatDoor
open Go.Shelf Go.RowKit Go.Sort Go.Lib Go.Proofs.YtohighedgdlflaaGreatDoorW.PrintWords Go.Proofs.YtohighedgdlflaaGreatDoor.PR
set_option linter.unusedVariables false
set_option linter.unusedSimpArgs false
def emp (x : ByteArray) : Bool := x.toList.isEmpty
theorem p2_ok (x : ByteArray) (W : World) : FnGives Tryz.prog 67 #[] #[.string x] (.bool (emp x)) W := by
  show Calls Tryz.prog 67 #[.string x] W _
  cases hx : x.toList.isEmpty with
  | true =>
    go_enter Tryz.func67, Tryz.ntmps67
    go_wp2_with fail
    go_ret
    exact ⟨by unfold emp; rw [hx]; rfl, 0, rfl⟩
  | false =>
    go_enter Tryz.func67, Tryz.ntmps67
    go_wp2_with fail
    go_ret
    exact ⟨by unfold emp; rw [hx]; rfl, 0, rfl⟩
theorem del_ok (g cap : Nat) (d : Array ByteArray) (w : World) (hH : Holds Value.string w g 0 d) (hg : g < w.heap.size) (hsz : d.size ≤ 9223372036854775807) (hcap : d.size ≤ cap) :
    Calls Tryz.prog 66 #[.slice (some ⟨g, 0, none⟩) d.size cap, .func (.func 67) #[] #[]] w fun e w' => e = .returned (.slice (some ⟨g, 0, none⟩) (d.toList.filter fun x => !emp x).length cap) ∧ Below g w w' ∧ ∀ (j : Nat) x, (d.toList.filter fun x => !emp x)[j]? = some x → w'.cell? ⟨g, j, none⟩ = some (.string x) := by
  have eg : ∀ args w, (callFunc 67 args).run Tryz.prog w = .ok (.enter 67 args) w := enters_of Tryz.func67 (by kernel_rfl) rfl
  have hcon := AnyE.slices_DeleteFunc Tryz.del66 Value.string (fun _ => rfl) emp 67 #[] eg ByteArray.empty Tryz.zeroValue9 g 0 cap d w
    (fun W x _ => p2_ok x W) (fun n os dk x _ => p2_ok x _) hH hsz hcap
  refine hcon.mono ?_
  rintro e w' ⟨rfl, q, rfl⟩
  obtain ⟨r, hr⟩ : ∃ r, r = (d.toList.filter fun x => !emp x) := ⟨_, rfl⟩
  have hrl : r.length ≤ d.size := by rw [hr]; simpa using List.length_filter_le (fun x => !emp x) d.toList
  rw [← hr]
  refine ⟨rfl, below_putRow (Below.refl _ _) (Nat.le_refl _), fun j x hx => ?_⟩
  have hj : j < r.length := by
    rcases Nat.lt_or_ge j r.length with h' | h'
    · exact h'
    · rw [List.getElem?_eq_none h'] at hx; simp at hx
  have h := cell?_putRow Value.string (Sort.ahead w q) g 0 d (r ++ List.replicate (d.size - r.length) ByteArray.empty).toArray hH (by simp; omega) j (by simp; omega)
  rw [Nat.zero_add] at h
  rw [h]
  congr 2
  rw [getElem!_pos _ j (by simp; omega)]
  have hx2 : r[j] = x := by rw [List.getElem?_eq_getElem hj] at hx; exact Option.some.inj hx
  simp [List.getElem_append_left hj, hx2]
end Go.Proofs.YtohighedgdlflaaGreatDoor

/- trace.Text writes textS. -/
namespace Go.Proofs.YtohighedgdlflaaGreatDoor
open Go.Shelf Go.RowKit Go.Sort Go.Lib Go.Proofs.YtohighedgdlflaaGreatDoorW.PrintWords Go.Proofs.YtohighedgdlflaaGreatDoor.PR
set_option linter.unusedVariables false
set_option linter.unusedSimpArgs false
/-- Also the Tick is a uint64. -/
def FitsT (o : S35) : Prop := Fits o ∧ 0 ≤ o.f0 ∧ o.f0 < 18446744073709551616
theorem builder_new (w : World) : Lib.IsBuilderF 67 5 w.heap.size w.heap.size [] (w.alloc (.cells #[.pointer none, .slice none 0 0] 67)) :=
  .inl ⟨Nat.le_refl _, .slice none 0 0, blk_new _ _, World.ownsRowF_of (own_nil _ _ _ _), by simp [Value.ownBlock]⟩
theorem builder_below {B b : Nat} {bs : List Value} {W W' : World} (h : Lib.IsBuilderF 67 5 B b bs W) (hb : Below W.heap.size W W') : Lib.IsBuilderF 67 5 B b bs W' := by
  have key : ∀ p, Lib.BuilderAtF 67 5 B b p bs W → Lib.BuilderAtF 67 5 B b p bs W' := by
    rintro p ⟨h1, v, hv, ⟨hl, ho⟩, hne⟩
    refine ⟨h1, v, by rw [hb.block _ (heap_lt' hv)]; exact hv, ⟨hl, ?_⟩, hne⟩
    rcases ho with ho | ⟨g, cap, cur, fz, e, hg, hc, r⟩
    · exact .inl ho
    · exact .inr ⟨g, cap, cur, fz, e, hg, by rw [hb.block _ (heap_lt' hc)]; exact hc, r⟩
  exact h.elim (fun x => .inl (key _ x)) (fun x => .inr (key _ x))
/-- The row of the table that belongs to a kind. -/
theorem frm_row {w : World} {n : Nat} (h : Frm w n) (q : Nat) (hq1 : 1 ≤ q) (hq : q ≤ 7) : ∃ (mw : Nat) (fvw : Array Value) (nw : Int) (mr : Nat) (fvr : Array Value), w.cell? ⟨n + 2, q * 4, none⟩ = some (.string (kindS.getD q ByteArray.empty)) ∧ w.cell? ⟨n + 2, q * 4 + 1, none⟩ = some (.func (.func mw) #[] fvw) ∧ w.cell? ⟨n + 2, q * 4 + 2, none⟩ = some (.int .i64 nw) ∧ w.cell? ⟨n + 2, q * 4 + 3, none⟩ = some (.func (.func mr) #[] fvr) ∧ (formCells (n + 1))[q * 4 + 1]? = some (.func (.func mw) #[] fvw) := by
  rcases (show q = 1 ∨ q = 2 ∨ q = 3 ∨ q = 4 ∨ q = 5 ∨ q = 6 ∨ q = 7 by omega) with h1 | h1 | h1 | h1 | h1 | h1 | h1 <;> subst h1 <;> exact ⟨_, _, _, _, _, by simp only [World.cell?, h.tab]; rfl, by simp only [World.cell?, h.tab]; rfl, by simp only [World.cell?, h.tab]; rfl, by simp only [World.cell?, h.tab]; rfl, rfl⟩
theorem R_fresh {W : World} (base : Nat) (xs : List ByteArray) (hb : base ≤ W.heap.size) {n g : Nat} (hg : g = W.heap.size) (hm : xs.length ≤ 9223372036854775807) {cs : Array Value} (hcs : cs = (xs.map Value.string).toArray) {m : Nat} (hm1 : n = xs.length := by rfl) (hm2 : m = xs.length := by rfl) :
    Kd.string.R 9 (W.alloc (.cells cs 9)) base (fun _ => True) (.slice (some ⟨g, 0, none⟩) n m) xs := by
  subst hg hcs hm1 hm2
  refine Kd.R_of_own (enc := Value.string) (h1 := fun _ => rfl) ?_ (fun _ _ => trivial)
  have h2 := World.ownsRow_lit (base := base) (e := 9) (size := 1) W (xs.map Value.string).toArray xs.length hb (by simpa [maxLen] using hm) (by simp)
  simpa [encs] using h2
/-- The words behind the place, in numbers. -/
def writeN (q a b : Nat) : List ByteArray :=
  if q = 1 ∨ q = 2 then [hexS a, hexS b] else if q = 3 then [faultS.getD a ByteArray.empty, hexS b] else if q = 4 then [decS a] else if q = 5 then [hexS b ++ hexS a] else if q = 7 then [hexS a] else []
theorem writeL_eq {o : S35} {q a b : Nat} (h2 : o.f2 = q) (h4 : o.f4 = a) (h5 : o.f5 = b) : writeL o = writeN q a b := by
  unfold writeL writeN
  rw [h2, h4, h5]
  simp only [Int.toNat_natCast]
  repeat' split
  all_goals first | rfl | omega
theorem fn_inv {m m' : Nat} {f f' : Array Value} (h : some (Value.func (.func m) #[] f) = some (Value.func (.func m') #[] f')) : m' = m ∧ f' = f := by
  injection h with h
  injection h with h1 h2 h3
  injection h1 with h1
  exact ⟨h1.symm, h3.symm⟩
theorem enter_any {n q mw : Nat} {fvw : Array Value} (hq1 : 1 ≤ q) (hq7 : q ≤ 7) (h : (formCells (n + 1))[q * 4 + 1]? = some (.func (.func mw) #[] fvw)) : ∀ args w, (callFunc mw args).run Tryz.prog w = .ok (.enter mw args) w := by
  rcases (show q = 1 ∨ q = 2 ∨ q = 3 ∨ q = 4 ∨ q = 5 ∨ q = 6 ∨ q = 7 by omega) with h1 | h1 | h1 | h1 | h1 | h1 | h1 <;> subst h1
  · obtain ⟨rfl, rfl⟩ := fn_inv (m := 70) (f := #[]) h; exact enters_of Tryz.func70 (by kernel_rfl) rfl
  · obtain ⟨rfl, rfl⟩ := fn_inv (m := 70) (f := #[]) h; exact enters_of Tryz.func70 (by kernel_rfl) rfl
  · obtain ⟨rfl, rfl⟩ := fn_inv (m := 72) (f := #[.pointer (some ⟨n + 1, 0, none⟩)]) h; exact enters_of Tryz.func72 (by kernel_rfl) rfl
  · obtain ⟨rfl, rfl⟩ := fn_inv (m := 77) (f := #[]) h; exact enters_of Tryz.func77 (by kernel_rfl) rfl
  · obtain ⟨rfl, rfl⟩ := fn_inv (m := 80) (f := #[]) h; exact enters_of Tryz.func80 (by kernel_rfl) rfl
  · obtain ⟨rfl, rfl⟩ := fn_inv (m := 82) (f := #[]) h; exact enters_of Tryz.func82 (by kernel_rfl) rfl
  · obtain ⟨rfl, rfl⟩ := fn_inv (m := 84) (f := #[]) h; exact enters_of Tryz.func84 (by kernel_rfl) rfl
theorem write_any {W : World} {n q mw : Nat} {fvw : Array Value} (hF : Frm W n) (t cl p a b : Nat) (hq1 : 1 ≤ q) (hq7 : q ≤ 7) (ha : a < 4294967296) (hb : b < 4294967296) (h3 : q = 3 → a < 7) (h4 : q = 4 → a < 100) (h : (formCells (n + 1))[q * 4 + 1]? = some (.func (.func mw) #[] fvw)) :
    Calls Tryz.prog mw (#[.agg #[.int .u64 t, .int .i64 cl, .int .i64 q, .int .u32 p, .int .u32 a, .int .u32 b]] ++ fvw) W (WrR W (writeN q a b)) := by
  rcases (show q = 1 ∨ q = 2 ∨ q = 3 ∨ q = 4 ∨ q = 5 ∨ q = 6 ∨ q = 7 by omega) with h1 | h1 | h1 | h1 | h1 | h1 | h1 <;> subst h1
  · obtain ⟨rfl, rfl⟩ := fn_inv (m := 70) (f := #[]) h
    rw [show (#[Value.agg #[.int .u64 t, .int .i64 cl, .int .i64 ((1 : Nat) : Int), .int .u32 p, .int .u32 a, .int .u32 b]] ++ (#[] : Array Value)) = #[Value.agg #[.int .u64 t, .int .i64 cl, .int .i64 ((1 : Nat) : Int), .int .u32 p, .int .u32 a, .int .u32 b]] from rfl, show writeN 1 a b = [hexS a, hexS b] from rfl]
    exact w70_ok _ _ _ _ a b ha hb W
  · obtain ⟨rfl, rfl⟩ := fn_inv (m := 70) (f := #[]) h
    rw [show (#[Value.agg #[.int .u64 t, .int .i64 cl, .int .i64 ((2 : Nat) : Int), .int .u32 p, .int .u32 a, .int .u32 b]] ++ (#[] : Array Value)) = #[Value.agg #[.int .u64 t, .int .i64 cl, .int .i64 ((2 : Nat) : Int), .int .u32 p, .int .u32 a, .int .u32 b]] from rfl, show writeN 2 a b = [hexS a, hexS b] from rfl]
    exact w70_ok _ _ _ _ a b ha hb W
  · obtain ⟨rfl, rfl⟩ := fn_inv (m := 72) (f := #[.pointer (some ⟨n + 1, 0, none⟩)]) h
    rw [show (#[Value.agg #[.int .u64 t, .int .i64 cl, .int .i64 ((3 : Nat) : Int), .int .u32 p, .int .u32 a, .int .u32 b]] ++ (#[.pointer (some ⟨n + 1, 0, none⟩)] : Array Value)) = #[Value.agg #[.int .u64 t, .int .i64 cl, .int .i64 ((3 : Nat) : Int), .int .u32 p, .int .u32 a, .int .u32 b], .pointer (some ⟨n + 1, 0, none⟩)] from rfl, show writeN 3 a b = [faultS.getD a ByteArray.empty, hexS b] from rfl]
    exact w72_ok _ _ _ _ a b n (h3 rfl) hb W hF
  · obtain ⟨rfl, rfl⟩ := fn_inv (m := 77) (f := #[]) h
    rw [show (#[Value.agg #[.int .u64 t, .int .i64 cl, .int .i64 ((4 : Nat) : Int), .int .u32 p, .int .u32 a, .int .u32 b]] ++ (#[] : Array Value)) = #[Value.agg #[.int .u64 t, .int .i64 cl, .int .i64 ((4 : Nat) : Int), .int .u32 p, .int .u32 a, .int .u32 b]] from rfl, show writeN 4 a b = [⟨(Lib.decDigits a).toArray⟩] from rfl]
    exact w77_ok _ _ _ _ a b (h4 rfl) W
  · obtain ⟨rfl, rfl⟩ := fn_inv (m := 80) (f := #[]) h
    rw [show (#[Value.agg #[.int .u64 t, .int .i64 cl, .int .i64 ((5 : Nat) : Int), .int .u32 p, .int .u32 a, .int .u32 b]] ++ (#[] : Array Value)) = #[Value.agg #[.int .u64 t, .int .i64 cl, .int .i64 ((5 : Nat) : Int), .int .u32 p, .int .u32 a, .int .u32 b]] from rfl, show writeN 5 a b = [hexS b ++ hexS a] from rfl]
    exact w80_ok _ _ _ _ a b ha hb W
  · obtain ⟨rfl, rfl⟩ := fn_inv (m := 82) (f := #[]) h
    rw [show (#[Value.agg #[.int .u64 t, .int .i64 cl, .int .i64 ((6 : Nat) : Int), .int .u32 p, .int .u32 a, .int .u32 b]] ++ (#[] : Array Value)) = #[Value.agg #[.int .u64 t, .int .i64 cl, .int .i64 ((6 : Nat) : Int), .int .u32 p, .int .u32 a, .int .u32 b]] from rfl, show writeN 6 a b = [] from rfl]
    exact w82_ok _ _ _ _ a b W
  · obtain ⟨rfl, rfl⟩ := fn_inv (m := 84) (f := #[]) h
    rw [show (#[Value.agg #[.int .u64 t, .int .i64 cl, .int .i64 ((7 : Nat) : Int), .int .u32 p, .int .u32 a, .int .u32 b]] ++ (#[] : Array Value)) = #[Value.agg #[.int .u64 t, .int .i64 cl, .int .i64 ((7 : Nat) : Int), .int .u32 p, .int .u32 a, .int .u32 b]] from rfl, show writeN 7 a b = [hexS a] from rfl]
    exact w84_ok _ _ _ _ a b ha W
theorem R_cells {w : World} {base : Nat} {ok : Nat → Prop} {v : Value} {xs : List ByteArray} (h : Kd.string.R 9 w base ok v xs) (hn : 0 < xs.length) : ∃ g cap, v = .slice (some ⟨g, 0, none⟩) xs.length cap ∧ xs.length ≤ cap ∧ g < w.heap.size ∧ ∀ (j : Nat) x, xs[j]? = some x → w.cell? ⟨g, 0 + j, none⟩ = some (.string x) := by
  obtain ⟨_, ⟨_, h0⟩ | ⟨g, cap, cur, hv, hg, hb, hcap, hmx, hsz, htake⟩⟩ := Kd.own_of_R (enc := Value.string) (h1 := fun _ => rfl) h
  · omega
  · refine ⟨g, cap, hv, hcap, heap_lt' hb, fun j x hx => ?_⟩
    have hj : j < xs.length := by
      rcases Nat.lt_or_ge j xs.length with h' | h'
      · exact h'
      · rw [List.getElem?_eq_none h'] at hx; simp at hx
    have h2 : (cur.toList.take (xs.length * 1))[j]? = some (.string x) := by rw [htake]; simp [encs, hx]
    rw [List.getElem?_take_of_lt (by omega)] at h2
    rw [Nat.zero_add]
    simp only [World.cell?, hb]
    simpa using h2
end Go.Proofs.YtohighedgdlflaaGreatDoor

/- The read functions of trace.forms. -/
namespace Go.Proofs.YtohighedgdlflaaGreatDoor
open Go.Shelf Go.RowKit Go.Sort Go.Lib Go.Proofs.YtohighedgdlflaaGreatDoorW.PrintWords Go.Proofs.YtohighedgdlflaaGreatDoor.PR
set_option linter.unusedVariables false
set_option linter.unusedSimpArgs false
/-- The observation's block. -/
def ObN (W : World) (O t cl q p a b : Nat) : Prop := W.heap[O]? = some (.cells #[.int .u64 t, .int .i64 cl, .int .i64 q, .int .u32 p, .int .u32 a, .int .u32 b] 35 (0, 0))
theorem ObN.below {W W' : World} {O t cl q p a b : Nat} (h : ObN W O t cl q p a b) (hb : Below W.heap.size W W') : ObN W' O t cl q p a b := (hb.block O (heap_lt' h)).trans h
theorem ObN.cells {W : World} {O t cl q p a b : Nat} (h : ObN W O t cl q p a b) : W.cell? ⟨O, 0, none⟩ = some (.int .u64 t) ∧ W.cell? ⟨O, 1, none⟩ = some (.int .i64 cl) ∧ W.cell? ⟨O, 2, none⟩ = some (.int .i64 q) ∧ W.cell? ⟨O, 3, none⟩ = some (.int .u32 p) ∧ W.cell? ⟨O, 4, none⟩ = some (.int .u32 a) ∧ W.cell? ⟨O, 5, none⟩ = some (.int .u32 b) := by
  unfold ObN at h
  refine ⟨?_, ?_, ?_, ?_, ?_, ?_⟩ <;> simp [World.cell?, h]
theorem ObN.frozen {W : World} {O t cl q p a b : Nat} (h : ObN W O t cl q p a b) (j : Nat) : W.frozen? ⟨O, j, none⟩ = false := by
  unfold ObN at h
  simp [World.frozen?, h]
theorem ObN.set4 {W : World} {O t cl q p a b : Nat} (h : ObN W O t cl q p a b) (x : Nat) : ObN (W.setCell ⟨O, 4, none⟩ (.int .u32 x)) O t cl q p x b := by
  unfold ObN at *
  rw [heap_setCell_same _ _ _ _ _ _ h]; rfl
theorem ObN.set5 {W : World} {O t cl q p a b : Nat} (h : ObN W O t cl q p a b) (x : Nat) : ObN (W.setCell ⟨O, 5, none⟩ (.int .u32 x)) O t cl q p a x := by
  unfold ObN at *
  rw [heap_setCell_same _ _ _ _ _ _ h]; rfl
def RdR (W : World) (O t cl q p a b : Nat) (e : Ending) (w' : World) : Prop := e = .returned (.tuple #[]) ∧ ObN w' O t cl q p a b ∧ Below O W w'
theorem r83_ok (O t cl q p : Nat) (v : Value) (w : World) (hO : ObN w O t cl q p 0 0) : Calls Tryz.prog 83 #[.pointer (some ⟨O, 0, none⟩), v] w (RdR w O t cl q p 0 0) := by
  go_enter Tryz.func83, Tryz.ntmps83
  go_wp2_with fail
  go_end0
  exact ⟨rfl, hO, Below.refl _ _⟩
set_option maxRecDepth 100000 in
set_option maxHeartbeats 2000000 in
theorem r85_ok (O t cl q p a g c : Nat) (w : World) (ha : a < 4294967296) (hO : ObN w O t cl q p 0 0) (h0 : w.cell? ⟨g, 4, none⟩ = some (.string (hexS a))) :
    Calls Tryz.prog 85 #[.pointer (some ⟨O, 0, none⟩), .slice (some ⟨g, 4, none⟩) 1 c] w (RdR w O t cl q p a 0) := by
  have HO := Lib.hid hO
  go_enter Tryz.func85, Tryz.ntmps85
  go_wp2_with fail
  refine (unhex_ok a ha _).mono ?_
  rintro e w1 ⟨rfl, hb⟩
  have HB := Lib.hid hb
  have HO1 := Lib.hid (hO.below hb)
  obtain ⟨c0, c1, c2, c3, c4, c5⟩ := HO1.out.cells
  have f4 := HO1.out.frozen 4
  have hOlt := heap_lt' hO
  clear hb h0 hO
  go_wp2_with fail
  go_end0
  exact ⟨rfl, HO1.out.set4 a, (HB.out.mono (Nat.le_of_lt hOlt)).setCell (Nat.le_refl _) _⟩
set_option maxRecDepth 100000 in
set_option maxHeartbeats 2000000 in
theorem r78_ok (O t cl q p a g c : Nat) (w : World) (ha : a ≤ 31) (hO : ObN w O t cl q p 0 0) (h0 : w.cell? ⟨g, 4, none⟩ = some (.string (decS a))) :
    Calls Tryz.prog 78 #[.pointer (some ⟨O, 0, none⟩), .slice (some ⟨g, 4, none⟩) 1 c] w (RdR w O t cl q p a 0) := by
  have HO := Lib.hid hO
  go_enter Tryz.func78, Tryz.ntmps78
  go_wp2_with fail
  refine (decimal_ok a 31 (by omega) ha _).mono ?_
  rintro e w1 ⟨rfl, hb⟩
  have HB := Lib.hid hb
  have HO1 := Lib.hid (hO.below hb)
  obtain ⟨c0, c1, c2, c3, c4, c5⟩ := HO1.out.cells
  have f4 := HO1.out.frozen 4
  have hOlt := heap_lt' hO
  have ha2 : (a : Int) ≤ 31 := by omega
  clear hb h0 hO
  go_wp2_with fail
  go_end0
  exact ⟨rfl, HO1.out.set4 a, (HB.out.mono (Nat.le_of_lt hOlt)).setCell (Nat.le_refl _) _⟩
set_option maxRecDepth 100000 in
set_option maxHeartbeats 8000000 in
theorem r71_ok (O t cl q p a b g c : Nat) (w : World) (ha : a < 4294967296) (hb : b < 4294967296) (hO : ObN w O t cl q p 0 0) (h0 : w.cell? ⟨g, 4, none⟩ = some (.string (hexS a))) (h1 : w.cell? ⟨g, 5, none⟩ = some (.string (hexS b))) :
    Calls Tryz.prog 71 #[.pointer (some ⟨O, 0, none⟩), .slice (some ⟨g, 4, none⟩) 2 c] w (RdR w O t cl q p a b) := by
  have hOlt := heap_lt' hO
  have HF : Hid (∀ W, Below w.heap.size w W → W.cell? ⟨g, 4, none⟩ = some (.string (hexS a)) ∧ W.cell? ⟨g, 5, none⟩ = some (.string (hexS b)) ∧ ObN W O t cl q p 0 0) := fun W hW => ⟨cell_later hW h0, cell_later hW h1, hO.below hW⟩
  clear h0 h1 hO
  go_enter Tryz.func71, Tryz.ntmps71
  go_wp2_with fail
  obtain ⟨i0, i1, _⟩ := HF.out _ (Below.refl _ _)
  go_region_with (first
    | (go_at_call 76; with_reducible refine (unhex_ok a ha _).mono ?_; rintro e w5 ⟨rfl, hb5⟩; have HB5 := Lib.hid ((below_drew (Below.refl w.heap.size w)).trans (hb5.mono (by simp))); obtain ⟨d0, d1, d2⟩ := HF.out _ HB5.out; have HD2 := Lib.hid d2; clear hb5 d2)
    | (go_at_call 76; with_reducible refine (unhex_ok b hb _).mono ?_; rintro e w6 ⟨rfl, hb6⟩; have HB6 := Lib.hid (HB5.out.trans (hb6.mono HB5.out.size)); have HD3 := Lib.hid (HD2.out.below hb6); obtain ⟨x0, x1, x2, x3, x4, x5⟩ := HD3.out.cells; have f4 := HD3.out.frozen 4; have f5 := HD3.out.frozen 5; have y5 := (HD3.out.set4 a).cells.2.2.2.2.2; have z5 := (HD3.out.set4 a).frozen 5; clear hb6))
  all_goals
    go_wp2_with fail
    go_end0
    exact ⟨rfl, (HD3.out.set4 a).set5 b, ((HB6.out.mono (Nat.le_of_lt hOlt)).setCell (Nat.le_refl _) _).setCell (Nat.le_refl _) _⟩
end Go.Proofs.YtohighedgdlflaaGreatDoor

/- Two more read functions of trace.forms. -/
namespace Go.Proofs.YtohighedgdlflaaGreatDoor
open Go.Shelf Go.RowKit Go.Sort Go.Lib Go.Proofs.YtohighedgdlflaaGreatDoorW.PrintWords Go.Proofs.YtohighedgdlflaaGreatDoor.PR
set_option linter.unusedVariables false
set_option linter.unusedSimpArgs false
theorem cat_fst (a b : Nat) : (hexS a ++ hexS b).extract 0 8 = hexS a := by
  apply ByteArray.ext
  simp [hexS, hexL]
theorem cat_snd (a b : Nat) : (hexS a ++ hexS b).extract 8 16 = hexS b := by
  apply ByteArray.ext
  simp [hexS, hexL]
  exact List.take_of_length_le (by simp)
set_option maxRecDepth 100000 in
set_option maxHeartbeats 8000000 in
theorem r81_ok (O t cl q p a b g c : Nat) (w : World) (ha : a < 4294967296) (hb : b < 4294967296) (hO : ObN w O t cl q p 0 0) (h0 : w.cell? ⟨g, 4, none⟩ = some (.string (hexS b ++ hexS a))) :
    Calls Tryz.prog 81 #[.pointer (some ⟨O, 0, none⟩), .slice (some ⟨g, 4, none⟩) 1 c] w (RdR w O t cl q p a b) := by
  have hOlt := heap_lt' hO
  obtain ⟨x, hx⟩ : ∃ x, x = hexS b ++ hexS a := ⟨_, rfl⟩
  have hsz : x.size = 16 := by rw [hx, ByteArray.size_append, hexS_size, hexS_size]
  have hs1 : ∀ W : World, (Instr.slice 9 (.string x) none (some (.int .i64 8)) none).run Tryz.prog W = .ok (.string (hexS b)) W := fun W => by
    rw [run_slice_string_to_if W 9 x .i64 8 Tryz.underlying9, if_pos (by rw [hsz]; omega), hx, show (8 : Int).toNat = 8 from rfl, cat_fst]
  have hs2 : ∀ W : World, (Instr.slice 9 (.string x) (some (.int .i64 8)) none none).run Tryz.prog W = .ok (.string (hexS a)) W := fun W => by
    rw [run_slice_string_from_if W 9 x .i64 8 Tryz.underlying9, if_pos (by rw [hsz]; omega), hsz, hx, show (8 : Int).toNat = 8 from rfl, cat_snd]
  rw [← hx] at h0
  have HF : Hid (∀ W, Below w.heap.size w W → W.cell? ⟨g, 4, none⟩ = some (.string x) ∧ ObN W O t cl q p 0 0) := fun W hW => ⟨cell_later hW h0, hO.below hW⟩
  clear h0 hO hx
  go_enter Tryz.func81, Tryz.ntmps81
  obtain ⟨i0, _⟩ := HF.out _ (Below.refl _ _)
  go_wp2_with fail
  refine (must_ok _).mono ?_
  rintro e w1 ⟨rfl, rfl⟩
  go_wp2_with fail
  go_region_with (first
    | (go_at_call 76; with_reducible refine (unhex_ok b hb _).mono ?_; rintro e w5 ⟨rfl, hb5⟩; have HB5 := Lib.hid ((below_drew (Below.refl w1.heap.size w1)).trans (hb5.mono (by simp))); obtain ⟨d0, d2⟩ := HF.out _ HB5.out; have HD2 := Lib.hid d2; clear hb5 d2)
    | (go_at_call 76; with_reducible refine (unhex_ok a ha _).mono ?_; rintro e w6 ⟨rfl, hb6⟩; have HB6 := Lib.hid (HB5.out.trans (hb6.mono HB5.out.size)); have HD3 := Lib.hid (HD2.out.below hb6); obtain ⟨x0, x1, x2, x3, x4, x5⟩ := HD3.out.cells; have f4 := HD3.out.frozen 4; have f5 := HD3.out.frozen 5; have y5 := (HD3.out.set5 b).cells.2.2.2.2.1; have z5 := (HD3.out.set5 b).frozen 4; clear hb6))
  all_goals
    go_wp2_with fail
    go_end0
    exact ⟨rfl, (HD3.out.set5 b).set4 a, ((HB6.out.mono (Nat.le_of_lt hOlt)).setCell (Nat.le_refl _) _).setCell (Nat.le_refl _) _⟩
end Go.Proofs.YtohighedgdlflaaGreatDoor

/- The read function of a fault. -/
namespace Go.Proofs.YtohighedgdlflaaGreatDoor
open Go.Shelf Go.RowKit Go.Sort Go.Lib Go.Proofs.YtohighedgdlflaaGreatDoorW.PrintWords Go.Proofs.YtohighedgdlflaaGreatDoor.PR
set_option linter.unusedVariables false
set_option linter.unusedSimpArgs false
theorem idx_fault (a : Nat) (h1 : 1 ≤ a) (h6 : a ≤ 6) : Lib.idxOfS (faultS.take 7) (faultS.getD a ByteArray.empty) = a := by
  rcases (show a = 1 ∨ a = 2 ∨ a = 3 ∨ a = 4 ∨ a = 5 ∨ a = 6 by omega) with h | h | h | h | h | h <;> subst h <;> decide
set_option maxRecDepth 100000 in
set_option maxHeartbeats 8000000 in
theorem r73_ok (O t cl q p a b g c n : Nat) (w : World) (ha1 : 1 ≤ a) (ha6 : a ≤ 6) (hb : b < 4294967296) (hF : Frm w n) (hO : ObN w O t cl q p 0 0) (h0 : w.cell? ⟨g, 4, none⟩ = some (.string (faultS.getD a ByteArray.empty))) (h1 : w.cell? ⟨g, 5, none⟩ = some (.string (hexS b))) :
    Calls Tryz.prog 73 #[.pointer (some ⟨O, 0, none⟩), .slice (some ⟨g, 4, none⟩) 2 c, .pointer (some ⟨n + 1, 0, none⟩)] w (RdR w O t cl q p a b) := by
  have hOlt := heap_lt' hO
  obtain ⟨x, hx⟩ : ∃ x, x = faultS.getD a ByteArray.empty := ⟨_, rfl⟩
  have hidx : ∀ m, Calls Tryz.prog 74 #[.slice (some ⟨n, 0, none⟩) 7 7, .string x] (w.drewN m) fun e w' => e = .returned (.int .i64 a) ∧ w' = w.drewN m := fun m => by
    have h := Tryz.slices_Index_string n 0 7 7 faultS x (w.drewN m) (by decide) (by decide) (fun j hj => by
      have hj7 : j < 7 := hj
      rw [World.cell?_drewN, Nat.zero_add]
      simp only [World.cell?, hF.names]
      rcases (show j = 0 ∨ j = 1 ∨ j = 2 ∨ j = 3 ∨ j = 4 ∨ j = 5 ∨ j = 6 by omega) with h | h | h | h | h | h | h <;> subst h <;> rfl)
    rwa [hx, idx_fault a ha1 ha6, ← hx] at h
  have hptr : w.cell? ⟨n + 1, 0, none⟩ = some (.slice (some ⟨n, 0, none⟩) 7 7) := by simp [World.cell?, hF.ptr]
  rw [← hx] at h0
  have HF : Hid (∀ W, Below w.heap.size w W → W.cell? ⟨g, 5, none⟩ = some (.string (hexS b)) ∧ ObN W O t cl q p 0 0) := fun W hW => ⟨cell_later hW h1, hO.below hW⟩
  have hap : (0 : Int) < a := by omega
  have haw : (a : Int) < 4294967296 := by omega
  clear hx hF hO
  go_enter Tryz.func73, Tryz.ntmps73
  go_wp2_with fail
  go_quiet ((go_at_call 74; with_reducible exact Calls.quiet_of_same (hidx _)))
  clear hidx hptr h0
  go_wp2_with fail
  rw [show decide (0 < a) = true from decide_eq_true (by omega)]
  refine (must_ok _).mono ?_
  rintro e w1 ⟨rfl, rfl⟩
  go_wp2_with fail
  refine (unhex_ok b hb _).mono ?_
  rintro e w5 ⟨rfl, hb5⟩
  have HB5 := Lib.hid ((pw_below_drewN (Below.refl w.heap.size w) nq).trans (hb5.mono (by simp)))
  obtain ⟨d0, d2⟩ := HF.out _ HB5.out
  have HD2 := Lib.hid d2
  obtain ⟨x0, x1, x2, x3, x4, x5⟩ := HD2.out.cells
  have f4 := HD2.out.frozen 4
  have f5 := HD2.out.frozen 5
  have y5 := (HD2.out.set4 a).cells.2.2.2.2.2
  have z5 := (HD2.out.set4 a).frozen 5
  clear hb5 d2
  go_wp2_with fail
  go_end0
  exact ⟨rfl, (HD2.out.set4 a).set5 b, ((HB5.out.mono (Nat.le_of_lt hOlt)).setCell (Nat.le_refl _) _).setCell (Nat.le_refl _) _⟩
end Go.Proofs.YtohighedgdlflaaGreatDoor

/- slices.IndexFunc over trace.forms: the row of a kind's word. -/
namespace Go.Proofs.YtohighedgdlflaaGreatDoor
open Go.Shelf Go.RowKit Go.Sort Go.Lib Go.Proofs.YtohighedgdlflaaGreatDoorW.PrintWords Go.Proofs.YtohighedgdlflaaGreatDoor.PR
set_option linter.unusedVariables false
set_option linter.unusedSimpArgs false
set_option maxRecDepth 100000 in
set_option maxHeartbeats 2000000 in
theorem p108_0 (Wb g m c : Nat) (w : World) (hs : w.cell? ⟨Wb, 0, none⟩ = some (.slice (some ⟨g, 0, none⟩) m c)) :
    Calls Tryz.prog 108 #[.agg #[.string ⟨#[]⟩, .nilFunc, .int .i64 0, .nilFunc], .pointer (some ⟨Wb, 0, none⟩)] w fun e w' => e = .returned (.bool false) ∧ Below w.heap.size w w' := by
  have hbl := Lib.hid (below_alloc (Below.refl w.heap.size w) (.cells #[.string ⟨#[]⟩, .nilFunc, .int .i64 0, .nilFunc] 74 (0, 0)))
  go_enter Tryz.func108, Tryz.ntmps108
  go_wp2_with fail
  go_quiet (fail)
  go_wp2_with fail
  go_ret
  exact ⟨rfl, pw_below_drewN hbl.out _⟩
set_option maxRecDepth 100000 in
set_option maxHeartbeats 2000000 in
theorem p108_ok (wd x : ByteArray) (mw : Nat) (fvw : Array Value) (nw : Int) (mr : Nat) (fvr : Array Value) (Wb g m c : Nat) (r : Bool) (w : World) (hne : wd.toList.isEmpty = false) (hr : (wd.toList == x.toList) = r) (hm : 2 < m) (hs : w.cell? ⟨Wb, 0, none⟩ = some (.slice (some ⟨g, 0, none⟩) m c)) (hx : w.cell? ⟨g, 2, none⟩ = some (.string x)) :
    Calls Tryz.prog 108 #[.agg #[.string wd, .func (.func mw) #[] fvw, .int .i64 nw, .func (.func mr) #[] fvr], .pointer (some ⟨Wb, 0, none⟩)] w fun e w' => e = .returned (.bool r) ∧ Below w.heap.size w w' := by
  have hbl := Lib.hid (below_alloc (Below.refl w.heap.size w) (.cells #[.string wd, .func (.func mw) #[] fvw, .int .i64 nw, .func (.func mr) #[] fvr] 74 (0, 0)))
  have hm2 : (2 : Int) < m := by omega
  have l1 := block_lt_of_cell hs
  have l2 := block_lt_of_cell hx
  have hs' : (w.alloc (.cells #[.string wd, .func (.func mw) #[] fvw, .int .i64 nw, .func (.func mr) #[] fvr] 74)).cell? ⟨Wb, 0, none⟩ = some (.slice (some ⟨g, 0, none⟩) m c) := cell_later hbl.out hs
  have hx' : (w.alloc (.cells #[.string wd, .func (.func mw) #[] fvw, .int .i64 nw, .func (.func mr) #[] fvr] 74)).cell? ⟨g, 2, none⟩ = some (.string x) := cell_later hbl.out hx
  go_enter Tryz.func108, Tryz.ntmps108
  go_wp2_with fail
  go_quiet (fail)
  go_wp2_with fail
  go_ret
  exact ⟨by rw [← hr]; rfl, pw_below_drewN hbl.out _⟩
theorem kind_ne (k : Nat) (h1 : 1 ≤ k) (h7 : k ≤ 7) : (kindS.getD k ByteArray.empty).toList.isEmpty = false := by
  rcases (show k = 1 ∨ k = 2 ∨ k = 3 ∨ k = 4 ∨ k = 5 ∨ k = 6 ∨ k = 7 by omega) with h | h | h | h | h | h | h <;> subst h <;> kernel_rfl
theorem kind_lt (k q : Nat) (h1 : 1 ≤ k) (hkq : k < q) (h7 : q ≤ 7) : ((kindS.getD k ByteArray.empty).toList == (kindS.getD q ByteArray.empty).toList) = false := by
  rcases (show q = 2 ∨ q = 3 ∨ q = 4 ∨ q = 5 ∨ q = 6 ∨ q = 7 by omega) with h | h | h | h | h | h <;> subst h <;>
    rcases (show k = 1 ∨ k = 2 ∨ k = 3 ∨ k = 4 ∨ k = 5 ∨ k = 6 by omega) with h | h | h | h | h | h <;> subst h <;> first | omega | kernel_rfl
set_option maxRecDepth 100000 in
set_option maxHeartbeats 2000000 in
theorem idxForm_ok (n q Wb g m c : Nat) (w : World) (hF : Frm w n) (hq1 : 1 ≤ q) (hq7 : q ≤ 7) (hm : 2 < m) (hs : w.cell? ⟨Wb, 0, none⟩ = some (.slice (some ⟨g, 0, none⟩) m c)) (hx : w.cell? ⟨g, 2, none⟩ = some (.string (kindS.getD q ByteArray.empty))) :
    Calls Tryz.prog 107 #[.slice (some ⟨n + 2, 0, none⟩) 8 8, .func (.func 108) #[] #[.pointer (some ⟨Wb, 0, none⟩)]] w fun e w' => e = .returned (.int .i64 q) ∧ Below w.heap.size w w' := by
  have HF := Lib.hid hF
  have HS := Lib.hid hs
  have HX := Lib.hid hx
  clear hF hs hx
  go_enter Tryz.func107, Tryz.ntmps107
  go_wp2_with fail
  go_loopw [5, 8] (fun v5 v8 wr => ∃ k : Nat, k ≤ q ∧ v8 = .int .i64 k ∧ Hid (Below w.heap.size w wr)) (fun _ i _ => 8 - (RowKit.intOf i).toNat)
  case atStart => exact ⟨0, by omega, rfl, Below.refl _ _⟩
  case round =>
    obtain ⟨k, hk, rfl, HB⟩ := hrel
    have hk8 : (k : Int) < 8 := by omega
    have HS1 := Lib.hid (cell_later HB.out HS.out)
    have HX1 := Lib.hid (cell_later HB.out HX.out)
    by_cases hk0 : k = 0
    · subst hk0
      have hF := HF.out.below HB.out
      have g0 : wr.cell? ⟨n + 2, 0, none⟩ = some (.string ⟨#[]⟩) := by simp only [World.cell?, hF.tab]; rfl
      have g1 : wr.cell? ⟨n + 2, 1, none⟩ = some .nilFunc := by simp only [World.cell?, hF.tab]; rfl
      have g2 : wr.cell? ⟨n + 2, 2, none⟩ = some (.int .i64 0) := by simp only [World.cell?, hF.tab]; rfl
      have g3 : wr.cell? ⟨n + 2, 3, none⟩ = some .nilFunc := by simp only [World.cell?, hF.tab]; rfl
      clear hF
      go_wp2_with fail
      refine (p108_0 Wb g m c _ HS1.out).mono ?_
      rintro e w1 ⟨rfl, hb⟩
      have HB1 := Lib.hid (HB.out.trans (hb.mono HB.out.size))
      clear hb g0 g1 g2 g3
      go_wp2_with fail
      go_roundw
      case rel => exact ⟨1, by omega, rfl, HB1⟩
      case measure => simp [RowKit.intOf]
    · obtain ⟨mw, fvw, nw, mr, fvr, g0, g1, g2, g3, _⟩ := frm_row (HF.out.below HB.out) k (by omega) (by omega)
      by_cases hkq : k = q
      · subst hkq
        go_wp2_with fail
        refine (p108_ok _ _ mw fvw nw mr fvr Wb g m c true _ (kind_ne k hq1 hq7) (by simp) hm HS1.out HX1.out).mono ?_
        rintro e w1 ⟨rfl, hb⟩
        have HB1 := Lib.hid (HB.out.trans (hb.mono HB.out.size))
        clear hb g0 g1 g2 g3
        go_wp2_with fail
        go_ret
        exact ⟨rfl, HB1.out⟩
      · go_wp2_with fail
        refine (p108_ok _ _ mw fvw nw mr fvr Wb g m c false _ (kind_ne k (by omega) (by omega)) (kind_lt k q (by omega) (by omega) hq7) hm HS1.out HX1.out).mono ?_
        rintro e w1 ⟨rfl, hb⟩
        have HB1 := Lib.hid (HB.out.trans (hb.mono HB.out.size))
        clear hb g0 g1 g2 g3
        go_wp2_with fail
        go_roundw
        case rel => exact ⟨k + 1, by omega, by go_num, HB1⟩
        case measure => simp [RowKit.intOf]; omega
end Go.Proofs.YtohighedgdlflaaGreatDoor

/- The words of an observation that may be, and such numbers. -/
namespace Go.Proofs.YtohighedgdlflaaGreatDoor
open Go.Shelf Go.RowKit Go.Sort Go.Lib Go.Proofs.YtohighedgdlflaaGreatDoorW.PrintWords Go.Proofs.YtohighedgdlflaaGreatDoor.PR
set_option linter.unusedVariables false
set_option linter.unusedSimpArgs false
def wordsN (t cl q p a b : Nat) : List ByteArray := [decS t, decS cl, kindS.getD q ByteArray.empty, hexS p] ++ writeN q a b
/-- What may be, in numbers. -/
structure GoodN (t cl q p a b : Nat) : Prop where
  t63 : t ≤ 9223372036854775807
  cl1 : 1 ≤ cl
  cl8 : cl ≤ 8
  q1 : 1 ≤ q
  q7 : q ≤ 7
  p32 : p < 4294967296
  a32 : a < 4294967296
  b32 : b < 4294967296
  k3 : q = 3 → 1 ≤ a ∧ a ≤ 6
  k4 : q = 4 → a ≤ 31 ∧ b = 0
  k6 : q = 6 → a = 0 ∧ b = 0
  k7 : q = 7 → b = 0
  k5 : q = 5 → b ≤ 2147483647
def nWords (q : Nat) : Nat := if q = 1 ∨ q = 2 ∨ q = 3 then 2 else if q = 6 then 0 else 1
def obN (t cl q p a b : Nat) : S35 := ⟨t, cl, q, p, a, b⟩
theorem good_of_may {o : S35} (h : mayB o = true) (hF : FitsT o) : ∃ t cl q p a b : Nat, o = obN t cl q p a b ∧ GoodN t cl q p a b := by
  obtain ⟨o0, o1, o2, o3, o4, o5⟩ := o
  obtain ⟨⟨f1, f2, f3, f4, f5, f6⟩, f7, f8⟩ := hF
  unfold mayB kindB at h
  simp only [Bool.and_eq_true, decide_eq_true_eq] at h
  obtain ⟨⟨⟨m1, m2⟩, m3⟩, m4⟩ := h
  simp only at f1 f2 f3 f4 f5 f6 f7 f8
  have hq : 1 ≤ o2 ∧ o2 ≤ 7 ∧ (o2 = 3 → 1 ≤ o4 ∧ o4 ≤ 6) ∧ (o2 = 4 → o4 < 32 ∧ o5 = 0) ∧ (o2 = 5 → o5 ≤ 2147483647) ∧ (o2 = 6 → o4 = 0 ∧ o5 = 0) ∧ (o2 = 7 → o5 = 0) := by
    split at m4
    · omega
    · split at m4
      · omega
      · split at m4
        · simp at m4; omega
        · split at m4
          · simp at m4; omega
          · split at m4
            · simp at m4; omega
            · split at m4
              · simp at m4; omega
              · split at m4
                · simp at m4; omega
                · simp at m4
  obtain ⟨q1, q2, q3, q4, q5, q6, q7⟩ := hq
  refine ⟨o0.toNat, o1.toNat, o2.toNat, o3.toNat, o4.toNat, o5.toNat, ?_, ⟨by omega, by omega, by omega, by omega, by omega, by omega, by omega, by omega, by omega, by omega, by omega, by omega, by omega⟩⟩
  unfold obN
  congr <;> omega
theorem GoodN.may {t cl q p a b : Nat} (h : GoodN t cl q p a b) : mayB (obN t cl q p a b) = true := by
  obtain ⟨h1, h2, h3, h4, h5, h6, h7, h8, k3, k4, k6, k7, k5⟩ := h
  unfold mayB kindB obN
  simp only [Bool.and_eq_true, decide_eq_true_eq]
  refine ⟨⟨⟨by omega, by omega⟩, by omega⟩, ?_⟩
  rcases (show q = 1 ∨ q = 2 ∨ q = 3 ∨ q = 4 ∨ q = 5 ∨ q = 6 ∨ q = 7 by omega) with h | h | h | h | h | h | h <;> subst h <;> simp at * <;> omega
theorem wordsL_obN (t cl q p a b : Nat) : wordsL (obN t cl q p a b) = wordsN t cl q p a b := by
  unfold wordsL wordsN headL obN
  rw [writeL_eq (q := q) (a := a) (b := b) rfl rfl rfl]
  simp
def lineZ (t cl q p a b : Nat) : ByteArray := ⟨(Lib.join ((wordsN t cl q p a b).map (·.data.toList)) [32]).toArray⟩
theorem lineB_obN (t cl q p a b : Nat) : lineB (obN t cl q p a b) = (lineZ t cl q p a b).data.toList ++ [10] := by
  unfold lineB lineZ
  rw [wordsL_obN]
theorem writeN_len (q a b : Nat) (hq1 : 1 ≤ q) (hq : q ≤ 7) : (writeN q a b).length = nWords q := by
  rcases (show q = 1 ∨ q = 2 ∨ q = 3 ∨ q = 4 ∨ q = 5 ∨ q = 6 ∨ q = 7 by omega) with h1 | h1 | h1 | h1 | h1 | h1 | h1 <;> subst h1 <;> simp [writeN, nWords]
theorem wordsN_len (t cl q p a b : Nat) (hq1 : 1 ≤ q) (hq : q ≤ 7) : (wordsN t cl q p a b).length = 4 + nWords q := by
  unfold wordsN
  rw [List.length_append, writeN_len q a b hq1 hq]
  rfl
end Go.Proofs.YtohighedgdlflaaGreatDoor
