/- The law TraceTells answers true for every row of observations; proved from the walks of package trace and of the document's own answer. -/
import Derived.Test.YtohighedgdlflaaGreatDoorMT1
import Derived.Deep.QuietTactic
import Derived.BigQuiet
import Derived.BigGuard
import Derived.Deep.RegionHeld3
import Derived.Lib.QuietBelow
import Derived.Lib.OwnBridge
import Derived.Laws.EntriesVeiled
import Derived.Laws.Strings3
import Derived.Lib.SplitLaws
import Derived.Lib.Join
import Derived.Defers
import Derived.Recover
/- Decimal digits, read again. -/
namespace Go.Proofs.YtohighedgdlflaaGreatDoor
open Go.Shelf Go.RowKit Go.Sort Go.Lib Go.Proofs.YtohighedgdlflaaGreatDoorW.PrintWords Go.Proofs.YtohighedgdlflaaGreatDoor.PR
set_option linter.unusedVariables false
set_option linter.unusedSimpArgs false
theorem pm_append (M : Nat) (ys : List UInt8) : ∀ (xs : List UInt8) (acc v : Nat), Lib.parseUintM M acc xs = .ok v → Lib.parseUintM M acc (xs ++ ys) = Lib.parseUintM M v ys
  | [], acc, v, h => by simp [Lib.parseUintM] at h; subst h; rfl
  | c :: r, acc, v, h => by
    simp only [Lib.parseUintM, List.cons_append] at h ⊢
    split at h
    · split at h
      · cases h
      · split at h
        · cases h
        · rename_i h1 h2 h3
          rw [if_pos h1, if_neg h2, if_neg h3]
          exact pm_append M ys r _ v h
    · cases h
theorem dec_step {u : Nat} (h : ¬ u < 10) : Lib.decDigits u = Lib.decDigits (u / 10) ++ [UInt8.ofNat (48 + u % 10)] := by
  rw [Lib.decDigits, dif_neg h]
theorem dec_small {u : Nat} (h : u < 10) : Lib.decDigits u = [UInt8.ofNat (48 + u)] := by
  rw [Lib.decDigits, dif_pos h]
theorem pm_dec : ∀ (u : Nat), u < 18446744073709551616 → Lib.parseUintM 18446744073709551615 0 (Lib.decDigits u) = .ok u := by
  intro u
  induction u using Nat.strongRecOn with
  | ind u ih =>
    intro hu
    by_cases h : u < 10
    · rw [dec_small h]
      have hc : (UInt8.ofNat (48 + u)).toNat = 48 + u := by simp; omega
      simp only [Lib.parseUintM, hc]
      rw [if_pos (by omega), if_neg (by omega), if_neg (by omega)]
      congr 1; omega
    · rw [dec_step h, pm_append _ _ _ _ _ (ih (u / 10) (by omega) (by omega))]
      have hc : (UInt8.ofNat (48 + u % 10)).toNat = 48 + u % 10 := by simp; omega
      simp only [Lib.parseUintM, hc]
      rw [if_pos (by omega), if_neg (by omega), if_neg (by omega)]
      congr 1; omega
theorem dec_ne (u : Nat) : Lib.decDigits u ≠ [] := by
  intro h
  have := Lib.decDigits_length u
  rw [h] at this
  have := Lib.nDigits_pos u
  simp at *; omega
theorem pb_dec (u : Nat) (hu : u < 18446744073709551616) : Lib.parseUintB 64 (decS u).data.toList = .ok u := by
  unfold Lib.parseUintB
  rw [show (decS u).data.toList = Lib.decDigits u by simp [decS], if_neg (dec_ne u)]
  exact pm_dec u hu
theorem u8n {k : Nat} (h : k < 256) : (UInt8.ofNat k).toNat = k := by simp; omega
theorem dec_mem : ∀ (u : Nat), ∀ b ∈ Lib.decDigits u, 48 ≤ b.toNat ∧ b.toNat < 58 := by
  intro u
  induction u using Nat.strongRecOn with
  | ind u ih =>
    intro b hb
    by_cases h : u < 10
    · rw [dec_small h] at hb
      rw [List.mem_singleton] at hb
      rw [hb, u8n (by omega)]; omega
    · rw [dec_step h] at hb
      rcases List.mem_append.1 hb with h1 | h1
      · exact ih (u / 10) (by omega) b h1
      · rw [List.mem_singleton] at h1
        rw [h1, u8n (by omega)]; omega
theorem dec_head : ∀ (u : Nat), u ≠ 0 → ∀ c, (Lib.decDigits u)[0]? = some c → c.toNat ≠ 48 := by
  intro u
  induction u using Nat.strongRecOn with
  | ind u ih =>
    intro hu c hc
    by_cases h : u < 10
    · rw [dec_small h] at hc
      simp only [List.getElem?_cons_zero, Option.some.injEq] at hc
      rw [← hc, u8n (by omega)]; omega
    · rw [dec_step h, List.getElem?_append_left (by rw [Lib.decDigits_length]; exact Lib.nDigits_pos _)] at hc
      exact ih (u / 10) (by omega) (by omega) c hc
theorem dec_digits (u : Nat) : Digits (decS u) := by
  intro j h
  have : (decS u)[j]'h ∈ Lib.decDigits u := by
    have h2 : j < (Lib.decDigits u).length := by rw [Lib.decDigits_length, ← decS_size]; exact h
    have h3 : (decS u)[j]'h = (Lib.decDigits u)[j] := rfl
    rw [h3]; exact List.getElem_mem h2
  exact dec_mem u _ this
theorem cutRight_ok (w : World) : Calls Tryz.prog 111 #[.string ⟨#[]⟩, .string tenS] w fun e w' => e = .returned (.string ⟨#[]⟩) ∧ w' = w := by
  go_enter Tryz.func111, Tryz.ntmps111
  go_wp2_with fail
  go_loop [0] (fun v0 => v0 = .string ⟨#[]⟩) (fun _ => 0)
  case atStart => rfl
  case round =>
    obtain rfl := hrel
    go_wp2_with fail
    go_ret
    exact ⟨rfl, rfl⟩
theorem decimal_0 (m : Nat) (w : World) :
    Calls Tryz.prog 79 #[.string ⟨#[48]⟩, .int .u64 m] w fun e w' => e = .returned (.int .u64 0) ∧ Below w.heap.size w w' := by
  have HSZ : Hid ((⟨#[48]⟩ : ByteArray).size = 1) := rfl
  have HD : Hid (Digits ⟨#[48]⟩) := by
    intro j h
    obtain rfl : j = 0 := by have : j < 1 := h; omega
    have h48 : ((⟨#[48]⟩ : ByteArray)[0]'h) = 48 := rfl
    rw [h48]; decide
  have HP : Hid (Lib.parseUintB 64 (⟨#[48]⟩ : ByteArray).data.toList = .ok 0) := by
    have := pb_dec 0 (by decide)
    rwa [show decS 0 = ⟨#[48]⟩ by unfold decS; rw [dec_small (by decide)]; rfl] at this
  have hm : (0 : Int) ≤ m := by omega
  have hslc : ∀ W : World, (Instr.slice 9 (.string digitS) none (some (.int .i64 10)) none).run Tryz.prog W = .ok (.string tenS) W := fun W => by kernel_rfl
  have HB0 := Lib.hid (Below.refl w.heap.size w)
  go_enter Tryz.func79, Tryz.ntmps79
  go_wp2_with fail
  go_region_held3 (fun W => Hid (Below w.heap.size w W))
    (first
      | exact HB0
      | exact Lib.hid (below_drew HB0.out)
      | exact HB5)
    (first
      | (go_at_call 112; with_reducible refine (cutLeft_ok _ HD.out _).mono ?_; rintro e w5 ⟨rfl, hb5⟩; have HB5 := Lib.hid ((below_drew HB0.out).trans (hb5.mono (by simp))))
      | (go_at_call 111; with_reducible refine (cutRight_ok _).mono ?_; rintro e w6 ⟨rfl, rfl⟩)
      | (go_at_call 75; with_reducible refine (must_ok _).mono ?_; rintro e w7 ⟨rfl, rfl⟩))
  go_wp2_with fail
  refine (Tryz.strconv_ParseUint_10_at64_ok _ (by first | (rw [HSZ.out]; omega) | decide) _ HP.out _).mono ?_
  rintro e w8 ⟨rfl, hw8⟩
  have HB8 : Hid (Below w.heap.size w w8) := by
    rcases hw8 with rfl | rfl
    · exact HB5
    · exact HB5.out.trans ((bytesWorld_below _ _ _).mono HB5.out.size)
  clear hw8
  go_wp2_with fail
  refine (must_ok _).mono ?_
  rintro e w9 ⟨rfl, rfl⟩
  go_wp2_with fail
  go_ret
  exact ⟨rfl, HB8.out⟩
theorem decimal_ok (u m : Nat) (hu : u < 18446744073709551616) (hm : u ≤ m) (w : World) :
    Calls Tryz.prog 79 #[.string (decS u), .int .u64 m] w fun e w' => e = .returned (.int .u64 u) ∧ Below w.heap.size w w' := by
  by_cases hu0 : u = 0
  · subst hu0
    have := decimal_0 m w
    rwa [show (⟨#[48]⟩ : ByteArray) = decS 0 by unfold decS; rw [dec_small (by decide)]; rfl] at this
  have hsz : (decS u).size = Lib.nDigits u := decS_size u
  have hn1 := Lib.nDigits_pos u
  have hn20 := Lib.nDigits_le20 u hu
  have HSZ := Lib.hid hsz
  have HD := Lib.hid (dec_digits u)
  have HP := Lib.hid (pb_dec u hu)
  have h0 : 0 < (decS u).size := by omega
  have hne : ((((decS u)[0]'h0).toNat : Int) != 48) = true := by
    have h1 := dec_head u hu0 ((decS u)[0]'h0) (by
      have h2 : 0 < (Lib.decDigits u).length := by rw [Lib.decDigits_length]; omega
      rw [List.getElem?_eq_getElem h2]; rfl)
    simp; omega
  have hemp : (decS u).toList.isEmpty = false := by
    rw [← decide_eq_emptyBytes]
    exact decide_eq_false (fun h => by rw [h] at hsz; simp at hsz; omega)
  have hs1 : 0 < (decS u).size := h0
  generalize decS u = s at *
  have hm2 : (u : Int) ≤ m := by omega
  clear hsz hm hu
  have hslc : ∀ W : World, (Instr.slice 9 (.string digitS) none (some (.int .i64 10)) none).run Tryz.prog W = .ok (.string tenS) W := fun W => by kernel_rfl
  have HB0 := Lib.hid (Below.refl w.heap.size w)
  go_enter Tryz.func79, Tryz.ntmps79
  go_wp2_with fail
  have cL : ∀ d os, Calls Tryz.prog 112 #[.string s, .string tenS] (grow (redrawn w d) os) fun e w'' => e = .returned (.string ⟨#[]⟩) ∧ ∃ p : Regrown, w'' = grow (redrawn w p.d) p.os := fun d os => Calls.regrown_of (cutLeft_ok s HD.out _)
  have cR : ∀ d os, Calls Tryz.prog 111 #[.string ⟨#[]⟩, .string tenS] (grow (redrawn w d) os) fun e w'' => e = .returned (.string ⟨#[]⟩) ∧ ∃ p : Regrown, w'' = grow (redrawn w p.d) p.os := fun d os => Calls.regrown_of ((cutRight_ok _).mono fun _ _ ⟨h1, h2⟩ => ⟨h1, h2 ▸ Below.refl _ _⟩)
  have cM : ∀ d os, Calls Tryz.prog 75 #[.bool true] (grow (redrawn w d) os) fun e w'' => e = .returned (.tuple #[]) ∧ ∃ p : Regrown, w'' = grow (redrawn w p.d) p.os := fun d os => Calls.regrown_of ((must_ok _).mono fun _ _ ⟨h1, h2⟩ => ⟨h1, h2 ▸ Below.refl _ _⟩)
  refine wp_region_quiet_below (by kernel_rfl) (by kernel_rfl) ?_
  repeat (quiet_step (first | with_reducible exact cL _ _ | with_reducible exact cR _ _ | with_reducible exact cM _ _))
  refine wpQuiet_nil ?_
  intro _ hw'
  obtain ⟨⟨dq, osq⟩, hw''⟩ := hw'
  subst hw''
  have HB5 := Lib.hid (below_regrown w dq osq)
  go_wp2_with fail
  refine (Tryz.strconv_ParseUint_10_at64_ok _ (by first | (rw [HSZ.out]; omega) | decide) _ HP.out _).mono ?_
  rintro e w8 ⟨rfl, hw8⟩
  have HB8 : Hid (Below w.heap.size w w8) := by
    rcases hw8 with rfl | rfl
    · exact HB5
    · exact HB5.out.trans ((bytesWorld_below _ _ _).mono HB5.out.size)
  clear hw8
  go_wp2_with fail
  refine (must_ok _).mono ?_
  rintro e w9 ⟨rfl, rfl⟩
  go_wp2_with fail
  go_ret
  exact ⟨rfl, HB8.out⟩
end Go.Proofs.YtohighedgdlflaaGreatDoor

/- slices.DeleteFunc at Parse's predicate: the empty words go. -/
namespace Go.Proofs.YtohighedgdlflaaGreatDoor
open Go.Shelf Go.RowKit Go.Sort Go.Lib Go.Proofs.YtohighedgdlflaaGreatDoorW.PrintWords Go.Proofs.YtohighedgdlflaaGreatDoor.PR
set_option linter.unusedVariables false
set_option linter.unusedSimpArgs false
def emp (x : ByteArray) : Bool := x.toList.isEmpty
theorem p2_ok (x : ByteArray) (W : World) : FnGives Tryz.prog 67 #[] #[.string x] (.bool (emp x)) W := by
  show Calls Tryz.prog 67 #[.string x] W _
  cases hx : x.toList.isEmpty with
  | true =>
    go_enter Tryz.func67, Tryz.ntmps67
    go_wp2_with fail
    go_ret
    exact ⟨by unfold emp; rw [hx]; rfl, 0, rfl⟩
  | false =>
    go_enter Tryz.func67, Tryz.ntmps67
    go_wp2_with fail
    go_ret
    exact ⟨by unfold emp; rw [hx]; rfl, 0, rfl⟩
theorem del_ok (g cap : Nat) (d : Array ByteArray) (w : World) (hH : Holds Value.string w g 0 d) (hg : g < w.heap.size) (hsz : d.size ≤ 9223372036854775807) (hcap : d.size ≤ cap) :
    Calls Tryz.prog 66 #[.slice (some ⟨g, 0, none⟩) d.size cap, .func (.func 67) #[] #[]] w fun e w' => e = .returned (.slice (some ⟨g, 0, none⟩) (d.toList.filter fun x => !emp x).length cap) ∧ Below g w w' ∧ ∀ (j : Nat) x, (d.toList.filter fun x => !emp x)[j]? = some x → w'.cell? ⟨g, j, none⟩ = some (.string x) := by
  have eg : ∀ args w, (callFunc 67 args).run Tryz.prog w = .ok (.enter 67 args) w := enters_of Tryz.func67 (by kernel_rfl) rfl
  have hcon := AnyE.slices_DeleteFunc Tryz.del66 Value.string (fun _ => rfl) emp 67 #[] eg ByteArray.empty Tryz.zeroValue9 g 0 cap d w
    (fun W x _ => p2_ok x W) (fun n os dk x _ => p2_ok x _) hH hsz hcap
  refine hcon.mono ?_
  rintro e w' ⟨rfl, q, rfl⟩
  obtain ⟨r, hr⟩ : ∃ r, r = (d.toList.filter fun x => !emp x) := ⟨_, rfl⟩
  have hrl : r.length ≤ d.size := by rw [hr]; simpa using List.length_filter_le (fun x => !emp x) d.toList
  rw [← hr]
  refine ⟨rfl, below_putRow (Below.refl _ _) (Nat.le_refl _), fun j x hx => ?_⟩
  have hj : j < r.length := by
    rcases Nat.lt_or_ge j r.length with h' | h'
    · exact h'
    · rw [List.getElem?_eq_none h'] at hx; simp at hx
  have h := cell?_putRow Value.string (Sort.ahead w q) g 0 d (r ++ List.replicate (d.size - r.length) ByteArray.empty).toArray hH (by simp; omega) j (by simp; omega)
  rw [Nat.zero_add] at h
  rw [h]
  congr 2
  rw [getElem!_pos _ j (by simp; omega)]
  have hx2 : r[j] = x := by rw [List.getElem?_eq_getElem hj] at hx; exact Option.some.inj hx
  simp [List.getElem_append_left hj, hx2]
end Go.Proofs.YtohighedgdlflaaGreatDoor

/- trace.Text writes textS. -/
namespace Go.Proofs.YtohighedgdlflaaGreatDoor
open Go.Shelf Go.RowKit Go.Sort Go.Lib Go.Proofs.YtohighedgdlflaaGreatDoorW.PrintWords Go.Proofs.YtohighedgdlflaaGreatDoor.PR
set_option linter.unusedVariables false
set_option linter.unusedSimpArgs false
/-- Also the Tick is a uint64. -/
def FitsT (o : S35) : Prop := Fits o ∧ 0 ≤ o.f0 ∧ o.f0 < 18446744073709551616
theorem builder_new (w : World) : Lib.IsBuilderF 67 5 w.heap.size w.heap.size [] (w.alloc (.cells #[.pointer none, .slice none 0 0] 67)) :=
  .inl ⟨Nat.le_refl _, .slice none 0 0, blk_new _ _, World.ownsRowF_of (own_nil _ _ _ _), by simp [Value.ownBlock]⟩
theorem builder_below {B b : Nat} {bs : List Value} {W W' : World} (h : Lib.IsBuilderF 67 5 B b bs W) (hb : Below W.heap.size W W') : Lib.IsBuilderF 67 5 B b bs W' := by
  have key : ∀ p, Lib.BuilderAtF 67 5 B b p bs W → Lib.BuilderAtF 67 5 B b p bs W' := by
    rintro p ⟨h1, v, hv, ⟨hl, ho⟩, hne⟩
    refine ⟨h1, v, by rw [hb.block _ (heap_lt' hv)]; exact hv, ⟨hl, ?_⟩, hne⟩
    rcases ho with ho | ⟨g, cap, cur, fz, e, hg, hc, r⟩
    · exact .inl ho
    · exact .inr ⟨g, cap, cur, fz, e, hg, by rw [hb.block _ (heap_lt' hc)]; exact hc, r⟩
  exact h.elim (fun x => .inl (key _ x)) (fun x => .inr (key _ x))
/-- The row of the table that belongs to a kind. -/
theorem frm_row {w : World} {n : Nat} (h : Frm w n) (q : Nat) (hq1 : 1 ≤ q) (hq : q ≤ 7) : ∃ (mw : Nat) (fvw : Array Value) (nw : Int) (mr : Nat) (fvr : Array Value), w.cell? ⟨n + 2, q * 4, none⟩ = some (.string (kindS.getD q ByteArray.empty)) ∧ w.cell? ⟨n + 2, q * 4 + 1, none⟩ = some (.func (.func mw) #[] fvw) ∧ w.cell? ⟨n + 2, q * 4 + 2, none⟩ = some (.int .i64 nw) ∧ w.cell? ⟨n + 2, q * 4 + 3, none⟩ = some (.func (.func mr) #[] fvr) ∧ (formCells (n + 1))[q * 4 + 1]? = some (.func (.func mw) #[] fvw) := by
  rcases (show q = 1 ∨ q = 2 ∨ q = 3 ∨ q = 4 ∨ q = 5 ∨ q = 6 ∨ q = 7 by omega) with h1 | h1 | h1 | h1 | h1 | h1 | h1 <;> subst h1 <;> exact ⟨_, _, _, _, _, by simp only [World.cell?, h.tab]; rfl, by simp only [World.cell?, h.tab]; rfl, by simp only [World.cell?, h.tab]; rfl, by simp only [World.cell?, h.tab]; rfl, rfl⟩
theorem R_fresh {W : World} (base : Nat) (xs : List ByteArray) (hb : base ≤ W.heap.size) {n g : Nat} (hg : g = W.heap.size) (hm : xs.length ≤ 9223372036854775807) {cs : Array Value} (hcs : cs = (xs.map Value.string).toArray) {m : Nat} (hm1 : n = xs.length := by rfl) (hm2 : m = xs.length := by rfl) :
    Kd.string.R 9 (W.alloc (.cells cs 9)) base (fun _ => True) (.slice (some ⟨g, 0, none⟩) n m) xs := by
  subst hg hcs hm1 hm2
  refine Kd.R_of_own (enc := Value.string) (h1 := fun _ => rfl) ?_ (fun _ _ => trivial)
  have h2 := World.ownsRow_lit (base := base) (e := 9) (size := 1) W (xs.map Value.string).toArray xs.length hb (by simpa [maxLen] using hm) (by simp)
  simpa [encs] using h2
/-- The words behind the place, in numbers. -/
def writeN (q a b : Nat) : List ByteArray :=
  if q = 1 ∨ q = 2 then [hexS a, hexS b] else if q = 3 then [faultS.getD a ByteArray.empty, hexS b] else if q = 4 then [decS a] else if q = 5 then [hexS b ++ hexS a] else if q = 7 then [hexS a] else []
theorem writeL_eq {o : S35} {q a b : Nat} (h2 : o.f2 = q) (h4 : o.f4 = a) (h5 : o.f5 = b) : writeL o = writeN q a b := by
  unfold writeL writeN
  rw [h2, h4, h5]
  simp only [Int.toNat_natCast]
  repeat' split
  all_goals first | rfl | omega
theorem fn_inv {m m' : Nat} {f f' : Array Value} (h : some (Value.func (.func m) #[] f) = some (Value.func (.func m') #[] f')) : m' = m ∧ f' = f := by
  injection h with h
  injection h with h1 h2 h3
  injection h1 with h1
  exact ⟨h1.symm, h3.symm⟩
theorem enter_any {n q mw : Nat} {fvw : Array Value} (hq1 : 1 ≤ q) (hq7 : q ≤ 7) (h : (formCells (n + 1))[q * 4 + 1]? = some (.func (.func mw) #[] fvw)) : ∀ args w, (callFunc mw args).run Tryz.prog w = .ok (.enter mw args) w := by
  rcases (show q = 1 ∨ q = 2 ∨ q = 3 ∨ q = 4 ∨ q = 5 ∨ q = 6 ∨ q = 7 by omega) with h1 | h1 | h1 | h1 | h1 | h1 | h1 <;> subst h1
  · obtain ⟨rfl, rfl⟩ := fn_inv (m := 70) (f := #[]) h; exact enters_of Tryz.func70 (by kernel_rfl) rfl
  · obtain ⟨rfl, rfl⟩ := fn_inv (m := 70) (f := #[]) h; exact enters_of Tryz.func70 (by kernel_rfl) rfl
  · obtain ⟨rfl, rfl⟩ := fn_inv (m := 72) (f := #[.pointer (some ⟨n + 1, 0, none⟩)]) h; exact enters_of Tryz.func72 (by kernel_rfl) rfl
  · obtain ⟨rfl, rfl⟩ := fn_inv (m := 77) (f := #[]) h; exact enters_of Tryz.func77 (by kernel_rfl) rfl
  · obtain ⟨rfl, rfl⟩ := fn_inv (m := 80) (f := #[]) h; exact enters_of Tryz.func80 (by kernel_rfl) rfl
  · obtain ⟨rfl, rfl⟩ := fn_inv (m := 82) (f := #[]) h; exact enters_of Tryz.func82 (by kernel_rfl) rfl
  · obtain ⟨rfl, rfl⟩ := fn_inv (m := 84) (f := #[]) h; exact enters_of Tryz.func84 (by kernel_rfl) rfl
theorem write_any {W : World} {n q mw : Nat} {fvw : Array Value} (hF : Frm W n) (t cl p a b : Nat) (hq1 : 1 ≤ q) (hq7 : q ≤ 7) (ha : a < 4294967296) (hb : b < 4294967296) (h3 : q = 3 → a < 7) (h4 : q = 4 → a < 100) (h : (formCells (n + 1))[q * 4 + 1]? = some (.func (.func mw) #[] fvw)) :
    Calls Tryz.prog mw (#[.agg #[.int .u64 t, .int .i64 cl, .int .i64 q, .int .u32 p, .int .u32 a, .int .u32 b]] ++ fvw) W (WrR W (writeN q a b)) := by
  rcases (show q = 1 ∨ q = 2 ∨ q = 3 ∨ q = 4 ∨ q = 5 ∨ q = 6 ∨ q = 7 by omega) with h1 | h1 | h1 | h1 | h1 | h1 | h1 <;> subst h1
  · obtain ⟨rfl, rfl⟩ := fn_inv (m := 70) (f := #[]) h
    rw [show (#[Value.agg #[.int .u64 t, .int .i64 cl, .int .i64 ((1 : Nat) : Int), .int .u32 p, .int .u32 a, .int .u32 b]] ++ (#[] : Array Value)) = #[Value.agg #[.int .u64 t, .int .i64 cl, .int .i64 ((1 : Nat) : Int), .int .u32 p, .int .u32 a, .int .u32 b]] from rfl, show writeN 1 a b = [hexS a, hexS b] from rfl]
    exact w70_ok _ _ _ _ a b ha hb W
  · obtain ⟨rfl, rfl⟩ := fn_inv (m := 70) (f := #[]) h
    rw [show (#[Value.agg #[.int .u64 t, .int .i64 cl, .int .i64 ((2 : Nat) : Int), .int .u32 p, .int .u32 a, .int .u32 b]] ++ (#[] : Array Value)) = #[Value.agg #[.int .u64 t, .int .i64 cl, .int .i64 ((2 : Nat) : Int), .int .u32 p, .int .u32 a, .int .u32 b]] from rfl, show writeN 2 a b = [hexS a, hexS b] from rfl]
    exact w70_ok _ _ _ _ a b ha hb W
  · obtain ⟨rfl, rfl⟩ := fn_inv (m := 72) (f := #[.pointer (some ⟨n + 1, 0, none⟩)]) h
    rw [show (#[Value.agg #[.int .u64 t, .int .i64 cl, .int .i64 ((3 : Nat) : Int), .int .u32 p, .int .u32 a, .int .u32 b]] ++ (#[.pointer (some ⟨n + 1, 0, none⟩)] : Array Value)) = #[Value.agg #[.int .u64 t, .int .i64 cl, .int .i64 ((3 : Nat) : Int), .int .u32 p, .int .u32 a, .int .u32 b], .pointer (some ⟨n + 1, 0, none⟩)] from rfl, show writeN 3 a b = [faultS.getD a ByteArray.empty, hexS b] from rfl]
    exact w72_ok _ _ _ _ a b n (h3 rfl) hb W hF
  · obtain ⟨rfl, rfl⟩ := fn_inv (m := 77) (f := #[]) h
    rw [show (#[Value.agg #[.int .u64 t, .int .i64 cl, .int .i64 ((4 : Nat) : Int), .int .u32 p, .int .u32 a, .int .u32 b]] ++ (#[] : Array Value)) = #[Value.agg #[.int .u64 t, .int .i64 cl, .int .i64 ((4 : Nat) : Int), .int .u32 p, .int .u32 a, .int .u32 b]] from rfl, show writeN 4 a b = [⟨(Lib.decDigits a).toArray⟩] from rfl]
    exact w77_ok _ _ _ _ a b (h4 rfl) W
  · obtain ⟨rfl, rfl⟩ := fn_inv (m := 80) (f := #[]) h
    rw [show (#[Value.agg #[.int .u64 t, .int .i64 cl, .int .i64 ((5 : Nat) : Int), .int .u32 p, .int .u32 a, .int .u32 b]] ++ (#[] : Array Value)) = #[Value.agg #[.int .u64 t, .int .i64 cl, .int .i64 ((5 : Nat) : Int), .int .u32 p, .int .u32 a, .int .u32 b]] from rfl, show writeN 5 a b = [hexS b ++ hexS a] from rfl]
    exact w80_ok _ _ _ _ a b ha hb W
  · obtain ⟨rfl, rfl⟩ := fn_inv (m := 82) (f := #[]) h
    rw [show (#[Value.agg #[.int .u64 t, .int .i64 cl, .int .i64 ((6 : Nat) : Int), .int .u32 p, .int .u32 a, .int .u32 b]] ++ (#[] : Array Value)) = #[Value.agg #[.int .u64 t, .int .i64 cl, .int .i64 ((6 : Nat) : Int), .int .u32 p, .int .u32 a, .int .u32 b]] from rfl, show writeN 6 a b = [] from rfl]
    exact w82_ok _ _ _ _ a b W
  · obtain ⟨rfl, rfl⟩ := fn_inv (m := 84) (f := #[]) h
    rw [show (#[Value.agg #[.int .u64 t, .int .i64 cl, .int .i64 ((7 : Nat) : Int), .int .u32 p, .int .u32 a, .int .u32 b]] ++ (#[] : Array Value)) = #[Value.agg #[.int .u64 t, .int .i64 cl, .int .i64 ((7 : Nat) : Int), .int .u32 p, .int .u32 a, .int .u32 b]] from rfl, show writeN 7 a b = [hexS a] from rfl]
    exact w84_ok _ _ _ _ a b ha W
theorem R_cells {w : World} {base : Nat} {ok : Nat → Prop} {v : Value} {xs : List ByteArray} (h : Kd.string.R 9 w base ok v xs) (hn : 0 < xs.length) : ∃ g cap, v = .slice (some ⟨g, 0, none⟩) xs.length cap ∧ xs.length ≤ cap ∧ g < w.heap.size ∧ ∀ (j : Nat) x, xs[j]? = some x → w.cell? ⟨g, 0 + j, none⟩ = some (.string x) := by
  obtain ⟨_, ⟨_, h0⟩ | ⟨g, cap, cur, hv, hg, hb, hcap, hmx, hsz, htake⟩⟩ := Kd.own_of_R (enc := Value.string) (h1 := fun _ => rfl) h
  · omega
  · refine ⟨g, cap, hv, hcap, heap_lt' hb, fun j x hx => ?_⟩
    have hj : j < xs.length := by
      rcases Nat.lt_or_ge j xs.length with h' | h'
      · exact h'
      · rw [List.getElem?_eq_none h'] at hx; simp at hx
    have h2 : (cur.toList.take (xs.length * 1))[j]? = some (.string x) := by rw [htake]; simp [encs, hx]
    rw [List.getElem?_take_of_lt (by omega)] at h2
    rw [Nat.zero_add]
    simp only [World.cell?, hb]
    simpa using h2
end Go.Proofs.YtohighedgdlflaaGreatDoor

/- The read functions of trace.forms. -/
namespace Go.Proofs.YtohighedgdlflaaGreatDoor
open Go.Shelf Go.RowKit Go.Sort Go.Lib Go.Proofs.YtohighedgdlflaaGreatDoorW.PrintWords Go.Proofs.YtohighedgdlflaaGreatDoor.PR
set_option linter.unusedVariables false
set_option linter.unusedSimpArgs false
/-- The observation's block. -/
def ObN (W : World) (O t cl q p a b : Nat) : Prop := W.heap[O]? = some (.cells #[.int .u64 t, .int .i64 cl, .int .i64 q, .int .u32 p, .int .u32 a, .int .u32 b] 35 (0, 0))
theorem ObN.below {W W' : World} {O t cl q p a b : Nat} (h : ObN W O t cl q p a b) (hb : Below W.heap.size W W') : ObN W' O t cl q p a b := (hb.block O (heap_lt' h)).trans h
theorem ObN.cells {W : World} {O t cl q p a b : Nat} (h : ObN W O t cl q p a b) : W.cell? ⟨O, 0, none⟩ = some (.int .u64 t) ∧ W.cell? ⟨O, 1, none⟩ = some (.int .i64 cl) ∧ W.cell? ⟨O, 2, none⟩ = some (.int .i64 q) ∧ W.cell? ⟨O, 3, none⟩ = some (.int .u32 p) ∧ W.cell? ⟨O, 4, none⟩ = some (.int .u32 a) ∧ W.cell? ⟨O, 5, none⟩ = some (.int .u32 b) := by
  unfold ObN at h
  refine ⟨?_, ?_, ?_, ?_, ?_, ?_⟩ <;> simp [World.cell?, h]
theorem ObN.frozen {W : World} {O t cl q p a b : Nat} (h : ObN W O t cl q p a b) (j : Nat) : W.frozen? ⟨O, j, none⟩ = false := by
  unfold ObN at h
  simp [World.frozen?, h]
theorem ObN.set4 {W : World} {O t cl q p a b : Nat} (h : ObN W O t cl q p a b) (x : Nat) : ObN (W.setCell ⟨O, 4, none⟩ (.int .u32 x)) O t cl q p x b := by
  unfold ObN at *
  rw [heap_setCell_same _ _ _ _ _ _ h]; rfl
theorem ObN.set5 {W : World} {O t cl q p a b : Nat} (h : ObN W O t cl q p a b) (x : Nat) : ObN (W.setCell ⟨O, 5, none⟩ (.int .u32 x)) O t cl q p a x := by
  unfold ObN at *
  rw [heap_setCell_same _ _ _ _ _ _ h]; rfl
def RdR (W : World) (O t cl q p a b : Nat) (e : Ending) (w' : World) : Prop := e = .returned (.tuple #[]) ∧ ObN w' O t cl q p a b ∧ Below O W w'
theorem r83_ok (O t cl q p : Nat) (v : Value) (w : World) (hO : ObN w O t cl q p 0 0) : Calls Tryz.prog 83 #[.pointer (some ⟨O, 0, none⟩), v] w (RdR w O t cl q p 0 0) := by
  go_enter Tryz.func83, Tryz.ntmps83
  go_wp2_with fail
  go_end0
  exact ⟨rfl, hO, Below.refl _ _⟩
set_option maxRecDepth 100000 in
set_option maxHeartbeats 2000000 in
theorem r85_ok (O t cl q p a g c : Nat) (w : World) (ha : a < 4294967296) (hO : ObN w O t cl q p 0 0) (h0 : w.cell? ⟨g, 4, none⟩ = some (.string (hexS a))) :
    Calls Tryz.prog 85 #[.pointer (some ⟨O, 0, none⟩), .slice (some ⟨g, 4, none⟩) 1 c] w (RdR w O t cl q p a 0) := by
  have HO := Lib.hid hO
  go_enter Tryz.func85, Tryz.ntmps85
  go_wp2_with fail
  refine (unhex_ok a ha _).mono ?_
  rintro e w1 ⟨rfl, hb⟩
  have HB := Lib.hid hb
  have HO1 := Lib.hid (hO.below hb)
  obtain ⟨c0, c1, c2, c3, c4, c5⟩ := HO1.out.cells
  have f4 := HO1.out.frozen 4
  have hOlt := heap_lt' hO
  clear hb h0 hO
  go_wp2_with fail
  go_end0
  exact ⟨rfl, HO1.out.set4 a, (HB.out.mono (Nat.le_of_lt hOlt)).setCell (Nat.le_refl _) _⟩
set_option maxRecDepth 100000 in
set_option maxHeartbeats 2000000 in
theorem r78_ok (O t cl q p a g c : Nat) (w : World) (ha : a ≤ 31) (hO : ObN w O t cl q p 0 0) (h0 : w.cell? ⟨g, 4, none⟩ = some (.string (decS a))) :
    Calls Tryz.prog 78 #[.pointer (some ⟨O, 0, none⟩), .slice (some ⟨g, 4, none⟩) 1 c] w (RdR w O t cl q p a 0) := by
  have HO := Lib.hid hO
  go_enter Tryz.func78, Tryz.ntmps78
  go_wp2_with fail
  refine (decimal_ok a 31 (by omega) ha _).mono ?_
  rintro e w1 ⟨rfl, hb⟩
  have HB := Lib.hid hb
  have HO1 := Lib.hid (hO.below hb)
  obtain ⟨c0, c1, c2, c3, c4, c5⟩ := HO1.out.cells
  have f4 := HO1.out.frozen 4
  have hOlt := heap_lt' hO
  have ha2 : (a : Int) ≤ 31 := by omega
  clear hb h0 hO
  go_wp2_with fail
  go_end0
  exact ⟨rfl, HO1.out.set4 a, (HB.out.mono (Nat.le_of_lt hOlt)).setCell (Nat.le_refl _) _⟩
set_option maxRecDepth 100000 in
set_option maxHeartbeats 8000000 in
theorem r71_ok (O t cl q p a b g c : Nat) (w : World) (ha : a < 4294967296) (hb : b < 4294967296) (hO : ObN w O t cl q p 0 0) (h0 : w.cell? ⟨g, 4, none⟩ = some (.string (hexS a))) (h1 : w.cell? ⟨g, 5, none⟩ = some (.string (hexS b))) :
    Calls Tryz.prog 71 #[.pointer (some ⟨O, 0, none⟩), .slice (some ⟨g, 4, none⟩) 2 c] w (RdR w O t cl q p a b) := by
  have hOlt := heap_lt' hO
  have HF : Hid (∀ W, Below w.heap.size w W → W.cell? ⟨g, 4, none⟩ = some (.string (hexS a)) ∧ W.cell? ⟨g, 5, none⟩ = some (.string (hexS b)) ∧ ObN W O t cl q p 0 0) := fun W hW => ⟨cell_later hW h0, cell_later hW h1, hO.below hW⟩
  clear h0 h1 hO
  go_enter Tryz.func71, Tryz.ntmps71
  go_wp2_with fail
  obtain ⟨i0, i1, _⟩ := HF.out _ (Below.refl _ _)
  go_region_with (first
    | (go_at_call 76; with_reducible refine (unhex_ok a ha _).mono ?_; rintro e w5 ⟨rfl, hb5⟩; have HB5 := Lib.hid ((below_drew (Below.refl w.heap.size w)).trans (hb5.mono (by simp))); obtain ⟨d0, d1, d2⟩ := HF.out _ HB5.out; have HD2 := Lib.hid d2; clear hb5 d2)
    | (go_at_call 76; with_reducible refine (unhex_ok b hb _).mono ?_; rintro e w6 ⟨rfl, hb6⟩; have HB6 := Lib.hid (HB5.out.trans (hb6.mono HB5.out.size)); have HD3 := Lib.hid (HD2.out.below hb6); obtain ⟨x0, x1, x2, x3, x4, x5⟩ := HD3.out.cells; have f4 := HD3.out.frozen 4; have f5 := HD3.out.frozen 5; have y5 := (HD3.out.set4 a).cells.2.2.2.2.2; have z5 := (HD3.out.set4 a).frozen 5; clear hb6))
  all_goals
    go_wp2_with fail
    go_end0
    exact ⟨rfl, (HD3.out.set4 a).set5 b, ((HB6.out.mono (Nat.le_of_lt hOlt)).setCell (Nat.le_refl _) _).setCell (Nat.le_refl _) _⟩
end Go.Proofs.YtohighedgdlflaaGreatDoor

/- Two more read functions of trace.forms. -/
namespace Go.Proofs.YtohighedgdlflaaGreatDoor
open Go.Shelf Go.RowKit Go.Sort Go.Lib Go.Proofs.YtohighedgdlflaaGreatDoorW.PrintWords Go.Proofs.YtohighedgdlflaaGreatDoor.PR
set_option linter.unusedVariables false
set_option linter.unusedSimpArgs false
theorem cat_fst (a b : Nat) : (hexS a ++ hexS b).extract 0 8 = hexS a := by
  apply ByteArray.ext
  simp [hexS, hexL]
theorem cat_snd (a b : Nat) : (hexS a ++ hexS b).extract 8 16 = hexS b := by
  apply ByteArray.ext
  simp [hexS, hexL]
  exact List.take_of_length_le (by simp)
set_option maxRecDepth 100000 in
set_option maxHeartbeats 8000000 in
theorem r81_ok (O t cl q p a b g c : Nat) (w : World) (ha : a < 4294967296) (hb : b < 4294967296) (hO : ObN w O t cl q p 0 0) (h0 : w.cell? ⟨g, 4, none⟩ = some (.string (hexS b ++ hexS a))) :
    Calls Tryz.prog 81 #[.pointer (some ⟨O, 0, none⟩), .slice (some ⟨g, 4, none⟩) 1 c] w (RdR w O t cl q p a b) := by
  have hOlt := heap_lt' hO
  obtain ⟨x, hx⟩ : ∃ x, x = hexS b ++ hexS a := ⟨_, rfl⟩
  have hsz : x.size = 16 := by rw [hx, ByteArray.size_append, hexS_size, hexS_size]
  have hs1 : ∀ W : World, (Instr.slice 9 (.string x) none (some (.int .i64 8)) none).run Tryz.prog W = .ok (.string (hexS b)) W := fun W => by
    rw [run_slice_string_to_if W 9 x .i64 8 Tryz.underlying9, if_pos (by rw [hsz]; omega), hx, show (8 : Int).toNat = 8 from rfl, cat_fst]
  have hs2 : ∀ W : World, (Instr.slice 9 (.string x) (some (.int .i64 8)) none none).run Tryz.prog W = .ok (.string (hexS a)) W := fun W => by
    rw [run_slice_string_from_if W 9 x .i64 8 Tryz.underlying9, if_pos (by rw [hsz]; omega), hsz, hx, show (8 : Int).toNat = 8 from rfl, cat_snd]
  rw [← hx] at h0
  have HF : Hid (∀ W, Below w.heap.size w W → W.cell? ⟨g, 4, none⟩ = some (.string x) ∧ ObN W O t cl q p 0 0) := fun W hW => ⟨cell_later hW h0, hO.below hW⟩
  clear h0 hO hx
  go_enter Tryz.func81, Tryz.ntmps81
  obtain ⟨i0, _⟩ := HF.out _ (Below.refl _ _)
  go_wp2_with fail
  refine (must_ok _).mono ?_
  rintro e w1 ⟨rfl, rfl⟩
  go_wp2_with fail
  go_region_with (first
    | (go_at_call 76; with_reducible refine (unhex_ok b hb _).mono ?_; rintro e w5 ⟨rfl, hb5⟩; have HB5 := Lib.hid ((below_drew (Below.refl w1.heap.size w1)).trans (hb5.mono (by simp))); obtain ⟨d0, d2⟩ := HF.out _ HB5.out; have HD2 := Lib.hid d2; clear hb5 d2)
    | (go_at_call 76; with_reducible refine (unhex_ok a ha _).mono ?_; rintro e w6 ⟨rfl, hb6⟩; have HB6 := Lib.hid (HB5.out.trans (hb6.mono HB5.out.size)); have HD3 := Lib.hid (HD2.out.below hb6); obtain ⟨x0, x1, x2, x3, x4, x5⟩ := HD3.out.cells; have f4 := HD3.out.frozen 4; have f5 := HD3.out.frozen 5; have y5 := (HD3.out.set5 b).cells.2.2.2.2.1; have z5 := (HD3.out.set5 b).frozen 4; clear hb6))
  all_goals
    go_wp2_with fail
    go_end0
    exact ⟨rfl, (HD3.out.set5 b).set4 a, ((HB6.out.mono (Nat.le_of_lt hOlt)).setCell (Nat.le_refl _) _).setCell (Nat.le_refl _) _⟩
end Go.Proofs.YtohighedgdlflaaGreatDoor

/- The read function of a fault. -/
namespace Go.Proofs.YtohighedgdlflaaGreatDoor
open Go.Shelf Go.RowKit Go.Sort Go.Lib Go.Proofs.YtohighedgdlflaaGreatDoorW.PrintWords Go.Proofs.YtohighedgdlflaaGreatDoor.PR
set_option linter.unusedVariables false
set_option linter.unusedSimpArgs false
theorem idx_fault (a : Nat) (h1 : 1 ≤ a) (h6 : a ≤ 6) : Lib.idxOfS (faultS.take 7) (faultS.getD a ByteArray.empty) = a := by
  rcases (show a = 1 ∨ a = 2 ∨ a = 3 ∨ a = 4 ∨ a = 5 ∨ a = 6 by omega) with h | h | h | h | h | h <;> subst h <;> decide
set_option maxRecDepth 100000 in
set_option maxHeartbeats 8000000 in
theorem r73_ok (O t cl q p a b g c n : Nat) (w : World) (ha1 : 1 ≤ a) (ha6 : a ≤ 6) (hb : b < 4294967296) (hF : Frm w n) (hO : ObN w O t cl q p 0 0) (h0 : w.cell? ⟨g, 4, none⟩ = some (.string (faultS.getD a ByteArray.empty))) (h1 : w.cell? ⟨g, 5, none⟩ = some (.string (hexS b))) :
    Calls Tryz.prog 73 #[.pointer (some ⟨O, 0, none⟩), .slice (some ⟨g, 4, none⟩) 2 c, .pointer (some ⟨n + 1, 0, none⟩)] w (RdR w O t cl q p a b) := by
  have hOlt := heap_lt' hO
  obtain ⟨x, hx⟩ : ∃ x, x = faultS.getD a ByteArray.empty := ⟨_, rfl⟩
  have hidx : ∀ m, Calls Tryz.prog 74 #[.slice (some ⟨n, 0, none⟩) 7 7, .string x] (w.drewN m) fun e w' => e = .returned (.int .i64 a) ∧ w' = w.drewN m := fun m => by
    have h := Tryz.slices_Index_string n 0 7 7 faultS x (w.drewN m) (by decide) (by decide) (fun j hj => by
      have hj7 : j < 7 := hj
      rw [World.cell?_drewN, Nat.zero_add]
      simp only [World.cell?, hF.names]
      rcases (show j = 0 ∨ j = 1 ∨ j = 2 ∨ j = 3 ∨ j = 4 ∨ j = 5 ∨ j = 6 by omega) with h | h | h | h | h | h | h <;> subst h <;> rfl)
    rwa [hx, idx_fault a ha1 ha6, ← hx] at h
  have hptr : w.cell? ⟨n + 1, 0, none⟩ = some (.slice (some ⟨n, 0, none⟩) 7 7) := by simp [World.cell?, hF.ptr]
  rw [← hx] at h0
  have HF : Hid (∀ W, Below w.heap.size w W → W.cell? ⟨g, 5, none⟩ = some (.string (hexS b)) ∧ ObN W O t cl q p 0 0) := fun W hW => ⟨cell_later hW h1, hO.below hW⟩
  have hap : (0 : Int) < a := by omega
  have haw : (a : Int) < 4294967296 := by omega
  clear hx hF hO
  go_enter Tryz.func73, Tryz.ntmps73
  go_wp2_with fail
  go_quiet ((go_at_call 74; with_reducible exact Calls.quiet_of_same (hidx _)))
  clear hidx hptr h0
  go_wp2_with fail
  rw [show decide (0 < a) = true from decide_eq_true (by omega)]
  refine (must_ok _).mono ?_
  rintro e w1 ⟨rfl, rfl⟩
  go_wp2_with fail
  refine (unhex_ok b hb _).mono ?_
  rintro e w5 ⟨rfl, hb5⟩
  have HB5 := Lib.hid ((pw_below_drewN (Below.refl w.heap.size w) nq).trans (hb5.mono (by simp)))
  obtain ⟨d0, d2⟩ := HF.out _ HB5.out
  have HD2 := Lib.hid d2
  obtain ⟨x0, x1, x2, x3, x4, x5⟩ := HD2.out.cells
  have f4 := HD2.out.frozen 4
  have f5 := HD2.out.frozen 5
  have y5 := (HD2.out.set4 a).cells.2.2.2.2.2
  have z5 := (HD2.out.set4 a).frozen 5
  clear hb5 d2
  go_wp2_with fail
  go_end0
  exact ⟨rfl, (HD2.out.set4 a).set5 b, ((HB5.out.mono (Nat.le_of_lt hOlt)).setCell (Nat.le_refl _) _).setCell (Nat.le_refl _) _⟩
end Go.Proofs.YtohighedgdlflaaGreatDoor

/- slices.IndexFunc over trace.forms: the row of a kind's word. -/
namespace Go.Proofs.YtohighedgdlflaaGreatDoor
open Go.Shelf Go.RowKit Go.Sort Go.Lib Go.Proofs.YtohighedgdlflaaGreatDoorW.PrintWords Go.Proofs.YtohighedgdlflaaGreatDoor.PR
set_option linter.unusedVariables false
set_option linter.unusedSimpArgs false
set_option maxRecDepth 100000 in
set_option maxHeartbeats 2000000 in
theorem p108_0 (Wb g m c : Nat) (w : World) (hs : w.cell? ⟨Wb, 0, none⟩ = some (.slice (some ⟨g, 0, none⟩) m c)) :
    Calls Tryz.prog 108 #[.agg #[.string ⟨#[]⟩, .nilFunc, .int .i64 0, .nilFunc], .pointer (some ⟨Wb, 0, none⟩)] w fun e w' => e = .returned (.bool false) ∧ Below w.heap.size w w' := by
  have hbl := Lib.hid (below_alloc (Below.refl w.heap.size w) (.cells #[.string ⟨#[]⟩, .nilFunc, .int .i64 0, .nilFunc] 74 (0, 0)))
  go_enter Tryz.func108, Tryz.ntmps108
  go_wp2_with fail
  go_quiet (fail)
  go_wp2_with fail
  go_ret
  exact ⟨rfl, pw_below_drewN hbl.out _⟩
set_option maxRecDepth 100000 in
set_option maxHeartbeats 2000000 in
theorem p108_ok (wd x : ByteArray) (mw : Nat) (fvw : Array Value) (nw : Int) (mr : Nat) (fvr : Array Value) (Wb g m c : Nat) (r : Bool) (w : World) (hne : wd.toList.isEmpty = false) (hr : (wd.toList == x.toList) = r) (hm : 2 < m) (hs : w.cell? ⟨Wb, 0, none⟩ = some (.slice (some ⟨g, 0, none⟩) m c)) (hx : w.cell? ⟨g, 2, none⟩ = some (.string x)) :
    Calls Tryz.prog 108 #[.agg #[.string wd, .func (.func mw) #[] fvw, .int .i64 nw, .func (.func mr) #[] fvr], .pointer (some ⟨Wb, 0, none⟩)] w fun e w' => e = .returned (.bool r) ∧ Below w.heap.size w w' := by
  have hbl := Lib.hid (below_alloc (Below.refl w.heap.size w) (.cells #[.string wd, .func (.func mw) #[] fvw, .int .i64 nw, .func (.func mr) #[] fvr] 74 (0, 0)))
  have hm2 : (2 : Int) < m := by omega
  have l1 := block_lt_of_cell hs
  have l2 := block_lt_of_cell hx
  have hs' : (w.alloc (.cells #[.string wd, .func (.func mw) #[] fvw, .int .i64 nw, .func (.func mr) #[] fvr] 74)).cell? ⟨Wb, 0, none⟩ = some (.slice (some ⟨g, 0, none⟩) m c) := cell_later hbl.out hs
  have hx' : (w.alloc (.cells #[.string wd, .func (.func mw) #[] fvw, .int .i64 nw, .func (.func mr) #[] fvr] 74)).cell? ⟨g, 2, none⟩ = some (.string x) := cell_later hbl.out hx
  go_enter Tryz.func108, Tryz.ntmps108
  go_wp2_with fail
  go_quiet (fail)
  go_wp2_with fail
  go_ret
  exact ⟨by rw [← hr]; rfl, pw_below_drewN hbl.out _⟩
theorem kind_ne (k : Nat) (h1 : 1 ≤ k) (h7 : k ≤ 7) : (kindS.getD k ByteArray.empty).toList.isEmpty = false := by
  rcases (show k = 1 ∨ k = 2 ∨ k = 3 ∨ k = 4 ∨ k = 5 ∨ k = 6 ∨ k = 7 by omega) with h | h | h | h | h | h | h <;> subst h <;> kernel_rfl
theorem kind_lt (k q : Nat) (h1 : 1 ≤ k) (hkq : k < q) (h7 : q ≤ 7) : ((kindS.getD k ByteArray.empty).toList == (kindS.getD q ByteArray.empty).toList) = false := by
  rcases (show q = 2 ∨ q = 3 ∨ q = 4 ∨ q = 5 ∨ q = 6 ∨ q = 7 by omega) with h | h | h | h | h | h <;> subst h <;>
    rcases (show k = 1 ∨ k = 2 ∨ k = 3 ∨ k = 4 ∨ k = 5 ∨ k = 6 by omega) with h | h | h | h | h | h <;> subst h <;> first | omega | kernel_rfl
set_option maxRecDepth 100000 in
set_option maxHeartbeats 2000000 in
theorem idxForm_ok (n q Wb g m c : Nat) (w : World) (hF : Frm w n) (hq1 : 1 ≤ q) (hq7 : q ≤ 7) (hm : 2 < m) (hs : w.cell? ⟨Wb, 0, none⟩ = some (.slice (some ⟨g, 0, none⟩) m c)) (hx : w.cell? ⟨g, 2, none⟩ = some (.string (kindS.getD q ByteArray.empty))) :
    Calls Tryz.prog 107 #[.slice (some ⟨n + 2, 0, none⟩) 8 8, .func (.func 108) #[] #[.pointer (some ⟨Wb, 0, none⟩)]] w fun e w' => e = .returned (.int .i64 q) ∧ Below w.heap.size w w' := by
  have HF := Lib.hid hF
  have HS := Lib.hid hs
  have HX := Lib.hid hx
  clear hF hs hx
  go_enter Tryz.func107, Tryz.ntmps107
  go_wp2_with fail
  go_loopw [5, 8] (fun v5 v8 wr => ∃ k : Nat, k ≤ q ∧ v8 = .int .i64 k ∧ Hid (Below w.heap.size w wr)) (fun _ i _ => 8 - (RowKit.intOf i).toNat)
  case atStart => exact ⟨0, by omega, rfl, Below.refl _ _⟩
  case round =>
    obtain ⟨k, hk, rfl, HB⟩ := hrel
    have hk8 : (k : Int) < 8 := by omega
    have HS1 := Lib.hid (cell_later HB.out HS.out)
    have HX1 := Lib.hid (cell_later HB.out HX.out)
    by_cases hk0 : k = 0
    · subst hk0
      have hF := HF.out.below HB.out
      have g0 : wr.cell? ⟨n + 2, 0, none⟩ = some (.string ⟨#[]⟩) := by simp only [World.cell?, hF.tab]; rfl
      have g1 : wr.cell? ⟨n + 2, 1, none⟩ = some .nilFunc := by simp only [World.cell?, hF.tab]; rfl
      have g2 : wr.cell? ⟨n + 2, 2, none⟩ = some (.int .i64 0) := by simp only [World.cell?, hF.tab]; rfl
      have g3 : wr.cell? ⟨n + 2, 3, none⟩ = some .nilFunc := by simp only [World.cell?, hF.tab]; rfl
      clear hF
      go_wp2_with fail
      refine (p108_0 Wb g m c _ HS1.out).mono ?_
      rintro e w1 ⟨rfl, hb⟩
      have HB1 := Lib.hid (HB.out.trans (hb.mono HB.out.size))
      clear hb g0 g1 g2 g3
      go_wp2_with fail
      go_roundw
      case rel => exact ⟨1, by omega, rfl, HB1⟩
      case measure => simp [RowKit.intOf]
    · obtain ⟨mw, fvw, nw, mr, fvr, g0, g1, g2, g3, _⟩ := frm_row (HF.out.below HB.out) k (by omega) (by omega)
      by_cases hkq : k = q
      · subst hkq
        go_wp2_with fail
        refine (p108_ok _ _ mw fvw nw mr fvr Wb g m c true _ (kind_ne k hq1 hq7) (by simp) hm HS1.out HX1.out).mono ?_
        rintro e w1 ⟨rfl, hb⟩
        have HB1 := Lib.hid (HB.out.trans (hb.mono HB.out.size))
        clear hb g0 g1 g2 g3
        go_wp2_with fail
        go_ret
        exact ⟨rfl, HB1.out⟩
      · go_wp2_with fail
        refine (p108_ok _ _ mw fvw nw mr fvr Wb g m c false _ (kind_ne k (by omega) (by omega)) (kind_lt k q (by omega) (by omega) hq7) hm HS1.out HX1.out).mono ?_
        rintro e w1 ⟨rfl, hb⟩
        have HB1 := Lib.hid (HB.out.trans (hb.mono HB.out.size))
        clear hb g0 g1 g2 g3
        go_wp2_with fail
        go_roundw
        case rel => exact ⟨k + 1, by omega, by go_num, HB1⟩
        case measure => simp [RowKit.intOf]; omega
end Go.Proofs.YtohighedgdlflaaGreatDoor

/- The words of an observation that may be, and such numbers. -/
namespace Go.Proofs.YtohighedgdlflaaGreatDoor
open Go.Shelf Go.RowKit Go.Sort Go.Lib Go.Proofs.YtohighedgdlflaaGreatDoorW.PrintWords Go.Proofs.YtohighedgdlflaaGreatDoor.PR
set_option linter.unusedVariables false
set_option linter.unusedSimpArgs false
def wordsN (t cl q p a b : Nat) : List ByteArray := [decS t, decS cl, kindS.getD q ByteArray.empty, hexS p] ++ writeN q a b
/-- What may be, in numbers. -/
structure GoodN (t cl q p a b : Nat) : Prop where
  t63 : t ≤ 9223372036854775807
  cl1 : 1 ≤ cl
  cl8 : cl ≤ 8
  q1 : 1 ≤ q
  q7 : q ≤ 7
  p32 : p < 4294967296
  a32 : a < 4294967296
  b32 : b < 4294967296
  k3 : q = 3 → 1 ≤ a ∧ a ≤ 6
  k4 : q = 4 → a ≤ 31 ∧ b = 0
  k6 : q = 6 → a = 0 ∧ b = 0
  k7 : q = 7 → b = 0
  k5 : q = 5 → b ≤ 2147483647
def nWords (q : Nat) : Nat := if q = 1 ∨ q = 2 ∨ q = 3 then 2 else if q = 6 then 0 else 1
def obN (t cl q p a b : Nat) : S35 := ⟨t, cl, q, p, a, b⟩
theorem good_of_may {o : S35} (h : mayB o = true) (hF : FitsT o) : ∃ t cl q p a b : Nat, o = obN t cl q p a b ∧ GoodN t cl q p a b := by
  obtain ⟨o0, o1, o2, o3, o4, o5⟩ := o
  obtain ⟨⟨f1, f2, f3, f4, f5, f6⟩, f7, f8⟩ := hF
  unfold mayB kindB at h
  simp only [Bool.and_eq_true, decide_eq_true_eq] at h
  obtain ⟨⟨⟨m1, m2⟩, m3⟩, m4⟩ := h
  simp only at f1 f2 f3 f4 f5 f6 f7 f8
  have hq : 1 ≤ o2 ∧ o2 ≤ 7 ∧ (o2 = 3 → 1 ≤ o4 ∧ o4 ≤ 6) ∧ (o2 = 4 → o4 < 32 ∧ o5 = 0) ∧ (o2 = 5 → o5 ≤ 2147483647) ∧ (o2 = 6 → o4 = 0 ∧ o5 = 0) ∧ (o2 = 7 → o5 = 0) := by
    split at m4
    · omega
    · split at m4
      · omega
      · split at m4
        · simp at m4; omega
        · split at m4
          · simp at m4; omega
          · split at m4
            · simp at m4; omega
            · split at m4
              · simp at m4; omega
              · split at m4
                · simp at m4; omega
                · simp at m4
  obtain ⟨q1, q2, q3, q4, q5, q6, q7⟩ := hq
  refine ⟨o0.toNat, o1.toNat, o2.toNat, o3.toNat, o4.toNat, o5.toNat, ?_, ⟨by omega, by omega, by omega, by omega, by omega, by omega, by omega, by omega, by omega, by omega, by omega, by omega, by omega⟩⟩
  unfold obN
  congr <;> omega
theorem GoodN.may {t cl q p a b : Nat} (h : GoodN t cl q p a b) : mayB (obN t cl q p a b) = true := by
  obtain ⟨h1, h2, h3, h4, h5, h6, h7, h8, k3, k4, k6, k7, k5⟩ := h
  unfold mayB kindB obN
  simp only [Bool.and_eq_true, decide_eq_true_eq]
  refine ⟨⟨⟨by omega, by omega⟩, by omega⟩, ?_⟩
  rcases (show q = 1 ∨ q = 2 ∨ q = 3 ∨ q = 4 ∨ q = 5 ∨ q = 6 ∨ q = 7 by omega) with h | h | h | h | h | h | h <;> subst h <;> simp at * <;> omega
theorem wordsL_obN (t cl q p a b : Nat) : wordsL (obN t cl q p a b) = wordsN t cl q p a b := by
  unfold wordsL wordsN headL obN
  rw [writeL_eq (q := q) (a := a) (b := b) rfl rfl rfl]
  simp
def lineZ (t cl q p a b : Nat) : ByteArray := ⟨(Lib.join ((wordsN t cl q p a b).map (·.data.toList)) [32]).toArray⟩
theorem lineB_obN (t cl q p a b : Nat) : lineB (obN t cl q p a b) = (lineZ t cl q p a b).data.toList ++ [10] := by
  unfold lineB lineZ
  rw [wordsL_obN]
theorem writeN_len (q a b : Nat) (hq1 : 1 ≤ q) (hq : q ≤ 7) : (writeN q a b).length = nWords q := by
  rcases (show q = 1 ∨ q = 2 ∨ q = 3 ∨ q = 4 ∨ q = 5 ∨ q = 6 ∨ q = 7 by omega) with h1 | h1 | h1 | h1 | h1 | h1 | h1 <;> subst h1 <;> simp [writeN, nWords]
theorem wordsN_len (t cl q p a b : Nat) (hq1 : 1 ≤ q) (hq : q ≤ 7) : (wordsN t cl q p a b).length = 4 + nWords q := by
  unfold wordsN
  rw [List.length_append, writeN_len q a b hq1 hq]
  rfl
end Go.Proofs.YtohighedgdlflaaGreatDoor

/- trace.line reads the words of an observation that may be. -/
namespace Go.Proofs.YtohighedgdlflaaGreatDoor
open Go.Proofs.YtohighedgdlflaaGreatDoorW.PrintLast Go.Shelf Go.RowKit Go.Sort Go.Lib Go.Proofs.YtohighedgdlflaaGreatDoorW.PrintWords Go.Proofs.YtohighedgdlflaaGreatDoor.PR
set_option linter.unusedVariables false
set_option linter.unusedSimpArgs false
theorem step_below {B : Nat} {w1 X Y : World} {P1 P2 P3 P4 P5 : Prop} (hS : P1 ∧ P2 ∧ P3 ∧ P4 ∧ P5 ∧ Hid (Below B w1 X)) (hB : B ≤ w1.heap.size) (hb : Below X.heap.size X Y) : Hid (Below B w1 Y) :=
  hS.2.2.2.2.2.out.trans (hb.mono (Nat.le_trans hB hS.2.2.2.2.2.out.size))
theorem step_b {B : Nat} {w1 X Y : World} (hS : Hid (Below B w1 X)) (hB : B ≤ w1.heap.size) (hb : Below X.heap.size X Y) : Hid (Below B w1 Y) :=
  hS.out.trans (hb.mono (Nat.le_trans hB hS.out.size))
theorem alloc_below {B : Nat} {w1 X : World} {P1 P2 P3 P4 P5 : Prop} {o : Obj} (hS : P1 ∧ P2 ∧ P3 ∧ P4 ∧ P5 ∧ Hid (Below B w1 X)) (hB : B ≤ w1.heap.size) : Below B w1 (X.alloc o) :=
  hS.2.2.2.2.2.out.alloc (Nat.le_trans hB hS.2.2.2.2.2.out.size) _
theorem set6_below {B O : Nat} {w1 X : World} {P1 P2 P3 P4 P5 : Prop} {v0 v1 v2 v3 v4 v5 : Value} (hS : P1 ∧ P2 ∧ P3 ∧ P4 ∧ P5 ∧ Hid (Below B w1 X)) (hO : B ≤ O) : Below B w1 ((((((X.setCell ⟨O, 0, none⟩ v0).setCell ⟨O, 1, none⟩ v1).setCell ⟨O, 2, none⟩ v2).setCell ⟨O, 3, none⟩ v3).setCell ⟨O, 4, none⟩ v4).setCell ⟨O, 5, none⟩ v5) :=
  (((((hS.2.2.2.2.2.out.setCell hO _).setCell hO _).setCell hO _).setCell hO _).setCell hO _).setCell hO _
theorem set6b {B O : Nat} {w1 X : World} {v0 v1 v2 v3 v4 v5 : Value} (hS : Below B w1 X) (hO : B ≤ O) : Below B w1 ((((((X.setCell ⟨O, 0, none⟩ v0).setCell ⟨O, 1, none⟩ v1).setCell ⟨O, 2, none⟩ v2).setCell ⟨O, 3, none⟩ v3).setCell ⟨O, 4, none⟩ v4).setCell ⟨O, 5, none⟩ v5) :=
  (((((hS.setCell hO _).setCell hO _).setCell hO _).setCell hO _).setCell hO _).setCell hO _
theorem new_block {Y W : World} (hb : Below (Y.alloc (.cells #[.int .u64 0, .int .i64 0, .int .i64 0, .int .u32 0, .int .u32 0, .int .u32 0] 35 (0, 0))).heap.size (Y.alloc (.cells #[.int .u64 0, .int .i64 0, .int .i64 0, .int .u32 0, .int .u32 0, .int .u32 0] 35 (0, 0))) W) : W.heap[Y.heap.size]? = some (.cells #[.int .u64 0, .int .i64 0, .int .i64 0, .int .u32 0, .int .u32 0, .int .u32 0] 35 (0, 0)) :=
  (hb.block _ (by simp)).trans (blk_new _ _)
theorem zero_cells {W : World} {O : Nat} (h : W.heap[O]? = some (.cells #[.int .u64 0, .int .i64 0, .int .i64 0, .int .u32 0, .int .u32 0, .int .u32 0] 35 (0, 0))) : W.cell? ⟨O, 0, none⟩ = some (.int .u64 0) ∧ W.cell? ⟨O, 1, none⟩ = some (.int .i64 0) ∧ W.cell? ⟨O, 2, none⟩ = some (.int .i64 0) ∧ W.cell? ⟨O, 3, none⟩ = some (.int .u32 0) ∧ W.cell? ⟨O, 4, none⟩ = some (.int .u32 0) ∧ W.cell? ⟨O, 5, none⟩ = some (.int .u32 0) := by
  refine ⟨?_, ?_, ?_, ?_, ?_, ?_⟩ <;> simp [World.cell?, h]
theorem zero_frozen {W : World} {O : Nat} (h : W.heap[O]? = some (.cells #[.int .u64 0, .int .i64 0, .int .i64 0, .int .u32 0, .int .u32 0, .int .u32 0] 35 (0, 0))) (j : Nat) : W.frozen? ⟨O, j, none⟩ = false := by
  simp [World.frozen?, h]
theorem zero_sets {W : World} {O : Nat} (h : W.heap[O]? = some (.cells #[.int .u64 0, .int .i64 0, .int .i64 0, .int .u32 0, .int .u32 0, .int .u32 0] 35 (0, 0))) (v0 v1 v2 v3 v4 : Value) :
    (W.setCell ⟨O, 0, none⟩ v0).cell? ⟨O, 1, none⟩ = some (.int .i64 0) ∧
    ((W.setCell ⟨O, 0, none⟩ v0).setCell ⟨O, 1, none⟩ v1).cell? ⟨O, 2, none⟩ = some (.int .i64 0) ∧
    (((W.setCell ⟨O, 0, none⟩ v0).setCell ⟨O, 1, none⟩ v1).setCell ⟨O, 2, none⟩ v2).cell? ⟨O, 3, none⟩ = some (.int .u32 0) ∧
    ((((W.setCell ⟨O, 0, none⟩ v0).setCell ⟨O, 1, none⟩ v1).setCell ⟨O, 2, none⟩ v2).setCell ⟨O, 3, none⟩ v3).cell? ⟨O, 4, none⟩ = some (.int .u32 0) ∧
    (((((W.setCell ⟨O, 0, none⟩ v0).setCell ⟨O, 1, none⟩ v1).setCell ⟨O, 2, none⟩ v2).setCell ⟨O, 3, none⟩ v3).setCell ⟨O, 4, none⟩ v4).cell? ⟨O, 5, none⟩ = some (.int .u32 0) := by
  obtain ⟨z0, z1, z2, z3, z4, z5⟩ := zero_cells h
  refine ⟨?_, ?_, ?_, ?_, ?_⟩
  · rw [World.cell?_setCell_other _ _ _ _ (by simp)]; exact z1
  · rw [World.cell?_setCell_other _ _ _ _ (by simp), World.cell?_setCell_other _ _ _ _ (by simp)]; exact z2
  · rw [World.cell?_setCell_other _ _ _ _ (by simp), World.cell?_setCell_other _ _ _ _ (by simp), World.cell?_setCell_other _ _ _ _ (by simp)]; exact z3
  · rw [World.cell?_setCell_other _ _ _ _ (by simp), World.cell?_setCell_other _ _ _ _ (by simp), World.cell?_setCell_other _ _ _ _ (by simp), World.cell?_setCell_other _ _ _ _ (by simp)]; exact z4
  · rw [World.cell?_setCell_other _ _ _ _ (by simp), World.cell?_setCell_other _ _ _ _ (by simp), World.cell?_setCell_other _ _ _ _ (by simp), World.cell?_setCell_other _ _ _ _ (by simp), World.cell?_setCell_other _ _ _ _ (by simp)]; exact z5
theorem zero_setsf {W : World} {O : Nat} (h : W.heap[O]? = some (.cells #[.int .u64 0, .int .i64 0, .int .i64 0, .int .u32 0, .int .u32 0, .int .u32 0] 35 (0, 0))) (v0 v1 v2 v3 v4 : Value) :
    (W.setCell ⟨O, 0, none⟩ v0).frozen? ⟨O, 1, none⟩ = false ∧
    ((W.setCell ⟨O, 0, none⟩ v0).setCell ⟨O, 1, none⟩ v1).frozen? ⟨O, 2, none⟩ = false ∧
    (((W.setCell ⟨O, 0, none⟩ v0).setCell ⟨O, 1, none⟩ v1).setCell ⟨O, 2, none⟩ v2).frozen? ⟨O, 3, none⟩ = false ∧
    ((((W.setCell ⟨O, 0, none⟩ v0).setCell ⟨O, 1, none⟩ v1).setCell ⟨O, 2, none⟩ v2).setCell ⟨O, 3, none⟩ v3).frozen? ⟨O, 4, none⟩ = false ∧
    (((((W.setCell ⟨O, 0, none⟩ v0).setCell ⟨O, 1, none⟩ v1).setCell ⟨O, 2, none⟩ v2).setCell ⟨O, 3, none⟩ v3).setCell ⟨O, 4, none⟩ v4).frozen? ⟨O, 5, none⟩ = false := by
  refine ⟨?_, ?_, ?_, ?_, ?_⟩ <;> simp only [World.frozen?_setCell] <;> exact zero_frozen h _
theorem frm_words {w : World} {n : Nat} (h : Frm w n) (q : Nat) (hq1 : 1 ≤ q) (hq : q ≤ 7) : w.cell? ⟨n + 2, q * 4 + 2, none⟩ = some (.int .i64 (nWords q)) := by
  rcases (show q = 1 ∨ q = 2 ∨ q = 3 ∨ q = 4 ∨ q = 5 ∨ q = 6 ∨ q = 7 by omega) with h1 | h1 | h1 | h1 | h1 | h1 | h1 <;> subst h1 <;> simp only [World.cell?, h.tab] <;> rfl
theorem set6_ob {W : World} {O : Nat} {o0 o1 o2 o3 o4 o5 : Value} (h : W.heap[O]? = some (.cells #[o0, o1, o2, o3, o4, o5] 35 (0, 0))) (v0 v1 v2 v3 v4 v5 : Value) :
    ((((((W.setCell ⟨O, 0, none⟩ v0).setCell ⟨O, 1, none⟩ v1).setCell ⟨O, 2, none⟩ v2).setCell ⟨O, 3, none⟩ v3).setCell ⟨O, 4, none⟩ v4).setCell ⟨O, 5, none⟩ v5).heap[O]? = some (.cells #[v0, v1, v2, v3, v4, v5] 35 (0, 0)) := by
  have step : ∀ (X : World) (cs : Array Value) (j : Nat) (v : Value), X.heap[O]? = some (.cells cs 35 (0, 0)) → (X.setCell ⟨O, j, none⟩ v).heap[O]? = some (.cells (cs.setIfInBounds j v) 35 (0, 0)) := by
    intro X cs j v hx
    exact heap_setCell_same _ _ _ _ _ _ hx
  have h0 := step _ _ 0 v0 h
  have h1 := step _ _ 1 v1 h0
  have h2 := step _ _ 2 v2 h1
  have h3 := step _ _ 3 v3 h2
  have h4 := step _ _ 4 v4 h3
  exact step _ _ 5 v5 h4
theorem frm_row2 {w : World} {n : Nat} (h : Frm w n) (q : Nat) (hq1 : 1 ≤ q) (hq : q ≤ 7) : ∃ (mr : Nat) (fvr : Array Value), w.cell? ⟨n + 2, q * 4 + 3, none⟩ = some (.func (.func mr) #[] fvr) ∧ (formCells (n + 1))[q * 4 + 3]? = some (.func (.func mr) #[] fvr) := by
  rcases (show q = 1 ∨ q = 2 ∨ q = 3 ∨ q = 4 ∨ q = 5 ∨ q = 6 ∨ q = 7 by omega) with h1 | h1 | h1 | h1 | h1 | h1 | h1 <;> subst h1 <;> exact ⟨_, _, by simp only [World.cell?, h.tab]; rfl, rfl⟩
theorem renter_any {n q mw : Nat} {fvw : Array Value} (hq1 : 1 ≤ q) (hq7 : q ≤ 7) (h : (formCells (n + 1))[q * 4 + 3]? = some (.func (.func mw) #[] fvw)) : ∀ args w, (callFunc mw args).run Tryz.prog w = .ok (.enter mw args) w := by
  rcases (show q = 1 ∨ q = 2 ∨ q = 3 ∨ q = 4 ∨ q = 5 ∨ q = 6 ∨ q = 7 by omega) with h1 | h1 | h1 | h1 | h1 | h1 | h1 <;> subst h1
  · obtain ⟨rfl, rfl⟩ := fn_inv (m := 71) (f := #[]) h; exact enters_of Tryz.func71 (by kernel_rfl) rfl
  · obtain ⟨rfl, rfl⟩ := fn_inv (m := 71) (f := #[]) h; exact enters_of Tryz.func71 (by kernel_rfl) rfl
  · obtain ⟨rfl, rfl⟩ := fn_inv (m := 73) (f := #[.pointer (some ⟨n + 1, 0, none⟩)]) h; exact enters_of Tryz.func73 (by kernel_rfl) rfl
  · obtain ⟨rfl, rfl⟩ := fn_inv (m := 78) (f := #[]) h; exact enters_of Tryz.func78 (by kernel_rfl) rfl
  · obtain ⟨rfl, rfl⟩ := fn_inv (m := 81) (f := #[]) h; exact enters_of Tryz.func81 (by kernel_rfl) rfl
  · obtain ⟨rfl, rfl⟩ := fn_inv (m := 83) (f := #[]) h; exact enters_of Tryz.func83 (by kernel_rfl) rfl
  · obtain ⟨rfl, rfl⟩ := fn_inv (m := 85) (f := #[]) h; exact enters_of Tryz.func85 (by kernel_rfl) rfl
/-- What the table's reader gives. -/
theorem read_any {W : World} {n q mr : Nat} {fvr : Array Value} (hF : Frm W n) {O t cl p a b g c : Nat} {A : Option Addr} (hG : GoodN t cl q p a b) (h : (formCells (n + 1))[q * 4 + 3]? = some (.func (.func mr) #[] fvr)) (hA : nWords q ≠ 0 → A = some ⟨g, 4, none⟩) (hO : ObN W O t cl q p 0 0) (hw : ∀ (j : Nat) x, (wordsN t cl q p a b)[j]? = some x → W.cell? ⟨g, j, none⟩ = some (.string x)) :
    Calls Tryz.prog mr (#[.pointer (some ⟨O, 0, none⟩), .slice A (nWords q) c] ++ fvr) W (RdR W O t cl q p a b) := by
  have h4 := hw 4
  have h5 := hw 5
  obtain ⟨g1, g2, g3, hq1, hq7, g6, g7, g8, k3, k4, k6, k7, k5⟩ := hG
  rcases (show q = 1 ∨ q = 2 ∨ q = 3 ∨ q = 4 ∨ q = 5 ∨ q = 6 ∨ q = 7 by omega) with h1 | h1 | h1 | h1 | h1 | h1 | h1 <;> subst h1
  · obtain ⟨rfl, rfl⟩ := fn_inv (m := 71) (f := #[]) h
    rw [hA (by decide)]
    exact r71_ok O t cl 1 p a b g c W g7 g8 hO (h4 _ rfl) (h5 _ rfl)
  · obtain ⟨rfl, rfl⟩ := fn_inv (m := 71) (f := #[]) h
    rw [hA (by decide)]
    exact r71_ok O t cl 2 p a b g c W g7 g8 hO (h4 _ rfl) (h5 _ rfl)
  · obtain ⟨rfl, rfl⟩ := fn_inv (m := 73) (f := #[.pointer (some ⟨n + 1, 0, none⟩)]) h
    rw [hA (by decide)]
    exact r73_ok O t cl 3 p a b g c n W (k3 rfl).1 (k3 rfl).2 g8 hF hO (h4 _ rfl) (h5 _ rfl)
  · obtain ⟨rfl, rfl⟩ := fn_inv (m := 78) (f := #[]) h
    obtain ⟨ka, rfl⟩ := k4 rfl
    rw [hA (by decide)]
    exact r78_ok O t cl 4 p a g c W ka hO (h4 _ rfl)
  · obtain ⟨rfl, rfl⟩ := fn_inv (m := 81) (f := #[]) h
    rw [hA (by decide)]
    exact r81_ok O t cl 5 p a b g c W g7 g8 hO (h4 _ rfl)
  · obtain ⟨rfl, rfl⟩ := fn_inv (m := 83) (f := #[]) h
    obtain ⟨rfl, rfl⟩ := k6 rfl
    exact r83_ok O t cl 6 p _ W hO
  · obtain ⟨rfl, rfl⟩ := fn_inv (m := 85) (f := #[]) h
    obtain rfl := k7 rfl
    rw [hA (by decide)]
    exact r85_ok O t cl 7 p a g c W g7 hO (h4 _ rfl)
set_option maxRecDepth 100000 in
set_option maxHeartbeats 8000000 in
theorem line_ok (n g c t cl q p a b : Nat) (w : World) (hG : GoodN t cl q p a b) (hF : Frm w n) (hg : g < w.heap.size) (hc : 4 + nWords q ≤ c) (hw : ∀ (j : Nat) x, (wordsN t cl q p a b)[j]? = some x → w.cell? ⟨g, j, none⟩ = some (.string x)) :
    Calls Tryz.prog 68 #[.slice (some ⟨n + 2, 0, none⟩) 8 8, .slice (some ⟨g, 0, none⟩) (4 + nWords q) c] w fun e w' => e = .returned (.agg #[.int .u64 t, .int .i64 cl, .int .i64 q, .int .u32 p, .int .u32 a, .int .u32 b]) ∧ Below w.heap.size w w' := by
  have HF := Lib.hid hF
  have HW := Lib.hid hw
  have HG := Lib.hid hG
  clear hF hw
  obtain ⟨m, hm⟩ : ∃ m, m = nWords q := ⟨_, rfl⟩
  rw [← hm] at hc ⊢
  have hm2 : m ≤ 2 := by rw [hm]; unfold nWords; split <;> (try split) <;> omega
  have Hm := Lib.hid hm
  clear hm
  have hm4 : (4 : Int) ≤ 4 + (m : Int) := by omega
  go_enter Tryz.func68, Tryz.ntmps68
  go_wp2_with fail
  obtain ⟨hq1, hq7⟩ := And.intro hG.q1 hG.q7
  have hcell : Hid (∀ W, Below (w.heap.size + 2) ((w.alloc (.cells #[.slice (some ⟨g, 0, none⟩) (4 + m) c] 78)).alloc (.cells #[.int .u64 0, .int .i64 0, .int .i64 0, .int .u32 0, .int .u32 0, .int .u32 0] 35)) W → (W.cell? ⟨w.heap.size, 0, none⟩ = some (.slice (some ⟨g, 0, none⟩) (4 + m) c) ∧ W.cell? ⟨g, 0, none⟩ = some (.string (decS t)) ∧ W.cell? ⟨g, 1, none⟩ = some (.string (decS cl)) ∧ W.cell? ⟨g, 2, none⟩ = some (.string (kindS.getD q ByteArray.empty)) ∧ W.cell? ⟨g, 3, none⟩ = some (.string (hexS p))) ∧ Frm W n ∧ Below w.heap.size w W) := by
    intro W hW
    have hA : Below w.heap.size w ((w.alloc (.cells #[.slice (some ⟨g, 0, none⟩) (4 + m) c] 78)).alloc (.cells #[.int .u64 0, .int .i64 0, .int .i64 0, .int .u32 0, .int .u32 0, .int .u32 0] 35)) := below_alloc (below_alloc (Below.refl _ _) _) _
    have hB : Below w.heap.size w W := hA.trans (hW.mono (by omega))
    refine ⟨⟨?_, ?_, ?_, ?_, ?_⟩, HF.out.below hB, hB⟩
    · rw [hW.cell (by simp)]
      rw [World.cell?_alloc_old _ _ _ (by simp)]
      simp [World.cell?_alloc_new]
    · rw [hB.cell hg]; exact HW.out 0 _ rfl
    · rw [hB.cell hg]; exact HW.out 1 _ rfl
    · rw [hB.cell hg]; exact HW.out 2 _ rfl
    · rw [hB.cell hg]; exact HW.out 3 _ rfl
  have hR0 : Hid (((w.alloc (.cells #[.slice (some ⟨g, 0, none⟩) (4 + m) c] 78)).alloc (.cells #[.int .u64 0, .int .i64 0, .int .i64 0, .int .u32 0, .int .u32 0, .int .u32 0] 35)).heap[w.heap.size + 1]? = some (.cells #[.int .u64 0, .int .i64 0, .int .i64 0, .int .u32 0, .int .u32 0, .int .u32 0] 35 (0, 0))) := by
    have := blk_new (w.alloc (.cells #[.slice (some ⟨g, 0, none⟩) (4 + m) c] 78)) (.cells #[.int .u64 0, .int .i64 0, .int .i64 0, .int .u32 0, .int .u32 0, .int .u32 0] 35 (0, 0))
    rwa [World.size_alloc] at this
  obtain ⟨W0, hW0⟩ : ∃ W0, W0 = ((w.alloc (.cells #[.slice (some ⟨g, 0, none⟩) (4 + m) c] 78)).alloc (.cells #[.int .u64 0, .int .i64 0, .int .i64 0, .int .u32 0, .int .u32 0, .int .u32 0] 35)) := ⟨_, rfl⟩
  have hz0 : W0.heap.size = w.heap.size + 2 := by rw [hW0]; simp
  rw [← hW0] at hcell hR0 ⊢
  clear hW0
  refine (must_ok _).mono ?_
  rintro e w1 ⟨rfl, rfl⟩
  go_wp2_with fail
  obtain ⟨⟨cw, c0, c1, c2, c3⟩, hfr, _⟩ := hcell.out _ (Below.refl _ _)
  refine (idxForm_ok n q w.heap.size g (4 + m) c _ hfr hq1 hq7 (by omega) cw c2).mono ?_
  clear cw c0 c1 c2 c3 hfr
  rintro e w2 ⟨rfl, hb2⟩
  have HB2 := Lib.hid hb2
  clear hb2
  obtain ⟨⟨cw, c0, c1, c2, c3⟩, hfr, _⟩ := hcell.out _ (HB2.out.mono (Nat.le_of_eq hz0.symm))
  have cn := frm_words hfr q hq1 hq7
  rw [← Hm.out] at cn
  have hqI : (0 : Int) < q ∧ (q : Int) < 8 := by omega
  have hdq : decide ((0 : Int) < q) = true := decide_eq_true hqI.1
  have hdq' : decide (0 < q) = true := decide_eq_true hq1
  clear hfr
  go_wp2_with fail
  go_quiet ((go_at_call 75; with_reducible exact Calls.quiet_of_same (must_ok _)))
  clear cn hdq hdq'
  go_wp2_with fail
  have HS : Hid (∀ W, Below (w.heap.size + 2) w1 W → (W.cell? ⟨w.heap.size, 0, none⟩ = some (.slice (some ⟨g, 0, none⟩) (4 + m) c) ∧ W.cell? ⟨g, 0, none⟩ = some (.string (decS t)) ∧ W.cell? ⟨g, 1, none⟩ = some (.string (decS cl)) ∧ W.cell? ⟨g, 2, none⟩ = some (.string (kindS.getD q ByteArray.empty)) ∧ W.cell? ⟨g, 3, none⟩ = some (.string (hexS p)) ∧ Hid (Below (w.heap.size + 2) w1 W))) := fun W hW => by
    obtain ⟨⟨cw, c0, c1, c2, c3⟩, _⟩ := hcell.out _ hW
    exact ⟨cw, c0, c1, c2, c3, hW⟩
  have HB0 : Hid (Below (w.heap.size + 2) w1 (w2.drewN nq)) := pw_below_drewN (HB2.out.mono (Nat.le_of_eq hz0.symm)) nq
  have hz2 : w.heap.size + 2 ≤ (w2.drewN nq).heap.size := by have := HB0.out.size; omega
  obtain ⟨W2, hW2⟩ : ∃ W2, W2 = w2.drewN nq := ⟨_, rfl⟩
  rw [← hW2] at HB0 hz2 ⊢
  clear hW2 cw c0 c1 c2 c3 HB2
  have u1 : t < 18446744073709551616 := by have := hG.t63; omega
  have u2 : cl < 18446744073709551616 := by have := hG.cl8; omega
  have u3 : t ≤ 9223372036854775807 := hG.t63
  have u4 : cl ≤ 8 := hG.cl8
  have u5 : p < 4294967296 := hG.p32
  have clI : (0 : Int) ≤ cl ∧ (cl : Int) ≤ 8 := by omega
  have b0 : (0 : Int) < 4 + (m : Int) := by omega
  have b1 : (1 : Int) < 4 + (m : Int) := by omega
  have b3 : (3 : Int) < 4 + (m : Int) := by omega
  have hd1 : ∀ W, Calls Tryz.prog 79 #[.string (decS t), .int .u64 9223372036854775807] W fun e w' => e = .returned (.int .u64 t) ∧ Below W.heap.size W w' := fun W => decimal_ok t 9223372036854775807 u1 u3 W
  have hd2 : ∀ W, Calls Tryz.prog 79 #[.string (decS cl), .int .u64 8] W fun e w' => e = .returned (.int .u64 cl) ∧ Below W.heap.size W w' := fun W => decimal_ok cl 8 u2 u4 W
  have hz1 : w.heap.size + 2 ≤ w1.heap.size := Nat.le_of_eq hz0.symm
  have HBc : Hid (Below (w.heap.size + 2) w1 W2.drew) := below_drew HB0.out
  clear HB0
  refine start_ (n := 17) (S := fun w' => w'.cell? ⟨w.heap.size, 0, none⟩ = some (.slice (some ⟨g, 0, none⟩) (4 + m) c) ∧ w'.cell? ⟨g, 0, none⟩ = some (.string (decS t)) ∧ w'.cell? ⟨g, 1, none⟩ = some (.string (decS cl)) ∧ w'.cell? ⟨g, 3, none⟩ = some (.string (hexS p))) (ds := [16]) #[false, false, false, false, false, false, false, false, false, false, false, false, false, false, false, false, false] (by kernel_rfl) rfl rfl ⟨(HS.out _ HBc.out).1, (HS.out _ HBc.out).2.1, (HS.out _ HBc.out).2.2.1, (HS.out _ HBc.out).2.2.2.2.1⟩ (fun hHeld => ?_)
  generalize W2.drew = W3 at HBc hHeld ⊢
  refine pure_ (i := 9) (N := some 37) (v := ?_) (a' := ?_) #[false, false, false, false, false, false, false, false, false, true, false, false, false, false, false, false, false] rfl rfl (by kernel_rfl) (fun _ _ _ h => h) (Or.inl ⟨by rfl, ?_⟩) ?_ ?_
  rotate_left
  · intro w'
    go_simp
    with_reducible rfl
  rotate_left
  · simp only [Act.put, List.setIfInBounds_toArray, List.set_cons_zero, List.set_cons_succ, i64_w, i32_w]
    rfl
  refine take_ (i := 0) (N := some 28) (v := ?_) (a' := ?_) #[true, false, false, false, false, false, false, false, false, true, false, false, false, false, false, false, false] rfl rfl (by kernel_rfl) (fun _ _ _ h => h) (Or.inl ⟨by rfl, ?_⟩) hHeld ?_ ?_
  rotate_left
  · rintro w' ⟨s0, s1, s2, s3⟩
    go_simp
    with_reducible rfl
  rotate_left
  · simp only [Act.put, List.setIfInBounds_toArray, List.set_cons_zero, List.set_cons_succ, i64_w, i32_w]
    rfl
  refine pure_ (i := 1) (N := some 29) (v := ?_) (a' := ?_) #[true, true, false, false, false, false, false, false, false, true, false, false, false, false, false, false, false] rfl rfl (by kernel_rfl) (fun _ _ _ h => h) (Or.inl ⟨by rfl, ?_⟩) ?_ ?_
  rotate_left
  · intro w'
    go_simp
    with_reducible rfl
  rotate_left
  · simp only [Act.put, List.setIfInBounds_toArray, List.set_cons_zero, List.set_cons_succ, i64_w, i32_w]
    rfl
  refine take_ (i := 2) (N := some 30) (v := ?_) (a' := ?_) #[true, true, true, false, false, false, false, false, false, true, false, false, false, false, false, false, false] rfl rfl (by kernel_rfl) (fun _ _ _ h => h) (Or.inl ⟨by rfl, ?_⟩) hHeld ?_ ?_
  rotate_left
  · rintro w' ⟨s0, s1, s2, s3⟩
    go_simp
    with_reducible rfl
  rotate_left
  · simp only [Act.put, List.setIfInBounds_toArray, List.set_cons_zero, List.set_cons_succ, i64_w, i32_w]
    rfl
  refine take_ (i := 4) (N := some 32) (v := ?_) (a' := ?_) #[true, true, true, false, true, false, false, false, false, true, false, false, false, false, false, false, false] rfl rfl (by kernel_rfl) (fun _ _ _ h => h) (Or.inl ⟨by rfl, ?_⟩) hHeld ?_ ?_
  rotate_left
  · rintro w' ⟨s0, s1, s2, s3⟩
    go_simp
    with_reducible rfl
  rotate_left
  · simp only [Act.put, List.setIfInBounds_toArray, List.set_cons_zero, List.set_cons_succ, i64_w, i32_w]
    rfl
  refine pure_ (i := 5) (N := some 33) (v := ?_) (a' := ?_) #[true, true, true, false, true, true, false, false, false, true, false, false, false, false, false, false, false] rfl rfl (by kernel_rfl) (fun _ _ _ h => h) (Or.inl ⟨by rfl, ?_⟩) ?_ ?_
  rotate_left
  · intro w'
    go_simp
    with_reducible rfl
  rotate_left
  · simp only [Act.put, List.setIfInBounds_toArray, List.set_cons_zero, List.set_cons_succ, i64_w, i32_w]
    rfl
  refine take_ (i := 6) (N := some 34) (v := ?_) (a' := ?_) #[true, true, true, false, true, true, true, false, false, true, false, false, false, false, false, false, false] rfl rfl (by kernel_rfl) (fun _ _ _ h => h) (Or.inl ⟨by rfl, ?_⟩) hHeld ?_ ?_
  rotate_left
  · rintro w' ⟨s0, s1, s2, s3⟩
    go_simp
    with_reducible rfl
  rotate_left
  · simp only [Act.put, List.setIfInBounds_toArray, List.set_cons_zero, List.set_cons_succ, i64_w, i32_w]
    rfl
  refine take_ (i := 10) (N := some 38) (v := ?_) (a' := ?_) #[true, true, true, false, true, true, true, false, false, true, true, false, false, false, false, false, false] rfl rfl (by kernel_rfl) (fun _ _ _ h => h) (Or.inl ⟨by rfl, ?_⟩) hHeld ?_ ?_
  rotate_left
  · rintro w' ⟨s0, s1, s2, s3⟩
    go_simp
    with_reducible rfl
  rotate_left
  · simp only [Act.put, List.setIfInBounds_toArray, List.set_cons_zero, List.set_cons_succ, i64_w, i32_w]
    rfl
  refine pure_ (i := 11) (N := some 39) (v := ?_) (a' := ?_) #[true, true, true, false, true, true, true, false, false, true, true, true, false, false, false, false, false] rfl rfl (by kernel_rfl) (fun _ _ _ h => h) (Or.inl ⟨by rfl, ?_⟩) ?_ ?_
  rotate_left
  · intro w'
    go_simp
    with_reducible rfl
  rotate_left
  · simp only [Act.put, List.setIfInBounds_toArray, List.set_cons_zero, List.set_cons_succ, i64_w, i32_w]
    rfl
  refine take_ (i := 12) (N := some 40) (v := ?_) (a' := ?_) #[true, true, true, false, true, true, true, false, false, true, true, true, true, false, false, false, false] rfl rfl (by kernel_rfl) (fun _ _ _ h => h) (Or.inl ⟨by rfl, ?_⟩) hHeld ?_ ?_
  rotate_left
  · rintro w' ⟨s0, s1, s2, s3⟩
    go_simp
    with_reducible rfl
  rotate_left
  · simp only [Act.put, List.setIfInBounds_toArray, List.set_cons_zero, List.set_cons_succ, i64_w, i32_w]
    rfl
  refine join_ (σ := Nat) 1 #[true, true, true, true, true, true, true, true, true, true, true, true, true, true, true, true, false] (fun O => [(31, .int .u64 t), (35, .int .u64 cl), (36, .int .i64 (wrap64 cl)), (41, .int .u32 p), (42, .agg #[.int .u64 t, .int .i64 (wrap64 cl), .int .i64 q, .int .u32 p, .int .u32 0, .int .u32 0]), (6, .pointer (some ⟨O, 0, none⟩))]) (fun O w' => w.heap.size + 2 ≤ O ∧ w'.heap[O]? = some (.cells #[.int .u64 0, .int .i64 0, .int .i64 0, .int .u32 0, .int .u32 0, .int .u32 0] 35 (0, 0)) ∧ Below (w.heap.size + 2) w1 w') ?_ ?_
  rotate_left
  · intro hCont
    refine two_ (i := 3) (j := 15) (Ni := some 31) (Nj := some 6) #[true, true, true, true, true, true, true, false, false, true, true, true, true, false, false, false, false] #[true, true, true, false, true, true, true, false, false, true, true, true, true, false, false, true, false] rfl rfl rfl rfl (by kernel_rfl) (by decide) (by decide) (fun K hK => ?_) (fun K hK => ?_)
    · skip
      refine goes_ Tryz.func79 (by kernel_rfl) rfl #[.string (decS t), .int .u64 9223372036854775807] (by rfl) rfl rfl (by simp only [List.map_toArray, List.map_cons, List.map_nil]; rfl) ?_
      with_reducible refine (hd1 _).mono ?_
      rintro e w5 ⟨rfl, hb⟩
      refine ⟨_, rfl, ?_⟩
      replace HBc := step_b HBc hz1 hb
      clear hb
      refine hK.out _ _ ⟨(HS.out _ HBc.out).1, (HS.out _ HBc.out).2.1, (HS.out _ HBc.out).2.2.1, (HS.out _ HBc.out).2.2.2.2.1⟩ (fun hHeld => ?_)
      clear hK K
      refine norm_ (a' := ?_) ?_ ?_
      rotate_left
      · show Act.put _ (some 31) _ = _
        simp only [Act.put, List.setIfInBounds_toArray, List.set_cons_zero, List.set_cons_succ, i64_w, i32_w]
        rfl
      refine two_ (i := 7) (j := 15) (Ni := some 35) (Nj := some 6) #[true, true, true, true, true, true, true, true, false, true, true, true, true, false, false, false, false] #[true, true, true, true, true, true, true, false, false, true, true, true, true, false, false, true, false] rfl rfl rfl rfl (by kernel_rfl) (by decide) (by decide) (fun K hK => ?_) (fun K hK => ?_)
      · skip
        refine goes_ Tryz.func79 (by kernel_rfl) rfl #[.string (decS cl), .int .u64 8] (by rfl) rfl rfl (by simp only [List.map_toArray, List.map_cons, List.map_nil]; rfl) ?_
        with_reducible refine (hd2 _).mono ?_
        rintro e w6 ⟨rfl, hb⟩
        refine ⟨_, rfl, ?_⟩
        replace HBc := step_b HBc hz1 hb
        clear hb
        refine hK.out _ _ ⟨(HS.out _ HBc.out).1, (HS.out _ HBc.out).2.1, (HS.out _ HBc.out).2.2.1, (HS.out _ HBc.out).2.2.2.2.1⟩ (fun hHeld => ?_)
        clear hK K
        refine norm_ (a' := ?_) ?_ ?_
        rotate_left
        · show Act.put _ (some 35) _ = _
          simp only [Act.put, List.setIfInBounds_toArray, List.set_cons_zero, List.set_cons_succ, i64_w, i32_w]
          rfl
        refine pure_ (i := 8) (N := some 36) (v := ?_) (a' := ?_) #[true, true, true, true, true, true, true, true, true, true, true, true, true, false, false, false, false] rfl rfl (by kernel_rfl) (fun _ _ _ h => h) (Or.inl ⟨by rfl, ?_⟩) ?_ ?_
        rotate_left
        · intro w'
          go_simp
          with_reducible rfl
        rotate_left
        · simp only [Act.put, List.setIfInBounds_toArray, List.set_cons_zero, List.set_cons_succ, i64_w, i32_w]
          rfl
        refine two_ (i := 13) (j := 15) (Ni := some 41) (Nj := some 6) #[true, true, true, true, true, true, true, true, true, true, true, true, true, true, false, false, false] #[true, true, true, true, true, true, true, true, true, true, true, true, true, false, false, true, false] rfl rfl rfl rfl (by kernel_rfl) (by decide) (by decide) (fun K hK => ?_) (fun K hK => ?_)
        · skip
          refine goes_ Tryz.func76 (by kernel_rfl) rfl #[.string (hexS p)] (by rfl) rfl rfl (by simp only [List.map_toArray, List.map_cons, List.map_nil]; rfl) ?_
          with_reducible refine (unhex_ok p u5 _).mono ?_
          rintro e w7 ⟨rfl, hb⟩
          refine ⟨_, rfl, ?_⟩
          replace HBc := step_b HBc hz1 hb
          clear hb
          refine hK.out _ _ ⟨(HS.out _ HBc.out).1, (HS.out _ HBc.out).2.1, (HS.out _ HBc.out).2.2.1, (HS.out _ HBc.out).2.2.2.2.1⟩ (fun hHeld => ?_)
          clear hK K
          refine norm_ (a' := ?_) ?_ ?_
          rotate_left
          · show Act.put _ (some 41) _ = _
            simp only [Act.put, List.setIfInBounds_toArray, List.set_cons_zero, List.set_cons_succ, i64_w, i32_w]
            rfl
          refine pure_ (i := 14) (N := some 42) (v := ?_) (a' := ?_) #[true, true, true, true, true, true, true, true, true, true, true, true, true, true, true, false, false] rfl rfl (by kernel_rfl) (fun _ _ _ h => h) (Or.inl ⟨by rfl, ?_⟩) ?_ ?_
          rotate_left
          · intro w'
            go_simp
            with_reducible rfl
          rotate_left
          · simp only [Act.put, List.setIfInBounds_toArray, List.set_cons_zero, List.set_cons_succ, i64_w, i32_w]
            rfl
          refine one_ (i := 15) (N := some 6) #[true, true, true, true, true, true, true, true, true, true, true, true, true, true, true, true, false] rfl rfl (by kernel_rfl) (by decide) (fun K hK => ?_)
          refine value_ (w1 := ?_) (v := ?_) (by rfl) rfl ?_ ?_
          rotate_left 2
          · go_simp
            constructor
            · rfl
            · rfl
          have hO : w.heap.size + 2 ≤ w7.heap.size := Nat.le_trans hz1 HBc.out.size
          have HZ := Lib.hid (blk_new w7 (.cells #[.int .u64 0, .int .i64 0, .int .i64 0, .int .u32 0, .int .u32 0, .int .u32 0] 35 (0, 0)))
          replace HBc := Lib.hid (HBc.out.alloc hO (.cells #[.int .u64 0, .int .i64 0, .int .i64 0, .int .u32 0, .int .u32 0, .int .u32 0] 35))
          refine hK.out _ _ ⟨(HS.out _ HBc.out).1, (HS.out _ HBc.out).2.1, (HS.out _ HBc.out).2.2.1, (HS.out _ HBc.out).2.2.2.2.1⟩ (fun hHeld => ?_)
          clear hK K
          refine norm_ (a' := ?_) ?_ ?_
          rotate_left
          · show Act.put _ (some 6) _ = _
            simp only [Act.put, List.setIfInBounds_toArray, List.set_cons_zero, List.set_cons_succ, i64_w, i32_w]
            rfl
          exact norm_ (by simp only [putAll, Act.put, List.setIfInBounds_toArray, List.set_cons_zero, List.set_cons_succ]) (hCont w7.heap.size _ ⟨hO, HZ.out, HBc.out⟩)
        · skip
          refine value_ (w1 := ?_) (v := ?_) (by rfl) rfl ?_ ?_
          rotate_left 2
          · go_simp
            constructor
            · rfl
            · rfl
          have hO : w.heap.size + 2 ≤ w6.heap.size := Nat.le_trans hz1 HBc.out.size
          have HZ := Lib.hid (blk_new w6 (.cells #[.int .u64 0, .int .i64 0, .int .i64 0, .int .u32 0, .int .u32 0, .int .u32 0] 35 (0, 0)))
          replace HBc := Lib.hid (HBc.out.alloc hO (.cells #[.int .u64 0, .int .i64 0, .int .i64 0, .int .u32 0, .int .u32 0, .int .u32 0] 35))
          refine hK.out _ _ ⟨(HS.out _ HBc.out).1, (HS.out _ HBc.out).2.1, (HS.out _ HBc.out).2.2.1, (HS.out _ HBc.out).2.2.2.2.1⟩ (fun hHeld => ?_)
          clear hK K
          refine norm_ (a' := ?_) ?_ ?_
          rotate_left
          · show Act.put _ (some 6) _ = _
            simp only [Act.put, List.setIfInBounds_toArray, List.set_cons_zero, List.set_cons_succ, i64_w, i32_w]
            rfl
          refine one_ (i := 13) (N := some 41) #[true, true, true, true, true, true, true, true, true, true, true, true, true, true, false, true, false] rfl rfl (by kernel_rfl) (by decide) (fun K hK => ?_)
          refine goes_ Tryz.func76 (by kernel_rfl) rfl #[.string (hexS p)] (by rfl) rfl rfl (by simp only [List.map_toArray, List.map_cons, List.map_nil]; rfl) ?_
          with_reducible refine (unhex_ok p u5 _).mono ?_
          rintro e w7 ⟨rfl, hb⟩
          refine ⟨_, rfl, ?_⟩
          replace HZ := Lib.hid ((hb.block _ (heap_lt' HZ.out)).trans HZ.out)
          replace HBc := step_b HBc hz1 hb
          clear hb
          refine hK.out _ _ ⟨(HS.out _ HBc.out).1, (HS.out _ HBc.out).2.1, (HS.out _ HBc.out).2.2.1, (HS.out _ HBc.out).2.2.2.2.1⟩ (fun hHeld => ?_)
          clear hK K
          refine norm_ (a' := ?_) ?_ ?_
          rotate_left
          · show Act.put _ (some 41) _ = _
            simp only [Act.put, List.setIfInBounds_toArray, List.set_cons_zero, List.set_cons_succ, i64_w, i32_w]
            rfl
          refine pure_ (i := 14) (N := some 42) (v := ?_) (a' := ?_) #[true, true, true, true, true, true, true, true, true, true, true, true, true, true, true, true, false] rfl rfl (by kernel_rfl) (fun _ _ _ h => h) (Or.inl ⟨by rfl, ?_⟩) ?_ ?_
          rotate_left
          · intro w'
            go_simp
            with_reducible rfl
          rotate_left
          · simp only [Act.put, List.setIfInBounds_toArray, List.set_cons_zero, List.set_cons_succ, i64_w, i32_w]
            rfl
          exact norm_ (by simp only [putAll, Act.put, List.setIfInBounds_toArray, List.set_cons_zero, List.set_cons_succ]) (hCont w6.heap.size _ ⟨hO, HZ.out, HBc.out⟩)
      · skip
        refine value_ (w1 := ?_) (v := ?_) (by rfl) rfl ?_ ?_
        rotate_left 2
        · go_simp
          constructor
          · rfl
          · rfl
        have hO : w.heap.size + 2 ≤ w5.heap.size := Nat.le_trans hz1 HBc.out.size
        have HZ := Lib.hid (blk_new w5 (.cells #[.int .u64 0, .int .i64 0, .int .i64 0, .int .u32 0, .int .u32 0, .int .u32 0] 35 (0, 0)))
        replace HBc := Lib.hid (HBc.out.alloc hO (.cells #[.int .u64 0, .int .i64 0, .int .i64 0, .int .u32 0, .int .u32 0, .int .u32 0] 35))
        refine hK.out _ _ ⟨(HS.out _ HBc.out).1, (HS.out _ HBc.out).2.1, (HS.out _ HBc.out).2.2.1, (HS.out _ HBc.out).2.2.2.2.1⟩ (fun hHeld => ?_)
        clear hK K
        refine norm_ (a' := ?_) ?_ ?_
        rotate_left
        · show Act.put _ (some 6) _ = _
          simp only [Act.put, List.setIfInBounds_toArray, List.set_cons_zero, List.set_cons_succ, i64_w, i32_w]
          rfl
        refine one_ (i := 7) (N := some 35) #[true, true, true, true, true, true, true, true, false, true, true, true, true, false, false, true, false] rfl rfl (by kernel_rfl) (by decide) (fun K hK => ?_)
        refine goes_ Tryz.func79 (by kernel_rfl) rfl #[.string (decS cl), .int .u64 8] (by rfl) rfl rfl (by simp only [List.map_toArray, List.map_cons, List.map_nil]; rfl) ?_
        with_reducible refine (hd2 _).mono ?_
        rintro e w6 ⟨rfl, hb⟩
        refine ⟨_, rfl, ?_⟩
        replace HZ := Lib.hid ((hb.block _ (heap_lt' HZ.out)).trans HZ.out)
        replace HBc := step_b HBc hz1 hb
        clear hb
        refine hK.out _ _ ⟨(HS.out _ HBc.out).1, (HS.out _ HBc.out).2.1, (HS.out _ HBc.out).2.2.1, (HS.out _ HBc.out).2.2.2.2.1⟩ (fun hHeld => ?_)
        clear hK K
        refine norm_ (a' := ?_) ?_ ?_
        rotate_left
        · show Act.put _ (some 35) _ = _
          simp only [Act.put, List.setIfInBounds_toArray, List.set_cons_zero, List.set_cons_succ, i64_w, i32_w]
          rfl
        refine pure_ (i := 8) (N := some 36) (v := ?_) (a' := ?_) #[true, true, true, true, true, true, true, true, true, true, true, true, true, false, false, true, false] rfl rfl (by kernel_rfl) (fun _ _ _ h => h) (Or.inl ⟨by rfl, ?_⟩) ?_ ?_
        rotate_left
        · intro w'
          go_simp
          with_reducible rfl
        rotate_left
        · simp only [Act.put, List.setIfInBounds_toArray, List.set_cons_zero, List.set_cons_succ, i64_w, i32_w]
          rfl
        refine one_ (i := 13) (N := some 41) #[true, true, true, true, true, true, true, true, true, true, true, true, true, true, false, true, false] rfl rfl (by kernel_rfl) (by decide) (fun K hK => ?_)
        refine goes_ Tryz.func76 (by kernel_rfl) rfl #[.string (hexS p)] (by rfl) rfl rfl (by simp only [List.map_toArray, List.map_cons, List.map_nil]; rfl) ?_
        with_reducible refine (unhex_ok p u5 _).mono ?_
        rintro e w7 ⟨rfl, hb⟩
        refine ⟨_, rfl, ?_⟩
        replace HZ := Lib.hid ((hb.block _ (heap_lt' HZ.out)).trans HZ.out)
        replace HBc := step_b HBc hz1 hb
        clear hb
        refine hK.out _ _ ⟨(HS.out _ HBc.out).1, (HS.out _ HBc.out).2.1, (HS.out _ HBc.out).2.2.1, (HS.out _ HBc.out).2.2.2.2.1⟩ (fun hHeld => ?_)
        clear hK K
        refine norm_ (a' := ?_) ?_ ?_
        rotate_left
        · show Act.put _ (some 41) _ = _
          simp only [Act.put, List.setIfInBounds_toArray, List.set_cons_zero, List.set_cons_succ, i64_w, i32_w]
          rfl
        refine pure_ (i := 14) (N := some 42) (v := ?_) (a' := ?_) #[true, true, true, true, true, true, true, true, true, true, true, true, true, true, true, true, false] rfl rfl (by kernel_rfl) (fun _ _ _ h => h) (Or.inl ⟨by rfl, ?_⟩) ?_ ?_
        rotate_left
        · intro w'
          go_simp
          with_reducible rfl
        rotate_left
        · simp only [Act.put, List.setIfInBounds_toArray, List.set_cons_zero, List.set_cons_succ, i64_w, i32_w]
          rfl
        exact norm_ (by simp only [putAll, Act.put, List.setIfInBounds_toArray, List.set_cons_zero, List.set_cons_succ]) (hCont w5.heap.size _ ⟨hO, HZ.out, HBc.out⟩)
    · skip
      refine value_ (w1 := ?_) (v := ?_) (by rfl) rfl ?_ ?_
      rotate_left 2
      · go_simp
        constructor
        · rfl
        · rfl
      have hO : w.heap.size + 2 ≤ W3.heap.size := Nat.le_trans hz1 HBc.out.size
      have HZ := Lib.hid (blk_new W3 (.cells #[.int .u64 0, .int .i64 0, .int .i64 0, .int .u32 0, .int .u32 0, .int .u32 0] 35 (0, 0)))
      replace HBc := Lib.hid (HBc.out.alloc hO (.cells #[.int .u64 0, .int .i64 0, .int .i64 0, .int .u32 0, .int .u32 0, .int .u32 0] 35))
      refine hK.out _ _ ⟨(HS.out _ HBc.out).1, (HS.out _ HBc.out).2.1, (HS.out _ HBc.out).2.2.1, (HS.out _ HBc.out).2.2.2.2.1⟩ (fun hHeld => ?_)
      clear hK K
      refine norm_ (a' := ?_) ?_ ?_
      rotate_left
      · show Act.put _ (some 6) _ = _
        simp only [Act.put, List.setIfInBounds_toArray, List.set_cons_zero, List.set_cons_succ, i64_w, i32_w]
        rfl
      refine one_ (i := 3) (N := some 31) #[true, true, true, true, true, true, true, false, false, true, true, true, true, false, false, true, false] rfl rfl (by kernel_rfl) (by decide) (fun K hK => ?_)
      refine goes_ Tryz.func79 (by kernel_rfl) rfl #[.string (decS t), .int .u64 9223372036854775807] (by rfl) rfl rfl (by simp only [List.map_toArray, List.map_cons, List.map_nil]; rfl) ?_
      with_reducible refine (hd1 _).mono ?_
      rintro e w5 ⟨rfl, hb⟩
      refine ⟨_, rfl, ?_⟩
      replace HZ := Lib.hid ((hb.block _ (heap_lt' HZ.out)).trans HZ.out)
      replace HBc := step_b HBc hz1 hb
      clear hb
      refine hK.out _ _ ⟨(HS.out _ HBc.out).1, (HS.out _ HBc.out).2.1, (HS.out _ HBc.out).2.2.1, (HS.out _ HBc.out).2.2.2.2.1⟩ (fun hHeld => ?_)
      clear hK K
      refine norm_ (a' := ?_) ?_ ?_
      rotate_left
      · show Act.put _ (some 31) _ = _
        simp only [Act.put, List.setIfInBounds_toArray, List.set_cons_zero, List.set_cons_succ, i64_w, i32_w]
        rfl
      refine one_ (i := 7) (N := some 35) #[true, true, true, true, true, true, true, true, false, true, true, true, true, false, false, true, false] rfl rfl (by kernel_rfl) (by decide) (fun K hK => ?_)
      refine goes_ Tryz.func79 (by kernel_rfl) rfl #[.string (decS cl), .int .u64 8] (by rfl) rfl rfl (by simp only [List.map_toArray, List.map_cons, List.map_nil]; rfl) ?_
      with_reducible refine (hd2 _).mono ?_
      rintro e w6 ⟨rfl, hb⟩
      refine ⟨_, rfl, ?_⟩
      replace HZ := Lib.hid ((hb.block _ (heap_lt' HZ.out)).trans HZ.out)
      replace HBc := step_b HBc hz1 hb
      clear hb
      refine hK.out _ _ ⟨(HS.out _ HBc.out).1, (HS.out _ HBc.out).2.1, (HS.out _ HBc.out).2.2.1, (HS.out _ HBc.out).2.2.2.2.1⟩ (fun hHeld => ?_)
      clear hK K
      refine norm_ (a' := ?_) ?_ ?_
      rotate_left
      · show Act.put _ (some 35) _ = _
        simp only [Act.put, List.setIfInBounds_toArray, List.set_cons_zero, List.set_cons_succ, i64_w, i32_w]
        rfl
      refine pure_ (i := 8) (N := some 36) (v := ?_) (a' := ?_) #[true, true, true, true, true, true, true, true, true, true, true, true, true, false, false, true, false] rfl rfl (by kernel_rfl) (fun _ _ _ h => h) (Or.inl ⟨by rfl, ?_⟩) ?_ ?_
      rotate_left
      · intro w'
        go_simp
        with_reducible rfl
      rotate_left
      · simp only [Act.put, List.setIfInBounds_toArray, List.set_cons_zero, List.set_cons_succ, i64_w, i32_w]
        rfl
      refine one_ (i := 13) (N := some 41) #[true, true, true, true, true, true, true, true, true, true, true, true, true, true, false, true, false] rfl rfl (by kernel_rfl) (by decide) (fun K hK => ?_)
      refine goes_ Tryz.func76 (by kernel_rfl) rfl #[.string (hexS p)] (by rfl) rfl rfl (by simp only [List.map_toArray, List.map_cons, List.map_nil]; rfl) ?_
      with_reducible refine (unhex_ok p u5 _).mono ?_
      rintro e w7 ⟨rfl, hb⟩
      refine ⟨_, rfl, ?_⟩
      replace HZ := Lib.hid ((hb.block _ (heap_lt' HZ.out)).trans HZ.out)
      replace HBc := step_b HBc hz1 hb
      clear hb
      refine hK.out _ _ ⟨(HS.out _ HBc.out).1, (HS.out _ HBc.out).2.1, (HS.out _ HBc.out).2.2.1, (HS.out _ HBc.out).2.2.2.2.1⟩ (fun hHeld => ?_)
      clear hK K
      refine norm_ (a' := ?_) ?_ ?_
      rotate_left
      · show Act.put _ (some 41) _ = _
        simp only [Act.put, List.setIfInBounds_toArray, List.set_cons_zero, List.set_cons_succ, i64_w, i32_w]
        rfl
      refine pure_ (i := 14) (N := some 42) (v := ?_) (a' := ?_) #[true, true, true, true, true, true, true, true, true, true, true, true, true, true, true, true, false] rfl rfl (by kernel_rfl) (fun _ _ _ h => h) (Or.inl ⟨by rfl, ?_⟩) ?_ ?_
      rotate_left
      · intro w'
        go_simp
        with_reducible rfl
      rotate_left
      · simp only [Act.put, List.setIfInBounds_toArray, List.set_cons_zero, List.set_cons_succ, i64_w, i32_w]
        rfl
      exact norm_ (by simp only [putAll, Act.put, List.setIfInBounds_toArray, List.set_cons_zero, List.set_cons_succ]) (hCont W3.heap.size _ ⟨hO, HZ.out, HBc.out⟩)
  rintro O w8 ⟨hO, hZ, hBc⟩
  clear HBc
  have HZ := Lib.hid hZ
  have HBc := Lib.hid hBc
  have hHeld := And.intro (HS.out _ HBc.out).1 (And.intro (HS.out _ HBc.out).2.1 (And.intro (HS.out _ HBc.out).2.2.1 (HS.out _ HBc.out).2.2.2.2.1))
  obtain ⟨z0, z1, z2, z3, z4, z5⟩ := zero_cells HZ.out; obtain ⟨y1, y2, y3, y4, y5⟩ := zero_sets HZ.out (.int .u64 t) (.int .i64 (wrap64 cl)) (.int .i64 q) (.int .u32 p) (.int .u32 0); obtain ⟨x1, x2, x3, x4, x5⟩ := zero_setsf HZ.out (.int .u64 t) (.int .i64 (wrap64 cl)) (.int .i64 q) (.int .u32 p) (.int .u32 0); have zf0 := zero_frozen HZ.out 0; have zf1 := zero_frozen HZ.out 1; have zf2 := zero_frozen HZ.out 2; have zf3 := zero_frozen HZ.out 3; have zf4 := zero_frozen HZ.out 4; have zf5 := zero_frozen HZ.out 5
  refine norm_ (a' := ?_) ?_ ?_
  rotate_left
  · simp only [putAll, Act.put, List.setIfInBounds_toArray, List.set_cons_zero, List.set_cons_succ]
    rfl
  refine last_ (i := 16) (N := none) #[true, true, true, true, true, true, true, true, true, true, true, true, true, true, true, true, true] rfl rfl (by kernel_rfl) (by decide) (fun K hK => ?_)
  refine skip_ (w1 := ?_) (by rfl) rfl ?_ ?_
  rotate_left
  · go_simp
    rfl
  refine hK.out _ _ ?_
  clear hK K
  refine done_ (by kernel_rfl) ?_
  have hwc64 : wrap64 (cl : Int) = (cl : Int) := by unfold wrap64; omega
  obtain ⟨wc, hwc⟩ : ∃ wc, wc = ((((((w8.setCell ⟨O, 0, none⟩ (.int .u64 t)).setCell ⟨O, 1, none⟩ (.int .i64 (wrap64 cl))).setCell ⟨O, 2, none⟩ (.int .i64 q)).setCell ⟨O, 3, none⟩ (.int .u32 p)).setCell ⟨O, 4, none⟩ (.int .u32 0)).setCell ⟨O, 5, none⟩ (.int .u32 0)) := ⟨_, rfl⟩
  have HBd : Hid (Below (w.heap.size + 2) w1 wc) := by
    show Below (w.heap.size + 2) w1 wc
    rw [hwc]; exact set6b HBc.out hO
  have HOd : Hid (ObN wc O t cl q p 0 0) := by
    show ObN wc O t cl q p 0 0
    rw [hwc, hwc64]; exact set6_ob HZ.out _ _ _ _ _ _
  rw [← hwc]
  clear hwc z0 z1 z2 z3 z4 z5 y1 y2 y3 y4 y5 x1 x2 x3 x4 x5 zf0 zf1 zf2 zf3 zf4 zf5 HZ hHeld HBc hd1 hd2
  obtain ⟨_, hfrd, hBw⟩ := hcell.out _ HBd.out
  obtain ⟨mr, fvr, hmr, hmr2⟩ := frm_row2 hfrd q hq1 hq7
  have hent : ∀ args w, (callFunc mr args).run Tryz.prog w = .ok (.enter mr args) w := renter_any hq1 hq7 hmr2
  have HBd5 : Hid (wc.drew.cell? ⟨n + 2, q * 4 + 3, none⟩ = some (.func (.func mr) #[] fvr) ∧ wc.drew.cell? ⟨w.heap.size, 0, none⟩ = some (.slice (some ⟨g, 0, none⟩) (4 + m) c)) := ⟨hmr, (HS.out _ HBd.out).1⟩
  have hrd : Hid (∀ W, Below (w.heap.size + 2) w1 W → ObN W O t cl q p 0 0 → Calls Tryz.prog mr (#[.pointer (some ⟨O, 0, none⟩), .slice (if c = 4 then some ⟨g, 0, none⟩ else some ⟨g, 4, none⟩) m (c - 4)] ++ fvr) W (RdR W O t cl q p a b)) := by
    intro W hW hO'
    obtain ⟨_, hf, hBw'⟩ := hcell.out _ hW
    rw [Hm.out]
    exact read_any hf HG.out hmr2 (fun h => by rw [if_neg]; have := Hm.out; omega) hO' (fun j x hx => by rw [hBw'.cell hg]; exact HW.out j x hx)
  replace HBd : Hid (Below (w.heap.size + 2) w1 wc.drew) := below_drew HBd.out
  replace HOd : Hid (ObN wc.drew O t cl q p 0 0) := HOd.out
  go_wp2_with fail
  refine start_ (n := 8) (S := fun w' => w'.cell? ⟨n + 2, q * 4 + 3, none⟩ = some (.func (.func mr) #[] fvr) ∧ w'.cell? ⟨w.heap.size, 0, none⟩ = some (.slice (some ⟨g, 0, none⟩) (4 + m) c)) (ds := [7]) #[false, false, false, false, false, false, false, false] (by kernel_rfl) rfl rfl ⟨HBd5.out.1, HBd5.out.2⟩ (fun hHeld => ?_)
  generalize wc.drew = W5 at HBd HOd hHeld ⊢
  refine pure_ (i := 0) (N := some 43) (v := ?_) (a' := ?_) #[true, false, false, false, false, false, false, false] rfl rfl (by kernel_rfl) (fun _ _ _ h => h) (Or.inl ⟨by rfl, ?_⟩) ?_ ?_
  rotate_left
  · intro w'
    go_simp
    with_reducible rfl
  rotate_left
  · simp only [Act.put, List.setIfInBounds_toArray, List.set_cons_zero, List.set_cons_succ, i64_w, i32_w]
    rfl
  refine pure_ (i := 1) (N := some 44) (v := ?_) (a' := ?_) #[true, true, false, false, false, false, false, false] rfl rfl (by kernel_rfl) (fun _ _ _ h => h) (Or.inl ⟨by rfl, ?_⟩) ?_ ?_
  rotate_left
  · intro w'
    go_simp
    with_reducible rfl
  rotate_left
  · simp only [Act.put, List.setIfInBounds_toArray, List.set_cons_zero, List.set_cons_succ, i64_w, i32_w]
    rfl
  refine pure_ (i := 2) (N := some 45) (v := ?_) (a' := ?_) #[true, true, true, false, false, false, false, false] rfl rfl (by kernel_rfl) (fun _ _ _ h => h) (Or.inl ⟨by rfl, ?_⟩) ?_ ?_
  rotate_left
  · intro w'
    go_simp
    with_reducible rfl
  rotate_left
  · simp only [Act.put, List.setIfInBounds_toArray, List.set_cons_zero, List.set_cons_succ, i64_w, i32_w]
    rfl
  refine pure_ (i := 3) (N := some 46) (v := ?_) (a' := ?_) #[true, true, true, true, false, false, false, false] rfl rfl (by kernel_rfl) (fun _ _ _ h => h) (Or.inl ⟨by rfl, ?_⟩) ?_ ?_
  rotate_left
  · intro w'
    go_simp
    with_reducible rfl
  rotate_left
  · simp only [Act.put, List.setIfInBounds_toArray, List.set_cons_zero, List.set_cons_succ, i64_w, i32_w]
    rfl
  refine take_ (i := 4) (N := some 47) (v := ?_) (a' := ?_) #[true, true, true, true, true, false, false, false] rfl rfl (by kernel_rfl) (fun _ _ _ h => h) (Or.inl ⟨by rfl, ?_⟩) hHeld ?_ ?_
  rotate_left
  · rintro w' ⟨s0, s1⟩
    go_simp
    with_reducible rfl
  rotate_left
  · simp only [Act.put, List.setIfInBounds_toArray, List.set_cons_zero, List.set_cons_succ, i64_w, i32_w]
    rfl
  refine take_ (i := 5) (N := some 48) (v := ?_) (a' := ?_) #[true, true, true, true, true, true, false, false] rfl rfl (by kernel_rfl) (fun _ _ _ h => h) (Or.inl ⟨by rfl, ?_⟩) hHeld ?_ ?_
  rotate_left
  · rintro w' ⟨s0, s1⟩
    go_simp
    with_reducible rfl
  rotate_left
  · simp only [Act.put, List.setIfInBounds_toArray, List.set_cons_zero, List.set_cons_succ, i64_w, i32_w]
    rfl
  refine pure_ (i := 6) (N := some 49) (v := ?_) (a' := ?_) #[true, true, true, true, true, true, true, false] rfl rfl (by kernel_rfl) (fun _ _ _ h => h) (Or.inl ⟨by rfl, ?_⟩) ?_ ?_
  rotate_left
  · intro w'
    go_simp
    with_reducible rfl
  rotate_left
  · simp only [Act.put, List.setIfInBounds_toArray, List.set_cons_zero, List.set_cons_succ, i64_w, i32_w]
    rfl
  refine last_ (i := 7) (N := some 50) #[true, true, true, true, true, true, true, true] rfl rfl (by kernel_rfl) (by decide) (fun K hK => ?_)
  refine call_ mr (#[.pointer (some ⟨O, 0, none⟩), .slice (if c = 4 then some ⟨g, 0, none⟩ else some ⟨g, 4, none⟩) m (c - 4)] ++ fvr) (by rfl) rfl ?_ ?_
  · go_simp
  refine (hrd.out _ HBd.out HOd.out).mono ?_
  rintro e w10 ⟨rfl, ho, hb⟩
  refine ⟨_, rfl, ?_⟩
  refine hK.out _ _ ?_
  clear hK K
  refine norm_ (a' := ?_) ?_ ?_
  rotate_left
  · show Act.put _ (some 50) _ = _
    simp only [Act.put, List.setIfInBounds_toArray, List.set_cons_zero, List.set_cons_succ, i64_w, i32_w]
    rfl
  refine done_ (by kernel_rfl) ?_
  have HB10 : Hid (Below (w.heap.size + 2) w1 w10) := HBd.out.trans (hb.mono hO)
  have HO10 := Lib.hid ho
  clear hb ho HOd HBd hHeld HBd5 hrd hent hmr hmr2 hBw hfrd HS
  obtain ⟨c0, c1, c2, c3, c4, c5⟩ := HO10.out.cells
  generalize (if c = 4 then (some ⟨g, 0, none⟩ : Option Addr) else some ⟨g, 4, none⟩) = AA
  go_wp2_with fail
  refine (may_ok (obN t cl q p a b) _).mono ?_
  rintro e w11 ⟨rfl, hb⟩
  rw [HG.out.may]
  clear c0 c1 c2 c3 c4 c5
  have HO11 := Lib.hid (HO10.out.below hb)
  have HB11 := step_b HB10 hz1 hb
  clear hb HO10 HB10
  go_wp2_with fail
  refine (must_ok _).mono ?_
  rintro e w12 ⟨rfl, rfl⟩
  obtain ⟨c0, c1, c2, c3, c4, c5⟩ := HO11.out.cells
  have hR12 : w12.heap[w.heap.size + 1]? = some (.cells #[.int .u64 0, .int .i64 0, .int .i64 0, .int .u32 0, .int .u32 0, .int .u32 0] 35 (0, 0)) := (HB11.out.block _ (by omega)).trans hR0.out
  have HR12 := Lib.hid hR12
  obtain ⟨z0, z1, z2, z3, z4, z5⟩ := zero_cells hR12
  obtain ⟨y1, y2, y3, y4, y5⟩ := zero_sets hR12 (.int .u64 t) (.int .i64 cl) (.int .i64 q) (.int .u32 p) (.int .u32 a)
  obtain ⟨x1, x2, x3, x4, x5⟩ := zero_setsf hR12 (.int .u64 t) (.int .i64 cl) (.int .i64 q) (.int .u32 p) (.int .u32 a)
  have zf0 := zero_frozen hR12 0
  clear hR12
  go_wp2_with fail
  have hfin := set6_ob HR12.out (.int .u64 t) (.int .i64 cl) (.int .i64 q) (.int .u32 p) (.int .u32 a) (.int .u32 b)
  obtain ⟨e0, e1, e2, e3, e4, e5⟩ := ObN.cells (O := w.heap.size + 1) (t := t) (cl := cl) (q := q) (p := p) (a := a) (b := b) hfin
  obtain ⟨_, _, hBw12⟩ := hcell.out _ HB11.out
  have HBf := set6b (v0 := .int .u64 t) (v1 := .int .i64 cl) (v2 := .int .i64 q) (v3 := .int .u32 p) (v4 := .int .u32 a) (v5 := .int .u32 b) (O := w.heap.size + 1) hBw12 (by omega)
  generalize ((((((w12.setCell ⟨w.heap.size + 1, 0, none⟩ (.int .u64 t)).setCell ⟨w.heap.size + 1, 1, none⟩ (.int .i64 cl)).setCell ⟨w.heap.size + 1, 2, none⟩ (.int .i64 q)).setCell ⟨w.heap.size + 1, 3, none⟩ (.int .u32 p)).setCell ⟨w.heap.size + 1, 4, none⟩ (.int .u32 a)).setCell ⟨w.heap.size + 1, 5, none⟩ (.int .u32 b)) = WF at e0 e1 e2 e3 e4 e5 HBf ⊢
  clear c0 c1 c2 c3 c4 c5 z0 z1 z2 z3 z4 z5 y1 y2 y3 y4 y5 x1 x2 x3 x4 x5 zf0 hfin
  refine bodyPost_ret (v := .agg #[.int .u64 t, .int .i64 cl, .int .i64 q, .int .u32 p, .int .u32 a, .int .u32 b]) ?_ rfl ⟨rfl, HBf⟩
  simp [results, show Tryz.f68.results = #[.cell 4 35] from rfl, go_sem, e0, e1, e2, e3, e4, e5]
end Go.Proofs.YtohighedgdlflaaGreatDoor

/- strings.Split at one byte, as a plain recursion. -/
namespace Go.Proofs.YtohighedgdlflaaGreatDoor
open Go.Lib
def splitC (c : UInt8) : List UInt8 → List (List UInt8)
  | [] => [[]]
  | b :: l => if b = c then [] :: splitC c l else
    match splitC c l with
    | [] => [[b]]
    | p :: ps => (b :: p) :: ps
theorem splitK_splitC (c : UInt8) : ∀ (s : List UInt8), splitK [c] 0 (count s [c]) s = splitC c s
  | [] => by rw [count_miss (by simp [index])]; rfl
  | b :: l => by
    have ih := splitK_splitC c l
    by_cases h : b = c
    · subst h
      have hix : index (b :: l) [b] = 0 := by rw [index]; simp [List.isPrefixOf]
      rw [count_cons_eq, Nat.add_comm, splitK, hix]
      simp [splitC, ih]
    · have hp : ([c] : List UInt8).isPrefixOf (b :: l) = false := by simp [List.isPrefixOf, Ne.symm h]
      have hix : index (b :: l) [c] = if index l [c] == -1 then -1 else index l [c] + 1 := by rw [index, hp]; simp
      rw [count_cons_ne b c l h]
      by_cases hm : index l [c] = -1
      · rw [count_miss hm] at ih ⊢
        rw [splitK] at ih ⊢
        rw [splitC, if_neg h, ← ih]
      · have hge := index_ge l [c]
        obtain ⟨j, hj⟩ : ∃ j : Nat, index l [c] = j := ⟨(index l [c]).toNat, by omega⟩
        have hix' : index (b :: l) [c] = ((j + 1 : Nat) : Int) := by rw [hix, if_neg (fun e => hm (beq_iff_eq.1 e)), hj]; omega
        rw [count_hit (by simp) hj, Nat.add_comm] at ih ⊢
        rw [splitK, hj] at ih
        rw [splitK, hix']
        rw [if_neg (show ¬ ((((j : Nat) : Int) == -1) = true) by simp <;> omega)] at ih
        rw [if_neg (show ¬ ((((j + 1 : Nat) : Int) == -1) = true) by simp <;> omega)]
        rw [splitC, if_neg h, ← ih]
        have e1 : (((j + 1 : Nat) : Int)).toNat = j + 1 := by omega
        have e2 : ((j : Int)).toNat = j := by omega
        rw [e1, e2]
        simp [List.take_succ_cons]
theorem splitC_none (c : UInt8) : ∀ (s : List UInt8), c ∉ s → splitC c s = [s]
  | [], _ => rfl
  | b :: l, h => by
    have h1 : b ≠ c := fun e => h (by simp [e])
    have h2 : c ∉ l := fun e => h (by simp [e])
    rw [splitC, if_neg h1, splitC_none c l h2]
theorem splitC_app (c : UInt8) : ∀ (s r : List UInt8), c ∉ s → splitC c (s ++ c :: r) = s :: splitC c r
  | [], r, _ => by rw [List.nil_append, splitC, if_pos rfl]
  | b :: l, r, h => by
    have h1 : b ≠ c := fun e => h (by simp [e])
    have h2 : c ∉ l := fun e => h (by simp [e])
    rw [List.cons_append, splitC, if_neg h1, splitC_app c l r h2]
/-- A joined row, cut again. -/
theorem splitC_join (c : UInt8) : ∀ (x : List UInt8) (xs : List (List UInt8)), (∀ y ∈ x :: xs, c ∉ y) → splitC c (Lib.join (x :: xs) [c]) = x :: xs
  | x, [], h => by
    rw [Lib.join_one]
    exact splitC_none c x (h x (by simp))
  | x, y :: ys, h => by
    have ih := splitC_join c y ys (fun z hz => h z (by simp at hz ⊢; exact Or.inr hz))
    have : Lib.join (x :: y :: ys) [c] = x ++ c :: Lib.join (y :: ys) [c] := by
      simp [Lib.join_cons, Lib.joinTail]
    rw [this, splitC_app c x _ (h x (by simp)), ih]
theorem splitC_lines (c : UInt8) : ∀ (xs : List (List UInt8)), (∀ y ∈ xs, c ∉ y) → splitC c (xs.flatMap fun x => x ++ [c]) = xs ++ [[]]
  | [], _ => rfl
  | x :: xs, h => by
    have ih := splitC_lines c xs (fun z hz => h z (by simp [hz]))
    rw [List.flatMap_cons, List.append_assoc, List.singleton_append, splitC_app c x _ (h x (by simp)), ih]
    rfl
theorem splitB_splitC (c : UInt8) (s : ByteArray) : (splitB ⟨#[c]⟩ 0 (countB s ⟨#[c]⟩) s).map (·.data.toList) = splitC c s.data.toList := by
  rw [splitB_data]
  exact splitK_splitC c s.data.toList
end Go.Proofs.YtohighedgdlflaaGreatDoor

/- The pieces of a text of lines, and what they say. -/
namespace Go.Proofs.YtohighedgdlflaaGreatDoor
open Go.Shelf Go.RowKit Go.Sort Go.Lib Go.Proofs.YtohighedgdlflaaGreatDoorW.PrintWords Go.Proofs.YtohighedgdlflaaGreatDoor.PR
set_option linter.unusedVariables false
set_option linter.unusedSimpArgs false
def pieces (s : ByteArray) : List ByteArray := Lib.splitB ⟨#[10]⟩ 0 (Lib.countB s ⟨#[10]⟩) s
def cutB (s : ByteArray) : List ByteArray := Lib.splitB ⟨#[32]⟩ 0 (Lib.countB s ⟨#[32]⟩) s
def wordsB (s : ByteArray) : List ByteArray := (cutB s).filter fun x => !emp x
def PieceIs (x : ByteArray) (os : List S35) : Prop :=
  (wordsB x = [] ∧ os = []) ∨ ∃ t cl q p a b : Nat, GoodN t cl q p a b ∧ wordsB x = wordsN t cl q p a b ∧ os = [obN t cl q p a b]
theorem splitC_le (c : UInt8) : ∀ (s : List UInt8) (x : List UInt8), x ∈ splitC c s → x.length ≤ s.length
  | [], x, h => by simp [splitC] at h; simp [h]
  | b :: l, x, h => by
    have ih := splitC_le c l
    rw [splitC] at h
    split at h
    · rcases List.mem_cons.1 h with rfl | h
      · simp
      · have := ih x h; simp; omega
    · split at h
      · rename_i heq
        simp at h; subst h; simp
      · rename_i p ps heq
        rcases List.mem_cons.1 h with rfl | h
        · have := ih p (by rw [heq]; simp); simp; omega
        · have := ih x (by rw [heq]; simp [h]); simp; omega
theorem pieces_le {s x : ByteArray} (h : x ∈ pieces s) : x.size ≤ s.size := by
  have h1 : x.data.toList ∈ splitC 10 s.data.toList := by
    rw [← splitB_splitC]
    exact List.mem_map_of_mem h
  have := splitC_le _ _ _ h1
  rw [Lib.size_eq, Lib.size_eq]
  exact this
theorem pieces_len (s : ByteArray) : (pieces s).length = Lib.countB s ⟨#[10]⟩ + 1 := Lib.splitB_all _ (by decide) 0 _ s rfl
theorem cutB_len (s : ByteArray) : (cutB s).length = Lib.countB s ⟨#[32]⟩ + 1 := Lib.splitB_all _ (by decide) 0 _ s rfl
theorem count_small (s sep : ByteArray) (h1 : 1 ≤ sep.size) : Lib.countB s sep ≤ s.size := Lib.countB_le sep h1 _ s (Nat.le_refl _)
/-- A digit stands first. -/
theorem decS_first (t : Nat) : ∃ h : 0 < (decS t).size, ((((decS t)[0]'h).toNat : Int) != 35) = true := by
  have hz : 0 < (decS t).size := by
    rw [decS_size, ← Lib.decDigits_length]
    rw [Lib.decDigits]; split <;> simp
  refine ⟨hz, ?_⟩
  have key : ∀ (u : Nat) c, (Lib.decDigits u)[0]? = some c → 48 ≤ c.toNat := by
    intro u
    induction u using Nat.strongRecOn with
    | _ u ih =>
      intro c hc
      rw [Lib.decDigits] at hc
      split at hc
      · rename_i h
        simp at hc
        rw [← hc]
        rcases (show u = 0 ∨ u = 1 ∨ u = 2 ∨ u = 3 ∨ u = 4 ∨ u = 5 ∨ u = 6 ∨ u = 7 ∨ u = 8 ∨ u = 9 by omega) with h | h | h | h | h | h | h | h | h | h <;> subst h <;> decide
      · rename_i h
        refine ih (u / 10) (by omega) c ?_
        rw [List.getElem?_append_left] at hc
        · exact hc
        · rw [Lib.decDigits]; split <;> simp
  have h1 : (Lib.decDigits t)[0]? = some ((decS t)[0]'hz) := by
    have hl : 0 < (Lib.decDigits t).length := by rw [Lib.decDigits_length, ← decS_size]; exact hz
    rw [List.getElem?_eq_getElem hl]
    congr 1
  have h2 := key t _ h1
  rw [bne_iff_ne]
  omega
end Go.Proofs.YtohighedgdlflaaGreatDoor

/- Parse's deferred function, where nothing panicked. -/
namespace Go.Proofs.YtohighedgdlflaaGreatDoor
open Go.Shelf Go.RowKit Go.Sort Go.Lib Go.Proofs.YtohighedgdlflaaGreatDoorW.PrintWords Go.Proofs.YtohighedgdlflaaGreatDoor.PR
set_option linter.unusedVariables false
set_option linter.unusedSimpArgs false
set_option maxRecDepth 100000 in
theorem p64_idle (A B : Addr) (w : World) :
    CallsD Tryz.prog 64 #[.pointer (some A), .pointer (some B)] .returning w fun e u' w' => e = .returned (.tuple #[]) ∧ u' = .returning ∧ w' = w := by
  refine callsD_of_wpS Tryz.func64 rfl fun c₀ cs hu => ?_
  apply wpS_seq
  apply wpS_region
  simp [wpOpsS, go_sem, recoverD, hu, Tryz.ntmps64, Exit.thenS]
  apply wpS_seq
  apply wpS_region
  simp [wpOpsS, go_sem, recoverD, hu, Tryz.ntmps64, Exit.thenS]
  refine wpS_cond (t := false) (by simp [Act.eval, Array.replicate]) ?_
  simp only [Bool.false_eq_true, if_false]
  refine wpS_of_wp (wp_skip ?_)
  cases c₀
  simp_all [bodyPostS, results]
end Go.Proofs.YtohighedgdlflaaGreatDoor
