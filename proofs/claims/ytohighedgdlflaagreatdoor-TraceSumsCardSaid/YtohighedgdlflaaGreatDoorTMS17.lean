/- The law TraceSums of package trace answers true, for every cell, every two rows of observations and every place to stop. -/
import Derived.Test.YtohighedgdlflaaGreatDoorTMS14
import Derived.Test.YtohighedgdlflaaGreatDoorTMS15
import Derived.Test.YtohighedgdlflaaGreatDoorTMS7
import Derived.Test.YtohighedgdlflaaGreatDoorTMS12
import Derived.Test.YtohighedgdlflaaGreatDoorTMS16
import Derived.Deep.QuietTactic
import Derived.BigQuiet
import Derived.Lib.QuietBelow
import Derived.Sort.QuietTacIn
import Derived.Laws.EntriesVeiled
/- The law TraceSums answers true, whatever the rows. -/
namespace Go.Proofs.YtohighedgdlflaaGreatDoor
open Go.Proofs.YtohighedgdlflaaGreatDoorW.PrintMore Go.Shelf Go.RowKit Go.Sort Go.Lib Go.Proofs.YtohighedgdlflaaGreatDoorW.PrintWords Go.Proofs.YtohighedgdlflaaGreatDoorW.PrintLast Go.Proofs.YtohighedgdlflaaGreatDoor.PR
set_option linter.unusedVariables false
set_option linter.unusedSimpArgs false
attribute [local go_sem] Oper.semAt_some
attribute [local go_sem] min2_int min_two
set_option maxRecDepth 100000 in
set_option maxHeartbeats 8000000 in
theorem sums_ok (cell : Int) (a b : List S35) (A B : Option Addr) (ca cb : Nat) (early : Int) (m : Int) (w : World) (hW : WTab w) (hT : PTab w) (hm : w.cell? ⟨2, 0, none⟩ = some (.int .i64 m))
    (hA : Kd.C k35 w A a.length a) (hca : a.length ≤ ca) (hcam : ca ≤ 9223372036854775807) (hFa : ∀ o ∈ a, FitsT o)
    (hB : Kd.C k35 w B b.length b) (hcb : b.length ≤ cb) (hcbm : cb ≤ 9223372036854775807) (hFb : ∀ o ∈ b, FitsT o) (he : I64 early) :
    Calls Tryz.prog 6 #[.int .i64 cell, .slice A a.length ca, .slice B b.length cb, .int .i64 early] w fun e w' => e = .returned (.bool true) ∧ Below w.heap.size w w' := by
  obtain ⟨bx, hbx⟩ : ∃ bx : Obj, bx = .cells #[.bool false] 4 := ⟨_, rfl⟩
  have hb0 : Below w.heap.size w (w.alloc bx) := below_alloc (Below.refl _ _) _
  have HT := Lib.hid (hT.below hb0)
  have HW := Lib.hid (hW.below hb0)
  have HM : Hid ((w.alloc bx).cell? ⟨2, 0, none⟩ = some (.int .i64 m)) := pw_cell_below hb0 hm
  have HA := Lib.hid (Kd.C_alloc hA bx)
  have HB := Lib.hid (Kd.C_alloc hB bx)
  have HR0 : Hid (Boxed (w.alloc bx) w.heap.size 4 (.bool false)) := by rw [hbx]; exact Boxed.new w 4 (.bool false)
  have HFa : Hid (∀ o ∈ a.take 400, FitsT o) := fun o ho => hFa o (List.mem_of_mem_take ho)
  have HFb : Hid (∀ o ∈ b.take 400, FitsT o) := fun o ho => hFb o (List.mem_of_mem_take ho)
  have HE := Lib.hid he
  have HBw := Lib.hid hb0
  clear hT hW hm hA hB hFa hFb he hb0
  refine (callsIn_wide (n := 9)).1 ?_
  refine callsIn_of_wp_marks Tryz.func6 rfl trivial ?_ rfl
  simp only [Tryz.ntmps6, List.size_toArray, List.length_cons, List.length_nil, Nat.reduceAdd, Nat.reduceSub, Array.replicate_succ, Array.replicate_zero, List.push_toArray, List.append_toArray, List.nil_append, List.cons_append]
  refine wpIn_wide.2 ?_
  go_wp2_with fail
  rw [← hbx]
  have hsz1 : (w.alloc bx).heap.size = w.heap.size + 1 := by simp
  obtain ⟨w1, hw1⟩ : ∃ w1, w1 = w.alloc bx := ⟨_, rfl⟩
  rw [← hw1] at HT HW HM HA HB HR0 HBw hsz1 ⊢
  clear hw1 hbx bx
  refine (known_ok m w1 HT.out HM.out).mono ?_
  rintro e w2 ⟨rfl, hb2⟩
  have HB2 := Lib.hid hb2
  clear hb2
  go_wp2_with fail
  refine (bound_ok A a.length ca w2 hca hcam).mono ?_
  rintro e w2' ⟨rfl, rfl⟩
  have hC1 := Kd.C_take (Kd.C_below HA.out HB2.out) (m := min 400 a.length) (by omega)
  have htk : a.take (min 400 a.length) = a.take 400 := by
    rw [← List.take_take]; simp
  rw [htk] at hC1
  obtain ⟨a1, ha1⟩ : ∃ a1, a1 = a.take 400 := ⟨_, rfl⟩
  rw [← ha1] at hC1 HFa
  have hlen : min 400 a.length = a1.length := by rw [ha1, List.length_take]
  have hal : a1.length ≤ 400 := by omega
  have hca1 : a1.length ≤ ca := by omega
  rw [hlen]
  have HA1 := Lib.hid hC1
  clear hC1 htk ha1 hlen HA
  go_wp2_with fail
  refine (twin_ok A ca a1 _ HA1.out hca1 (by omega)).mono ?_
  rintro e w3 ⟨v3, rfl, hr3, hb3⟩
  have HB3 := Lib.hid (HB2.out.trans (hb3.mono HB2.out.size))
  obtain ⟨A3, c3, rfl, hc3, _⟩ := Kd.R_reads hr3
  have HA3 := Lib.hid (LRow.of_R hr3)
  clear hr3 hb3 HA1 HB2
  go_wp2_with fail
  refine (bound_ok B b.length cb w3 hcb hcbm).mono ?_
  rintro e w3' ⟨rfl, rfl⟩
  have hC1 := Kd.C_take (Kd.C_below HB.out HB3.out) (m := min 400 b.length) (by omega)
  have htk : b.take (min 400 b.length) = b.take 400 := by
    rw [← List.take_take]; simp
  rw [htk] at hC1
  obtain ⟨b1, hbb1⟩ : ∃ b1, b1 = b.take 400 := ⟨_, rfl⟩
  rw [← hbb1] at hC1 HFb
  have hlen : min 400 b.length = b1.length := by rw [hbb1, List.length_take]
  have hbl : b1.length ≤ 400 := by omega
  have hcb1 : b1.length ≤ cb := by omega
  rw [hlen]
  have HB1 := Lib.hid hC1
  clear hC1 htk hbb1 hlen HB
  go_wp2_with fail
  refine (twin_ok B cb b1 _ HB1.out hcb1 (by omega)).mono ?_
  rintro e w4 ⟨v4, rfl, hr4, hb4⟩
  have HB4 := Lib.hid (HB3.out.trans (hb4.mono HB3.out.size))
  obtain ⟨B4, c4, rfl, hc4, _⟩ := Kd.R_reads hr4
  have HB5 := Lib.hid (LRow.of_R hr4)
  have HA4 := Lib.hid (HA3.out.below hb4 (Nat.le_refl _))
  have HN : Hid (w3'.heap.size ≤ w4.heap.size) := hb4.size
  have HN3 : Hid (w1.heap.size ≤ w3'.heap.size) := HB3.out.size
  clear hr4 hb4 HB1 HB3 HA3
  go_wp2_with fail
  refine (lent_ok A3 c3 a1 _ HA4.out.c hc3 (by omega)).mono ?_
  rintro e w5 ⟨v5, rfl, hr5, hb5⟩
  have hLa := lentL_len a1
  obtain ⟨g, c5, rfl, hg, hc5, hO⟩ := orow_of_R hr5 (by omega)
  have HG := Lib.hid hO
  have hgw := hO.lt
  have HB5' := Lib.hid (HB4.out.trans (hb5.mono HB4.out.size))
  have HA5 := Lib.hid (HA4.out.below hb5 HN.out)
  have HB6 := Lib.hid (HB5.out.below hb5 (Nat.le_refl _))
  have hn45 := hb5.size
  clear hr5 hb5 hO HA4 HB5 HB4
  go_wp2_with fail
  refine (lent_ok B4 c4 b1 _ HB6.out.c hc4 (by omega)).mono ?_
  rintro e w6 ⟨v6, rfl, hr6, hb6⟩
  have hLb := lentL_len b1
  obtain ⟨h, c6', rfl, hh, hc6, hO⟩ := orow_of_R hr6 (by omega)
  have HH := Lib.hid hO
  have hhw := hO.lt
  have HG6 := Lib.hid (HG.out.below hb6)
  have HB6' := Lib.hid (HB5'.out.trans (hb6.mono HB5'.out.size))
  have HA6 := Lib.hid (HA5.out.below hb6 (by have := HN.out; omega))
  have HB7 := Lib.hid (HB6.out.below hb6 hn45)
  have hn56 := hb6.size
  clear hr6 hb6 hO HG HA5 HB6 HB5'
  have hgc : a1.length ≤ c5 := by omega
  have hhc : b1.length ≤ c6' := by omega
  have hgh : g ≠ h := by omega
  rw [hLb]
  go_wp2_with fail
  have HFa' : Hid (∀ o ∈ a1, Fits o) := fun o ho => (HFa.out o ho).1
  refine (digest_ok cell a1 (some ⟨g, 0, none⟩) c5 w6 (HW.out.below HB6'.out) (C_headM HG6.out (by omega)) hgc (by omega) HFa'.out).mono ?_
  rintro e w7 ⟨rfl, hb7⟩
  obtain ⟨d1, hd1⟩ : ∃ d1, d1 = digI cell a1 := ⟨_, rfl⟩
  rw [← hd1]
  have HD1 := Lib.hid hd1
  clear hd1
  have HB8 := Lib.hid (HB6'.out.trans (hb7.mono HB6'.out.size))
  have HG7 := Lib.hid (HG6.out.below hb7)
  have HH7 := Lib.hid (HH.out.below hb7)
  have HA7 := Lib.hid (HA6.out.below hb7 (by have := HN.out; omega))
  have HB9 := Lib.hid (HB7.out.below hb7 (by omega))
  have hn67 := hb7.size
  clear hb7 HB6' HG6 HH HA6 HB7
  go_wp2_with fail
  have HDr : Hid (Below w7.heap.size w7 w7.drew) := below_drew (Below.refl _ _)
  refine wp_region_noPanic ?_
  refine start_ (n := 11) (S := fun w' => True) (ds := []) #[false, false, false, false, false, false, false, false, false, false, false] (by kernel_rfl) rfl rfl trivial (fun hHeld => ?_)
  refine pure_ (i := 0) (N := some 47) (v := ?_) (a' := ?_) #[true, false, false, false, false, false, false, false, false, false, false] rfl rfl (by kernel_rfl) (fun _ _ _ h => h) (Or.inl ⟨by rfl, ?_⟩) ?_ ?_
  rotate_left
  · intro w'
    go_simp
    with_reducible rfl
  rotate_left
  · simp only [Act.put, List.setIfInBounds_toArray, List.set_cons_zero, List.set_cons_succ, i64_w, i32_w]
    rfl
  refine pure_ (i := 1) (N := some 48) (v := ?_) (a' := ?_) #[true, true, false, false, false, false, false, false, false, false, false] rfl rfl (by kernel_rfl) (fun _ _ _ h => h) (Or.inl ⟨by rfl, ?_⟩) ?_ ?_
  rotate_left
  · intro w'
    go_simp
    with_reducible rfl
  rotate_left
  · simp only [Act.put, List.setIfInBounds_toArray, List.set_cons_zero, List.set_cons_succ, i64_w, i32_w]
    rfl
  refine pure_ (i := 2) (N := some 49) (v := ?_) (a' := ?_) #[true, true, true, false, false, false, false, false, false, false, false] rfl rfl (by kernel_rfl) (fun _ _ _ h => h) (Or.inl ⟨by rfl, ?_⟩) ?_ ?_
  rotate_left
  · intro w'
    go_simp
    with_reducible rfl
  rotate_left
  · simp only [Act.put, List.setIfInBounds_toArray, List.set_cons_zero, List.set_cons_succ, i64_w, i32_w]
    rfl
  refine pure_ (i := 3) (N := some 50) (v := ?_) (a' := ?_) #[true, true, true, true, false, false, false, false, false, false, false] rfl rfl (by kernel_rfl) (fun _ _ _ h => h) (Or.inl ⟨by rfl, ?_⟩) ?_ ?_
  rotate_left
  · intro w'
    go_simp
    with_reducible rfl
  rotate_left
  · simp only [Act.put, List.setIfInBounds_toArray, List.set_cons_zero, List.set_cons_succ, i64_w, i32_w]
    rfl
  refine pure_ (i := 4) (N := some 51) (v := ?_) (a' := ?_) #[true, true, true, true, true, false, false, false, false, false, false] rfl rfl (by kernel_rfl) (fun _ _ _ h => h) (Or.inl ⟨by rfl, ?_⟩) ?_ ?_
  rotate_left
  · intro w'
    go_simp
    with_reducible rfl
  rotate_left
  · simp only [Act.put, List.setIfInBounds_toArray, List.set_cons_zero, List.set_cons_succ, i64_w, i32_w]
    rfl
  refine pure_ (i := 5) (N := some 52) (v := ?_) (a' := ?_) #[true, true, true, true, true, true, false, false, false, false, false] rfl rfl (by kernel_rfl) (fun _ _ _ h => h) (Or.inl ⟨by rfl, ?_⟩) ?_ ?_
  rotate_left
  · intro w'
    go_simp
    with_reducible rfl
  rotate_left
  · simp only [Act.put, List.setIfInBounds_toArray, List.set_cons_zero, List.set_cons_succ, i64_w, i32_w]
    rfl
  refine pure_ (i := 6) (N := some 53) (v := ?_) (a' := ?_) #[true, true, true, true, true, true, true, false, false, false, false] rfl rfl (by kernel_rfl) (fun _ _ _ h => h) (Or.inl ⟨by rfl, ?_⟩) ?_ ?_
  rotate_left
  · intro w'
    go_simp
    with_reducible rfl
  rotate_left
  · simp only [Act.put, List.setIfInBounds_toArray, List.set_cons_zero, List.set_cons_succ, i64_w, i32_w]
    rfl
  refine pure_ (i := 7) (N := some 54) (v := ?_) (a' := ?_) #[true, true, true, true, true, true, true, true, false, false, false] rfl rfl (by kernel_rfl) (fun _ _ _ h => h) (Or.inl ⟨by rfl, ?_⟩) ?_ ?_
  rotate_left
  · intro w'
    go_simp
    with_reducible rfl
  rotate_left
  · simp only [Act.put, List.setIfInBounds_toArray, List.set_cons_zero, List.set_cons_succ, i64_w, i32_w]
    rfl
  refine pure_ (i := 8) (N := some 55) (v := ?_) (a' := ?_) #[true, true, true, true, true, true, true, true, true, false, false] rfl rfl (by kernel_rfl) (fun _ _ _ h => h) (Or.inl ⟨by rfl, ?_⟩) ?_ ?_
  rotate_left
  · intro w'
    go_simp
    with_reducible rfl
  rotate_left
  · simp only [Act.put, List.setIfInBounds_toArray, List.set_cons_zero, List.set_cons_succ, i64_w, i32_w]
    rfl
  refine one_ (i := 9) (N := some 56) #[true, true, true, true, true, true, true, true, true, true, false] rfl rfl (by kernel_rfl) (by decide) (fun K hK => ?_)
  refine goes_ Tryz.func23 (by kernel_rfl) rfl #[.int .i64 cell, .slice (some ⟨g, 0, none⟩) a1.length c5, .slice (some ⟨h, 0, none⟩) b1.length c6'] (by rfl) rfl rfl (by simp only [List.map_toArray, List.map_cons, List.map_nil]; rfl) ?_
  with_reducible refine (part_ok cell a1 b1 _ _ c5 c6' _ (C_headM (HG7.out.below HDr.out) (by omega)) hgc (by omega) (C_headM (HH7.out.below HDr.out) (by omega)) hhc (by omega)).mono ?_
  rintro e w8 ⟨rfl, hb8⟩
  refine ⟨_, rfl, ?_⟩
  refine hK.out _ _ trivial (fun hHeld => ?_)
  clear hK K
  refine norm_ (a' := ?_) ?_ ?_
  rotate_left
  · show Act.put _ (some 56) _ = _
    simp only [Act.put, List.setIfInBounds_toArray, List.set_cons_zero, List.set_cons_succ, i64_w, i32_w]
    rfl
  refine pure_ (i := 10) (N := some 13) (v := ?_) (a' := ?_) #[true, true, true, true, true, true, true, true, true, true, true] rfl rfl (by kernel_rfl) (fun _ _ _ h => h) (Or.inl ⟨by rfl, ?_⟩) ?_ ?_
  rotate_left
  · intro w'
    go_simp
    with_reducible rfl
  rotate_left
  · simp only [Act.put, List.setIfInBounds_toArray, List.set_cons_zero, List.set_cons_succ, i64_w, i32_w]
    rfl
  refine done_ (by kernel_rfl) ?_
  refine NoPanic.normal ?_
  obtain ⟨p1, hp1⟩ : ∃ p1, p1 = partI (ofL cell a1) (ofL cell b1) := ⟨_, rfl⟩
  rw [← hp1]
  have HP1 := Lib.hid hp1
  clear hp1
  go_wp2_with fail
  replace hb8 : Below w7.heap.size w7 w8 := HDr.out.trans hb8
  have HB10 := Lib.hid (HB8.out.trans (hb8.mono HB8.out.size))
  have HG8 := Lib.hid (HG7.out.below hb8)
  have HH8 := Lib.hid (HH7.out.below hb8)
  have HA8 := Lib.hid (HA7.out.below hb8 (by have := HN.out; omega))
  have HB11 := Lib.hid (HB9.out.below hb8 (by omega))
  have hn78 := hb8.size
  clear hb8 HB8 HG7 HH7 HA7 HB9 HDr
  refine (of_seq cell a1 (some ⟨g, 0, none⟩) c5 w8 (C_headM HG8.out (by omega)) hgc (by omega)).mono ?_
  rintro e w9 ⟨rfl, hs9, hb9⟩
  have HB12 := Lib.hid (HB10.out.trans (hb9.mono HB10.out.size))
  have HG9 := Lib.hid (HG8.out.below hb9)
  have HH9 := Lib.hid (HH8.out.below hb9)
  have HA9 := Lib.hid (HA8.out.below hb9 (by have := HN.out; omega))
  have HB13 := Lib.hid (HB11.out.below hb9 (by omega))
  have hg8 := HG8.out.lt
  have hh8 := HH8.out.lt
  have hn89 := hb9.size
  obtain ⟨s, hs⟩ : ∃ s, s = w8.heap.size := ⟨_, rfl⟩
  rw [← hs] at hs9 hg8 hh8 ⊢
  have Hs := Lib.hid hs
  clear hs
  unfold seqV
  go_wp2_with fail
  obtain ⟨w10, hw10⟩ : ∃ w10, w10 = w9.alloc (.cells #[.func (.func 62) #[] #[.pointer (some ⟨s + 1, 0, none⟩), .pointer (some ⟨s, 0, none⟩)]] 53) := ⟨_, rfl⟩
  have b14 : Boxed w10 w9.heap.size 53 (seqV s) := by rw [hw10]; exact Boxed.new _ _ _
  have hb10 : Below w9.heap.size w9 w10 := by rw [hw10]; exact below_alloc (Below.refl _ _) _
  obtain ⟨j, hj⟩ : ∃ j, j = w9.heap.size := ⟨_, rfl⟩
  obtain ⟨hi, hhi⟩ : ∃ hi, hi = w9.heap.size := ⟨_, rfl⟩
  obtain ⟨nA, hnA⟩ : ∃ nA, nA = w3'.heap.size := ⟨_, rfl⟩
  obtain ⟨nB, hnB⟩ : ∃ nB, nB = w4.heap.size := ⟨_, rfl⟩
  rw [← hw10]
  have HP : Hid (SumP w1 g h s hi j nA nB a1 b1) := by
    have h1 := HN3.out
    have h2 := HN.out
    have h3 := Hs.out
    exact ⟨by omega, by omega, by omega, by omega, by omega, by omega, by omega⟩
  have HS : Hid (SumSt w1 w10 g h s hi j nA nB A3 B4 (lentL a1) (lentL b1) a1 b1 cell) := by
    have hb := hb10
    refine ⟨HB12.out.trans (hb10.mono HB12.out.size), HG9.out.below hb, HH9.out.below hb, ?_, ?_, ?_, ?_⟩
    · rw [hnA]; exact HA9.out.below hb (by have := HN.out; omega)
    · rw [hnB]; exact HB13.out.below hb (by omega)
    · rw [hhi]; exact hs9.below hb
    · rw [hj]; exact b14
  rw [← hj]
  clear hw10 b14 hb10 hj hhi hnA hnB hb9 hs9 HB10 HG8 HH8 HA8 HB11 HG9 HH9 HA9 HB13 HB12 Hs HN HN3 hn45 hn56 hn67 hn78 hn89 hg8 hh8 hgw hhw hg hh
  have hk := kept_ok (some ⟨g, 0, none⟩) A3 c5 c3 a1 w10 (HS.out.x.C (by omega)) hc5 HS.out.a.c hc3 (by omega)
  rw [hLa] at hk
  refine hk.mono ?_
  clear hk
  rintro e w11 ⟨rfl, hb11⟩
  have HS11 := Lib.hid (HS.out.below hb11)
  clear hb11 HS
  go_wp2_with fail
  have hk := kept_ok (some ⟨h, 0, none⟩) B4 c6' c4 b1 w11 (HS11.out.y.C (by omega)) hc6 HS11.out.b.c hc4 (by omega)
  rw [hLb] at hk
  refine hk.mono ?_
  clear hk
  rintro e w12 ⟨rfl, hb12⟩
  have HS12 := Lib.hid (HS11.out.below hb12)
  have cj := HS12.out.j.cell
  unfold seqV at cj
  have kn := fun W : World => run_eql_func W (.func 62) #[] #[.pointer (some ⟨s + 1, 0, none⟩), .pointer (some ⟨s, 0, none⟩)]
  clear hb12 HS11
  go_wp2_with fail
  refine (twin_ok A3 c3 a1 _ HS12.out.a.c hc3 (by omega)).mono ?_
  rintro e w13 ⟨v13, rfl, hr13, hb13⟩
  obtain ⟨A13, c13, rfl, hc13, hC13⟩ := Kd.R_reads hr13
  have HS13 := Lib.hid (HS12.out.below hb13)
  have HC13 := Lib.hid hC13
  clear hr13 hb13 hC13 HS12 cj
  go_wp2_with fail
  refine (refDigest_ok cell a1 A13 c13 w13 HC13.out hc13 HFa.out (by omega)).mono ?_
  rw [← HD1.out]
  rintro e w14 ⟨rfl, hb14⟩
  have HS14 := Lib.hid (HS13.out.below hb14)
  clear hb14 HC13 HS13
  go_wp2_with fail
  refine (twin_ok A3 c3 a1 _ HS14.out.a.c hc3 (by omega)).mono ?_
  rintro e w15 ⟨v15, rfl, hr15, hb15⟩
  obtain ⟨A15, c15, rfl, hc15, _⟩ := Kd.R_reads hr15
  have HS15 := Lib.hid (HS14.out.below hb15)
  have HC15 := Lib.hid (LRow.of_R hr15)
  clear hr15 hb15 HS14
  go_wp2_with fail
  refine (twin_ok B4 c4 b1 _ HS15.out.b.c hc4 (by omega)).mono ?_
  rintro e w16 ⟨v16, rfl, hr16, hb16⟩
  obtain ⟨B16, c16, rfl, hc16, hC16⟩ := Kd.R_reads hr16
  have HS16 := Lib.hid (HS15.out.below hb16)
  have HC16 := Lib.hid (HC15.out.below hb16 (Nat.le_refl _))
  have HD16 := Lib.hid hC16
  clear hr16 hb16 HS15 hC16 HC15
  go_wp2_with fail
  refine (refPart_ok cell a1 b1 A15 B16 c15 c16 w16 HC16.out.c hc15 (by omega) HD16.out hc16 (by omega)).mono ?_
  rw [← HP1.out]
  rintro e w17 ⟨rfl, hb17⟩
  have HS17 := Lib.hid (HS16.out.below hb17)
  clear hb17 HS16 HC16 HD16
  go_wp2_with fail
  go_loopw [17] (fun v17 wr => ∃ k : Nat, k ≤ a1.length ∧ v17 = .int .i64 k ∧ Hid (SumSt w1 wr g h s hi j nA nB A3 B4 (rowM modC a1 k) (lentL b1) a1 b1 cell)) (fun i _ => a1.length - (RowKit.intOf i).toNat)
  case atStart => exact ⟨0, by omega, rfl, by rw [rowM_0]; exact HS17⟩
  case round =>
    clear HS17
    obtain ⟨k, hk, rfl, HSk⟩ := hrel
    by_cases hlt : k < a1.length
    · have hgb := HP.out
      have hgx := HSk.out.x
      obtain ⟨x, hx⟩ : ∃ x, x = a1[k] := ⟨_, rfl⟩
      have hget := rowM_get modC a1 k hlt
      rw [← hx] at hget
      obtain ⟨c4_, z4⟩ := hgx.cell hget (j := 4) rfl
      have hO1 := hgx.set (y := modC1 x) (v := .int .u32 ((x.f4.tdiv 2) % 4294967296)) hget (show 4 < 6 by omega) (fun k => by match k with
        | 0 => rfl
        | 1 => rfl
        | 2 => rfl
        | 3 => rfl
        | 4 => rfl
        | 5 => rfl
        | k + 6 => rfl)
      have hget2 : ((rowM modC a1 k).set k (modC1 x))[k]? = some (modC1 x) := by
        rw [List.getElem?_set, if_pos rfl, if_pos (by rw [rowM_len]; omega)]
      obtain ⟨d1_, y1⟩ := hO1.cell hget2 (j := 1) rfl
      have hO2 := hO1.set (y := modC x) (v := .int .i64 (wrap64 (x.f1.tmod 3 + 1))) hget2 (show 1 < 6 by omega) (fun k => by match k with
        | 0 => rfl
        | 1 => rfl
        | 2 => rfl
        | 3 => rfl
        | 4 => rfl
        | 5 => rfl
        | k + 6 => rfl)
      rw [hx, rowM_set modC a1 k hlt, ← hx] at hO2
      have hw1g : w1.heap.size ≤ g := by have := hgb.n1; have := hgb.ag; omega
      have hB2 : Below w1.heap.size w1 ((wr.setCell ⟨g, k * 6 + 4, none⟩ (.int .u32 ((x.f4.tdiv 2) % 4294967296))).setCell ⟨g, k * 6 + 1, none⟩ (.int .i64 (wrap64 (x.f1.tmod 3 + 1)))) := (HSk.out.hb.setCell hw1g _).setCell hw1g _
      have hoff : Off g g wr ((wr.setCell ⟨g, k * 6 + 4, none⟩ (.int .u32 ((x.f4.tdiv 2) % 4294967296))).setCell ⟨g, k * 6 + 1, none⟩ (.int .i64 (wrap64 (x.f1.tmod 3 + 1)))) := ((Off.refl g g wr).set _ _ (.inl rfl)).set _ _ (.inl rfl)
      have HS2 := Lib.hid (SumSt.offX HP.out HSk.out hoff hB2 hO2)
      clear hO1 hO2 hB2 hget hget2 hx hoff HSk hgx hgb
      simp only [Nat.add_zero, modC1] at d1_ y1
      go_wp2_with fail
      go_roundw
      case rel => exact ⟨k + 1, by omega, by go_num, HS2⟩
      case measure => simp [RowKit.intOf]; omega
    · obtain rfl : k = a1.length := by omega
      have HSn : Hid (SumSt w1 wr g h s hi j nA nB A3 B4 (a1.map modC ++ List.replicate 8 mark0) (lentL b1) a1 b1 cell) := by
        show SumSt w1 wr g h s hi j nA nB A3 B4 (a1.map modC ++ List.replicate 8 mark0) (lentL b1) a1 b1 cell
        rw [← rowM_n]; exact HSk.out
      clear HSk hlt hk
      go_wp2_with fail
      go_loopw [18] (fun v18 wt => ∃ k : Nat, k ≤ b1.length ∧ v18 = .int .i64 k ∧ Hid (SumSt w1 wt g h s hi j nA nB A3 B4 (a1.map modC ++ List.replicate 8 mark0) (rowM modP b1 k) a1 b1 cell)) (fun i _ => b1.length - (RowKit.intOf i).toNat)
      case atStart => exact ⟨0, by omega, rfl, by rw [rowM_0]; exact HSn⟩
      case round =>
        clear HSn
        obtain ⟨k, hk, rfl, HSk⟩ := hrel
        by_cases hlt : k < b1.length
        · have hgb := HP.out
          have hgx := HSk.out.y
          obtain ⟨x, hx⟩ : ∃ x, x = b1[k] := ⟨_, rfl⟩
          have hget := rowM_get modP b1 k hlt
          rw [← hx] at hget
          obtain ⟨c3_, z3⟩ := hgx.cell hget (j := 3) rfl
          have hO1 := hgx.set (y := modP x) (v := .int .u32 ((x.f3 + 1) % 4294967296)) hget (show 3 < 6 by omega) (fun k => by match k with
            | 0 => rfl
            | 1 => rfl
            | 2 => rfl
            | 3 => rfl
            | 4 => rfl
            | 5 => rfl
            | k + 6 => rfl)
          rw [← List.set_set (modP x), hx, rowM_set modP b1 k hlt, ← hx] at hO1
          have hw1g : w1.heap.size ≤ h := by have := hgb.n1; have := hgb.ag; have := hgb.gh; omega
          have hB2 : Below w1.heap.size w1 (wr.setCell ⟨h, k * 6 + 3, none⟩ (.int .u32 ((x.f3 + 1) % 4294967296))) := HSk.out.hb.setCell hw1g _
          have hoff : Off h h wr (wr.setCell ⟨h, k * 6 + 3, none⟩ (.int .u32 ((x.f3 + 1) % 4294967296))) := (Off.refl h h wr).set _ _ (.inl rfl)
          have HS2 := Lib.hid (SumSt.offY HP.out HSk.out hoff hB2 hO1)
          clear hO1 hB2 hget hx hoff HSk hgx hgb
          go_wp2_with fail
          go_roundw
          case rel => exact ⟨k + 1, by omega, by go_num, HS2⟩
          case measure => simp [RowKit.intOf]; omega
        · obtain rfl : k = b1.length := by omega
          obtain ⟨a2, ha2⟩ : ∃ a2, a2 = a1.map modC := ⟨_, rfl⟩
          obtain ⟨b2, hb2⟩ : ∃ b2, b2 = b1.map modP := ⟨_, rfl⟩
          have HS20 : Hid (SumSt w1 wr g h s hi j nA nB A3 B4 (a2 ++ List.replicate 8 mark0) (b2 ++ List.replicate 8 mark0) a1 b1 cell) := by
            show SumSt w1 wr g h s hi j nA nB A3 B4 (a2 ++ List.replicate 8 mark0) (b2 ++ List.replicate 8 mark0) a1 b1 cell
            rw [ha2, hb2, ← rowM_n modP]; exact HSk.out
          have hna : a2.length = a1.length := by rw [ha2, List.length_map]
          have hnb : b2.length = b1.length := by rw [hb2, List.length_map]
          have HFa2 : Hid (∀ o ∈ a2, FitsT o) := by
            intro o ho
            rw [ha2] at ho
            obtain ⟨o', ho', rfl⟩ := List.mem_map.1 ho
            exact modC_fits (HFa.out o' ho')
          have HFb2 : Hid (∀ o ∈ b2, FitsT o) := by
            intro o ho
            rw [hb2] at ho
            obtain ⟨o', ho', rfl⟩ := List.mem_map.1 ho
            exact modP_fits (HFb.out o' ho')
          have HNa := Lib.hid hna
          have HNb := Lib.hid hnb
          clear HSk hlt hk ha2 hb2 hna hnb
          go_wp2_with fail
          refine (digest_n cell a2 a1.length HNa.out (some ⟨g, 0, none⟩) c5 wr (HW.out.below HS20.out.hb) (C_headM HS20.out.x (by have := HNa.out; omega)) hgc (by omega) HFa2.out).mono ?_
          obtain ⟨d2, hd2⟩ : ∃ d2, d2 = digI cell a2 := ⟨_, rfl⟩
          rw [← hd2]
          have HD2 := Lib.hid hd2
          clear hd2
          rintro e w21 ⟨rfl, hb21⟩
          have HS21 := Lib.hid (HS20.out.below hb21)
          clear hb21 HS20
          go_wp2_with fail
          have HSd := Lib.hid (HS21.out.below (below_drew (Below.refl w21.heap.size w21)))
          clear HS21
          obtain ⟨p2, hp2⟩ : ∃ p2, p2 = partI (ofL cell a2) (ofL cell b2) := ⟨_, rfl⟩
          have hpart := fun W (h1 : SumSt w1 W g h s hi j nA nB A3 B4 (a2 ++ List.replicate 8 mark0) (b2 ++ List.replicate 8 mark0) a1 b1 cell) => part_n cell a2 b2 a1.length b1.length HNa.out HNb.out (some ⟨g, 0, none⟩) (some ⟨h, 0, none⟩) c5 c6' W (C_headM h1.x (by have := HNa.out; omega)) hgc (by omega) (C_headM h1.y (by have := HNb.out; omega)) hhc (by omega)
          rw [← hp2] at hpart
          have HP2 := Lib.hid hp2
          have HPart := Lib.hid hpart
          clear hp2 hpart
          refine wp_region_noPanic ?_
          refine start_ (n := 11) (S := fun w' => True) (ds := []) #[false, false, false, false, false, false, false, false, false, false, false] (by kernel_rfl) rfl rfl trivial (fun hHeld => ?_)
          refine pure_ (i := 0) (N := some 150) (v := ?_) (a' := ?_) #[true, false, false, false, false, false, false, false, false, false, false] rfl rfl (by kernel_rfl) (fun _ _ _ h => h) (Or.inl ⟨by rfl, ?_⟩) ?_ ?_
          rotate_left
          · intro w'
            go_simp
            with_reducible rfl
          rotate_left
          · simp only [Act.put, List.setIfInBounds_toArray, List.set_cons_zero, List.set_cons_succ, i64_w, i32_w]
            rfl
          refine pure_ (i := 1) (N := some 151) (v := ?_) (a' := ?_) #[true, true, false, false, false, false, false, false, false, false, false] rfl rfl (by kernel_rfl) (fun _ _ _ h => h) (Or.inl ⟨by rfl, ?_⟩) ?_ ?_
          rotate_left
          · intro w'
            go_simp
            with_reducible rfl
          rotate_left
          · simp only [Act.put, List.setIfInBounds_toArray, List.set_cons_zero, List.set_cons_succ, i64_w, i32_w]
            rfl
          refine pure_ (i := 2) (N := some 152) (v := ?_) (a' := ?_) #[true, true, true, false, false, false, false, false, false, false, false] rfl rfl (by kernel_rfl) (fun _ _ _ h => h) (Or.inl ⟨by rfl, ?_⟩) ?_ ?_
          rotate_left
          · intro w'
            go_simp
            with_reducible rfl
          rotate_left
          · simp only [Act.put, List.setIfInBounds_toArray, List.set_cons_zero, List.set_cons_succ, i64_w, i32_w]
            rfl
          refine pure_ (i := 3) (N := some 153) (v := ?_) (a' := ?_) #[true, true, true, true, false, false, false, false, false, false, false] rfl rfl (by kernel_rfl) (fun _ _ _ h => h) (Or.inl ⟨by rfl, ?_⟩) ?_ ?_
          rotate_left
          · intro w'
            go_simp
            with_reducible rfl
          rotate_left
          · simp only [Act.put, List.setIfInBounds_toArray, List.set_cons_zero, List.set_cons_succ, i64_w, i32_w]
            rfl
          refine pure_ (i := 4) (N := some 154) (v := ?_) (a' := ?_) #[true, true, true, true, true, false, false, false, false, false, false] rfl rfl (by kernel_rfl) (fun _ _ _ h => h) (Or.inl ⟨by rfl, ?_⟩) ?_ ?_
          rotate_left
          · intro w'
            go_simp
            with_reducible rfl
          rotate_left
          · simp only [Act.put, List.setIfInBounds_toArray, List.set_cons_zero, List.set_cons_succ, i64_w, i32_w]
            rfl
          refine pure_ (i := 5) (N := some 155) (v := ?_) (a' := ?_) #[true, true, true, true, true, true, false, false, false, false, false] rfl rfl (by kernel_rfl) (fun _ _ _ h => h) (Or.inl ⟨by rfl, ?_⟩) ?_ ?_
          rotate_left
          · intro w'
            go_simp
            with_reducible rfl
          rotate_left
          · simp only [Act.put, List.setIfInBounds_toArray, List.set_cons_zero, List.set_cons_succ, i64_w, i32_w]
            rfl
          refine pure_ (i := 6) (N := some 156) (v := ?_) (a' := ?_) #[true, true, true, true, true, true, true, false, false, false, false] rfl rfl (by kernel_rfl) (fun _ _ _ h => h) (Or.inl ⟨by rfl, ?_⟩) ?_ ?_
          rotate_left
          · intro w'
            go_simp
            with_reducible rfl
          rotate_left
          · simp only [Act.put, List.setIfInBounds_toArray, List.set_cons_zero, List.set_cons_succ, i64_w, i32_w]
            rfl
          refine pure_ (i := 7) (N := some 157) (v := ?_) (a' := ?_) #[true, true, true, true, true, true, true, true, false, false, false] rfl rfl (by kernel_rfl) (fun _ _ _ h => h) (Or.inl ⟨by rfl, ?_⟩) ?_ ?_
          rotate_left
          · intro w'
            go_simp
            with_reducible rfl
          rotate_left
          · simp only [Act.put, List.setIfInBounds_toArray, List.set_cons_zero, List.set_cons_succ, i64_w, i32_w]
            rfl
          refine pure_ (i := 8) (N := some 158) (v := ?_) (a' := ?_) #[true, true, true, true, true, true, true, true, true, false, false] rfl rfl (by kernel_rfl) (fun _ _ _ h => h) (Or.inl ⟨by rfl, ?_⟩) ?_ ?_
          rotate_left
          · intro w'
            go_simp
            with_reducible rfl
          rotate_left
          · simp only [Act.put, List.setIfInBounds_toArray, List.set_cons_zero, List.set_cons_succ, i64_w, i32_w]
            rfl
          refine one_ (i := 9) (N := some 159) #[true, true, true, true, true, true, true, true, true, true, false] rfl rfl (by kernel_rfl) (by decide) (fun K hK => ?_)
          refine goes_ Tryz.func23 (by kernel_rfl) rfl #[.int .i64 cell, .slice (some ⟨g, 0, none⟩) a1.length c5, .slice (some ⟨h, 0, none⟩) b1.length c6'] (by rfl) rfl rfl (by simp only [List.map_toArray, List.map_cons, List.map_nil]; rfl) ?_
          with_reducible refine (HPart.out _ HSd.out).mono ?_
          rintro e w22 ⟨rfl, hb22⟩
          refine ⟨_, rfl, ?_⟩
          refine hK.out _ _ trivial (fun hHeld => ?_)
          clear hK K
          refine norm_ (a' := ?_) ?_ ?_
          rotate_left
          · show Act.put _ (some 159) _ = _
            simp only [Act.put, List.setIfInBounds_toArray, List.set_cons_zero, List.set_cons_succ, i64_w, i32_w]
            rfl
          refine pure_ (i := 10) (N := some 13) (v := ?_) (a' := ?_) #[true, true, true, true, true, true, true, true, true, true, true] rfl rfl (by kernel_rfl) (fun _ _ _ h => h) (Or.inl ⟨by rfl, ?_⟩) ?_ ?_
          rotate_left
          · intro w'
            go_simp
            with_reducible rfl
          rotate_left
          · simp only [Act.put, List.setIfInBounds_toArray, List.set_cons_zero, List.set_cons_succ, i64_w, i32_w]
            rfl
          refine done_ (by kernel_rfl) ?_
          refine NoPanic.normal ?_
          have HS22 := Lib.hid (HSd.out.below hb22)
          clear hb22 HSd HPart
          go_wp2_with fail
          have HSd := Lib.hid (HS22.out.below (below_drew (Below.refl w22.heap.size w22)))
          clear HS22
          refine wp_region_noPanic ?_
          refine start_ (n := 25) (S := fun w' => True) (ds := []) #[false, false, false, false, false, false, false, false, false, false, false, false, false, false, false, false, false, false, false, false, false, false, false, false, false] (by kernel_rfl) rfl rfl trivial (fun hHeld => ?_)
          refine pure_ (i := 0) (N := some 160) (v := ?_) (a' := ?_) #[true, false, false, false, false, false, false, false, false, false, false, false, false, false, false, false, false, false, false, false, false, false, false, false, false] rfl rfl (by kernel_rfl) (fun _ _ _ h => h) (Or.inl ⟨by rfl, ?_⟩) ?_ ?_
          rotate_left
          · intro w'
            go_simp
            with_reducible rfl
          rotate_left
          · simp only [Act.put, List.setIfInBounds_toArray, List.set_cons_zero, List.set_cons_succ, i64_w, i32_w]
            rfl
          refine pure_ (i := 1) (N := some 161) (v := ?_) (a' := ?_) #[true, true, false, false, false, false, false, false, false, false, false, false, false, false, false, false, false, false, false, false, false, false, false, false, false] rfl rfl (by kernel_rfl) (fun _ _ _ h => h) (Or.inl ⟨by rfl, ?_⟩) ?_ ?_
          rotate_left
          · intro w'
            go_simp
            with_reducible rfl
          rotate_left
          · simp only [Act.put, List.setIfInBounds_toArray, List.set_cons_zero, List.set_cons_succ, i64_w, i32_w]
            rfl
          refine pure_ (i := 2) (N := some 162) (v := ?_) (a' := ?_) #[true, true, true, false, false, false, false, false, false, false, false, false, false, false, false, false, false, false, false, false, false, false, false, false, false] rfl rfl (by kernel_rfl) (fun _ _ _ h => h) (Or.inl ⟨by rfl, ?_⟩) ?_ ?_
          rotate_left
          · intro w'
            go_simp
            with_reducible rfl
          rotate_left
          · simp only [Act.put, List.setIfInBounds_toArray, List.set_cons_zero, List.set_cons_succ, i64_w, i32_w]
            rfl
          refine pure_ (i := 3) (N := some 163) (v := ?_) (a' := ?_) #[true, true, true, true, false, false, false, false, false, false, false, false, false, false, false, false, false, false, false, false, false, false, false, false, false] rfl rfl (by kernel_rfl) (fun _ _ _ h => h) (Or.inl ⟨by rfl, ?_⟩) ?_ ?_
          rotate_left
          · intro w'
            go_simp
            with_reducible rfl
          rotate_left
          · simp only [Act.put, List.setIfInBounds_toArray, List.set_cons_zero, List.set_cons_succ, i64_w, i32_w]
            rfl
          refine pure_ (i := 4) (N := some 164) (v := ?_) (a' := ?_) #[true, true, true, true, true, false, false, false, false, false, false, false, false, false, false, false, false, false, false, false, false, false, false, false, false] rfl rfl (by kernel_rfl) (fun _ _ _ h => h) (Or.inl ⟨by rfl, ?_⟩) ?_ ?_
          rotate_left
          · intro w'
            go_simp
            with_reducible rfl
          rotate_left
          · simp only [Act.put, List.setIfInBounds_toArray, List.set_cons_zero, List.set_cons_succ, i64_w, i32_w]
            rfl
          refine pure_ (i := 5) (N := some 165) (v := ?_) (a' := ?_) #[true, true, true, true, true, true, false, false, false, false, false, false, false, false, false, false, false, false, false, false, false, false, false, false, false] rfl rfl (by kernel_rfl) (fun _ _ _ h => h) (Or.inl ⟨by rfl, ?_⟩) ?_ ?_
          rotate_left
          · intro w'
            go_simp
            with_reducible rfl
          rotate_left
          · simp only [Act.put, List.setIfInBounds_toArray, List.set_cons_zero, List.set_cons_succ, i64_w, i32_w]
            rfl
          refine one_ (i := 6) (N := some 166) #[true, true, true, true, true, true, true, false, false, false, false, false, false, false, false, false, false, false, false, false, false, false, false, false, false] rfl rfl (by kernel_rfl) (by decide) (fun K hK => ?_)
          refine goes_ Tryz.func10 (by kernel_rfl) rfl #[.slice (some ⟨g, 0, none⟩) a1.length c5] (by rfl) rfl rfl (by simp only [List.map_toArray, List.map_cons, List.map_nil]; rfl) ?_
          with_reducible refine (twin_n (some ⟨g, 0, none⟩) c5 a2 a1.length HNa.out _ (C_headM HSd.out.x (by have := HNa.out; omega)) hgc (by omega)).mono ?_
          rintro e w23 ⟨A23, c23, rfl, hc23, hL23, hb23⟩
          refine ⟨_, rfl, ?_⟩
          have HS23 := Lib.hid (HSd.out.below hb23)
          have HL23 := Lib.hid hL23
          clear hb23 hL23 HSd
          refine hK.out _ _ trivial (fun hHeld => ?_)
          clear hK K
          refine norm_ (a' := ?_) ?_ ?_
          rotate_left
          · show Act.put _ (some 166) _ = _
            simp only [Act.put, List.setIfInBounds_toArray, List.set_cons_zero, List.set_cons_succ, i64_w, i32_w]
            rfl
          refine one_ (i := 7) (N := some 167) #[true, true, true, true, true, true, true, true, false, false, false, false, false, false, false, false, false, false, false, false, false, false, false, false, false] rfl rfl (by kernel_rfl) (by decide) (fun K hK => ?_)
          refine goes_ Tryz.func25 (by kernel_rfl) rfl #[.int .i64 cell, .slice A23 a1.length c23] (by rfl) rfl rfl (by simp only [List.map_toArray, List.map_cons, List.map_nil]; rfl) ?_
          with_reducible refine (refDigest_n cell a2 a1.length HNa.out A23 c23 _ HL23.out hc23 HFa2.out (by omega)).mono ?_
          rintro e w24 ⟨rfl, hb24⟩
          refine ⟨_, rfl, ?_⟩
          rw [← HD2.out]
          have HS24 := Lib.hid (HS23.out.below hb24)
          clear hb24 HS23 HL23
          refine hK.out _ _ trivial (fun hHeld => ?_)
          clear hK K
          refine norm_ (a' := ?_) ?_ ?_
          rotate_left
          · show Act.put _ (some 167) _ = _
            simp only [Act.put, List.setIfInBounds_toArray, List.set_cons_zero, List.set_cons_succ, i64_w, i32_w]
            rfl
          refine pure_ (i := 8) (N := some 168) (v := ?_) (a' := ?_) #[true, true, true, true, true, true, true, true, true, false, false, false, false, false, false, false, false, false, false, false, false, false, false, false, false] rfl rfl (by kernel_rfl) (fun _ _ _ h => h) (Or.inl ⟨by rfl, ?_⟩) ?_ ?_
          rotate_left
          · intro w'
            go_simp
            with_reducible rfl
          rotate_left
          · simp only [Act.put, List.setIfInBounds_toArray, List.set_cons_zero, List.set_cons_succ, i64_w, i32_w]
            rfl
          refine pure_ (i := 9) (N := some 169) (v := ?_) (a' := ?_) #[true, true, true, true, true, true, true, true, true, true, false, false, false, false, false, false, false, false, false, false, false, false, false, false, false] rfl rfl (by kernel_rfl) (fun _ _ _ h => h) (Or.inl ⟨by rfl, ?_⟩) ?_ ?_
          rotate_left
          · intro w'
            go_simp
            with_reducible rfl
          rotate_left
          · simp only [Act.put, List.setIfInBounds_toArray, List.set_cons_zero, List.set_cons_succ, i64_w, i32_w]
            rfl
          refine pure_ (i := 10) (N := some 170) (v := ?_) (a' := ?_) #[true, true, true, true, true, true, true, true, true, true, true, false, false, false, false, false, false, false, false, false, false, false, false, false, false] rfl rfl (by kernel_rfl) (fun _ _ _ h => h) (Or.inl ⟨by rfl, ?_⟩) ?_ ?_
          rotate_left
          · intro w'
            go_simp
            with_reducible rfl
          rotate_left
          · simp only [Act.put, List.setIfInBounds_toArray, List.set_cons_zero, List.set_cons_succ, i64_w, i32_w]
            rfl
          refine pure_ (i := 11) (N := some 171) (v := ?_) (a' := ?_) #[true, true, true, true, true, true, true, true, true, true, true, true, false, false, false, false, false, false, false, false, false, false, false, false, false] rfl rfl (by kernel_rfl) (fun _ _ _ h => h) (Or.inl ⟨by rfl, ?_⟩) ?_ ?_
          rotate_left
          · intro w'
            go_simp
            with_reducible rfl
          rotate_left
          · simp only [Act.put, List.setIfInBounds_toArray, List.set_cons_zero, List.set_cons_succ, i64_w, i32_w]
            rfl
          refine pure_ (i := 12) (N := some 172) (v := ?_) (a' := ?_) #[true, true, true, true, true, true, true, true, true, true, true, true, true, false, false, false, false, false, false, false, false, false, false, false, false] rfl rfl (by kernel_rfl) (fun _ _ _ h => h) (Or.inl ⟨by rfl, ?_⟩) ?_ ?_
          rotate_left
          · intro w'
            go_simp
            with_reducible rfl
          rotate_left
          · simp only [Act.put, List.setIfInBounds_toArray, List.set_cons_zero, List.set_cons_succ, i64_w, i32_w]
            rfl
          refine pure_ (i := 13) (N := some 173) (v := ?_) (a' := ?_) #[true, true, true, true, true, true, true, true, true, true, true, true, true, true, false, false, false, false, false, false, false, false, false, false, false] rfl rfl (by kernel_rfl) (fun _ _ _ h => h) (Or.inl ⟨by rfl, ?_⟩) ?_ ?_
          rotate_left
          · intro w'
            go_simp
            with_reducible rfl
          rotate_left
          · simp only [Act.put, List.setIfInBounds_toArray, List.set_cons_zero, List.set_cons_succ, i64_w, i32_w]
            rfl
          refine pure_ (i := 14) (N := some 174) (v := ?_) (a' := ?_) #[true, true, true, true, true, true, true, true, true, true, true, true, true, true, true, false, false, false, false, false, false, false, false, false, false] rfl rfl (by kernel_rfl) (fun _ _ _ h => h) (Or.inl ⟨by rfl, ?_⟩) ?_ ?_
          rotate_left
          · intro w'
            go_simp
            with_reducible rfl
          rotate_left
          · simp only [Act.put, List.setIfInBounds_toArray, List.set_cons_zero, List.set_cons_succ, i64_w, i32_w]
            rfl
          refine pure_ (i := 15) (N := some 175) (v := ?_) (a' := ?_) #[true, true, true, true, true, true, true, true, true, true, true, true, true, true, true, true, false, false, false, false, false, false, false, false, false] rfl rfl (by kernel_rfl) (fun _ _ _ h => h) (Or.inl ⟨by rfl, ?_⟩) ?_ ?_
          rotate_left
          · intro w'
            go_simp
            with_reducible rfl
          rotate_left
          · simp only [Act.put, List.setIfInBounds_toArray, List.set_cons_zero, List.set_cons_succ, i64_w, i32_w]
            rfl
          refine pure_ (i := 17) (N := some 177) (v := ?_) (a' := ?_) #[true, true, true, true, true, true, true, true, true, true, true, true, true, true, true, true, false, true, false, false, false, false, false, false, false] rfl rfl (by kernel_rfl) (fun _ _ _ h => h) (Or.inl ⟨by rfl, ?_⟩) ?_ ?_
          rotate_left
          · intro w'
            go_simp
            with_reducible rfl
          rotate_left
          · simp only [Act.put, List.setIfInBounds_toArray, List.set_cons_zero, List.set_cons_succ, i64_w, i32_w]
            rfl
          refine pure_ (i := 18) (N := some 178) (v := ?_) (a' := ?_) #[true, true, true, true, true, true, true, true, true, true, true, true, true, true, true, true, false, true, true, false, false, false, false, false, false] rfl rfl (by kernel_rfl) (fun _ _ _ h => h) (Or.inl ⟨by rfl, ?_⟩) ?_ ?_
          rotate_left
          · intro w'
            go_simp
            with_reducible rfl
          rotate_left
          · simp only [Act.put, List.setIfInBounds_toArray, List.set_cons_zero, List.set_cons_succ, i64_w, i32_w]
            rfl
          refine pure_ (i := 19) (N := some 179) (v := ?_) (a' := ?_) #[true, true, true, true, true, true, true, true, true, true, true, true, true, true, true, true, false, true, true, true, false, false, false, false, false] rfl rfl (by kernel_rfl) (fun _ _ _ h => h) (Or.inl ⟨by rfl, ?_⟩) ?_ ?_
          rotate_left
          · intro w'
            go_simp
            with_reducible rfl
          rotate_left
          · simp only [Act.put, List.setIfInBounds_toArray, List.set_cons_zero, List.set_cons_succ, i64_w, i32_w]
            rfl
          refine pure_ (i := 20) (N := some 180) (v := ?_) (a' := ?_) #[true, true, true, true, true, true, true, true, true, true, true, true, true, true, true, true, false, true, true, true, true, false, false, false, false] rfl rfl (by kernel_rfl) (fun _ _ _ h => h) (Or.inl ⟨by rfl, ?_⟩) ?_ ?_
          rotate_left
          · intro w'
            go_simp
            with_reducible rfl
          rotate_left
          · simp only [Act.put, List.setIfInBounds_toArray, List.set_cons_zero, List.set_cons_succ, i64_w, i32_w]
            rfl
          refine one_ (i := 16) (N := some 176) #[true, true, true, true, true, true, true, true, true, true, true, true, true, true, true, true, true, true, true, true, true, false, false, false, false] rfl rfl (by kernel_rfl) (by decide) (fun K hK => ?_)
          refine goes_ Tryz.func10 (by kernel_rfl) rfl #[.slice (some ⟨g, 0, none⟩) a1.length c5] (by rfl) rfl rfl (by simp only [List.map_toArray, List.map_cons, List.map_nil]; rfl) ?_
          with_reducible refine (twin_n (some ⟨g, 0, none⟩) c5 a2 a1.length HNa.out _ (C_headM HS24.out.x (by have := HNa.out; omega)) hgc (by omega)).mono ?_
          rintro e w25 ⟨A25, c25, rfl, hc25, hL25, hb25⟩
          refine ⟨_, rfl, ?_⟩
          have HS25 := Lib.hid (HS24.out.below hb25)
          have HL25 := Lib.hid hL25
          clear hb25 hL25 HS24
          refine hK.out _ _ trivial (fun hHeld => ?_)
          clear hK K
          refine norm_ (a' := ?_) ?_ ?_
          rotate_left
          · show Act.put _ (some 176) _ = _
            simp only [Act.put, List.setIfInBounds_toArray, List.set_cons_zero, List.set_cons_succ, i64_w, i32_w]
            rfl
          refine one_ (i := 21) (N := some 181) #[true, true, true, true, true, true, true, true, true, true, true, true, true, true, true, true, true, true, true, true, true, true, false, false, false] rfl rfl (by kernel_rfl) (by decide) (fun K hK => ?_)
          refine goes_ Tryz.func10 (by kernel_rfl) rfl #[.slice (some ⟨h, 0, none⟩) b1.length c6'] (by rfl) rfl rfl (by simp only [List.map_toArray, List.map_cons, List.map_nil]; rfl) ?_
          with_reducible refine (twin_n (some ⟨h, 0, none⟩) c6' b2 b1.length HNb.out _ (C_headM HS25.out.y (by have := HNb.out; omega)) hhc (by omega)).mono ?_
          rintro e w26 ⟨A26, c26, rfl, hc26, hL26, hb26⟩
          refine ⟨_, rfl, ?_⟩
          have HS26 := Lib.hid (HS25.out.below hb26)
          have HL26 := Lib.hid hL26
          replace HL25 := Lib.hid (HL25.out.below hb26 (Nat.le_refl _))
          clear hb26 hL26 HS25
          refine hK.out _ _ trivial (fun hHeld => ?_)
          clear hK K
          refine norm_ (a' := ?_) ?_ ?_
          rotate_left
          · show Act.put _ (some 181) _ = _
            simp only [Act.put, List.setIfInBounds_toArray, List.set_cons_zero, List.set_cons_succ, i64_w, i32_w]
            rfl
          refine one_ (i := 22) (N := some 182) #[true, true, true, true, true, true, true, true, true, true, true, true, true, true, true, true, true, true, true, true, true, true, true, false, false] rfl rfl (by kernel_rfl) (by decide) (fun K hK => ?_)
          refine goes_ Tryz.func26 (by kernel_rfl) rfl #[.int .i64 cell, .slice A25 a1.length c25, .slice A26 b1.length c26] (by rfl) rfl rfl (by simp only [List.map_toArray, List.map_cons, List.map_nil]; rfl) ?_
          with_reducible refine (refPart_n cell a2 b2 a1.length b1.length HNa.out HNb.out A25 A26 c25 c26 _ HL25.out.c hc25 (by omega) HL26.out.c hc26 (by omega)).mono ?_
          rintro e w27 ⟨rfl, hb27⟩
          refine ⟨_, rfl, ?_⟩
          rw [← HP2.out]
          have HS27 := Lib.hid (HS26.out.below hb27)
          clear hb27 HS26 HL25 HL26
          refine hK.out _ _ trivial (fun hHeld => ?_)
          clear hK K
          refine norm_ (a' := ?_) ?_ ?_
          rotate_left
          · show Act.put _ (some 182) _ = _
            simp only [Act.put, List.setIfInBounds_toArray, List.set_cons_zero, List.set_cons_succ, i64_w, i32_w]
            rfl
          refine pure_ (i := 23) (N := some 183) (v := ?_) (a' := ?_) #[true, true, true, true, true, true, true, true, true, true, true, true, true, true, true, true, true, true, true, true, true, true, true, true, false] rfl rfl (by kernel_rfl) (fun _ _ _ h => h) (Or.inl ⟨by rfl, ?_⟩) ?_ ?_
          rotate_left
          · intro w'
            go_simp
            with_reducible rfl
          rotate_left
          · simp only [Act.put, List.setIfInBounds_toArray, List.set_cons_zero, List.set_cons_succ, i64_w, i32_w]
            rfl
          refine pure_ (i := 24) (N := some 184) (v := ?_) (a' := ?_) #[true, true, true, true, true, true, true, true, true, true, true, true, true, true, true, true, true, true, true, true, true, true, true, true, true] rfl rfl (by kernel_rfl) (fun _ _ _ h => h) (Or.inl ⟨by rfl, ?_⟩) ?_ ?_
          rotate_left
          · intro w'
            go_simp
            with_reducible rfl
          rotate_left
          · simp only [Act.put, List.setIfInBounds_toArray, List.set_cons_zero, List.set_cons_succ, i64_w, i32_w]
            rfl
          refine done_ (by kernel_rfl) ?_
          refine NoPanic.normal ?_
          go_wp2_with fail
          refine (of_n cell a2 a1.length HNa.out (some ⟨g, 0, none⟩) c5 w27 (C_headM HS27.out.x (by have := HNa.out; omega)) hgc (by omega)).mono ?_
          rintro e w28 ⟨rfl, hs28, hb28⟩
          obtain ⟨s2, hs2⟩ : ∃ s2, s2 = w27.heap.size := ⟨_, rfl⟩
          obtain ⟨hi2, hhi2⟩ : ∃ hi2, hi2 = w28.heap.size := ⟨_, rfl⟩
          rw [← hs2] at hs28 ⊢
          rw [← hhi2] at hs28
          have HS28 := Lib.hid (HS27.out.below hb28)
          have HQ28 := Lib.hid hs28
          clear hs28 hb28 HS27 hs2 hhi2
          unfold seqV
          go_wp2_with fail
          refine (twin_n (some ⟨g, 0, none⟩) c5 a2 a1.length HNa.out w28 (C_headM HS28.out.x (by have := HNa.out; omega)) hgc (by omega)).mono ?_
          rintro e w29 ⟨A29, c29, rfl, hc29, hL29, hb29⟩
          have HS29 := Lib.hid (HS28.out.below hb29)
          have HQ29 := Lib.hid (HQ28.out.below hb29)
          have HL29 := Lib.hid hL29
          clear hL29 hb29 HS28 HQ28
          go_wp2_with fail
          refine (refOf_n cell a2 a1.length HNa.out A29 c29 w29 HL29.out.c hc29 (by omega)).mono ?_
          rintro e w30 ⟨A30, c30, rfl, hc30, hL30, hb30⟩
          obtain ⟨ot, hot⟩ : ∃ ot, ot = ofL cell a2 := ⟨_, rfl⟩
          have hotl : ot.length ≤ 400 := by rw [hot]; have := ofL_le cell a2; have := HNa.out; omega
          rw [← hot] at hc30 hL30 ⊢
          have Hot := Lib.hid hot
          have HS30 := Lib.hid (HS29.out.below hb30)
          have HQ30 := Lib.hid (HQ29.out.below hb30)
          have HL30 := Lib.hid hL30
          have kn2 := fun W : World => run_eql_func W (.func 62) #[] #[.pointer (some ⟨s2 + 1, 0, none⟩), .pointer (some ⟨s2, 0, none⟩)]
          clear hL30 hb30 HS29 HQ29 HL29 hot
          go_wp2_with fail
          obtain ⟨W0, hW0⟩ : ∃ W0, W0 = (w30.alloc (.cells #[.slice A30 ot.length c30] 22)).alloc (.cells #[.int .i64 0] 3) := ⟨_, rfl⟩
          obtain ⟨e0, he0⟩ : ∃ e0, e0 = w30.heap.size := ⟨_, rfl⟩
          have bO : Boxed W0 e0 22 (.slice A30 ot.length c30) := by rw [hW0, he0]; exact (Boxed.new _ _ _).alloc _
          have bK : Boxed W0 (e0 + 1) 3 (.int .i64 0) := by
            have := Boxed.new (w30.alloc (.cells #[.slice A30 ot.length c30] 22)) 3 (.int .i64 0)
            rw [World.size_alloc, ← he0] at this
            rw [hW0]; exact this
          have hbW : Below w30.heap.size w30 W0 := by rw [hW0]; exact below_alloc (below_alloc (Below.refl _ _) _) _
          rw [← hW0, ← he0]
          have HS0 := Lib.hid (HS30.out.below hbW)
          have HQ0 := Lib.hid (HQ30.out.below hbW)
          have HL0 : Hid (LRow W0 e0 A30 ot) := by rw [he0]; exact HL30.out.below hbW (Nat.le_refl _)
          have HbO := Lib.hid bO
          have heW : e0 + 1 < W0.heap.size := bK.lt
          have hje : j < e0 := by rw [he0]; exact HS30.out.j.lt
          have hw1e : w1.heap.size ≤ e0 := by rw [he0]; exact HS30.out.hb.size
          have hhe : hi2 ≤ e0 := by rw [he0]; exact HQ30.out.le
          clear hW0 he0 bO hbW HS30 HQ30 HL30
          refine (wpIn_wide (n := 9)).1 ?_
          refine wpIn_range6 (p := 201) (q := 22) (by omega) HQ0.out (by have := HNa.out; omega) (by rfl)
            (fun pre W => (Boxed W (e0 + 1) 3 (.int .i64 (pre.length : Nat)) ∧ pre <+: ot) ∧ (Off (e0 + 1) (e0 + 1) W0 W ∧ Below w1.heap.size w1 W))
            (fun _ pre _ => ¬ pre <+: ot)
            (OwnFrom.and (OwnFrom.and (Own.from (boxed_own (e0 + 1) 3 (fun pre : List S35 => .int .i64 (pre.length : Nat))) _) (ownFrom_pure _ _)) (OwnFrom.and (ownFrom_off _ _ _ (Nat.le_refl _)) (ownFrom_below (Nat.le_refl _) HS0.out.hb.size)))
            (fun _ _ _ _ _ hs _ _ => hs)
            ⟨⟨bK, List.nil_prefix⟩, Off.refl _ _ _, HS0.out.hb⟩
            (fun pre W h => h.2.1.1)
            ?assign ?body ?done ?stop
          case assign =>
            intro y x W K hK
            unfold actR obj6 ob6 at hK
            unfold ob6
            simp only [List.setIfInBounds_toArray, List.set_cons_zero, List.set_cons_succ] at hK ⊢
            gi_wp2
            exact hK
          case body =>
            rintro y pre x Bx W hy hr ⟨⟨bk, hpre⟩, hoff, hbw⟩ hBx bX hlt
            unfold actR ob6
            simp only [List.setIfInBounds_toArray, List.set_cons_zero, List.set_cons_succ]
            have bO2 := boxed_off HbO.out hoff (by omega) (by omega)
            have ck := bk.cell
            have fk := bk.frozen
            have co := bO2.cell
            obtain ⟨z0, z1, z2, z3, z4, z5⟩ := bX.cells
            have bR := boxed_below HR0.out hbw
            have cR := bR.cell
            have fR := bR.frozen
            by_cases hk : pre.length < ot.length
            · have hge : decide ((pre.length : Int) ≥ (ot.length : Int)) = false := decide_eq_false (by omega)
              obtain ⟨o0, ho0⟩ : ∃ o0, ot[pre.length]? = some o0 := ⟨_, List.getElem?_eq_getElem hk⟩
              obtain ⟨ad, hAd, y0, y1, y2, y3, y4, y5⟩ := (HL0.out.off hoff (Nat.le_succ _) (Nat.le_succ _)).six ho0
              have Ho0 := Lib.hid ho0
              have Hpre := Lib.hid hpre
              have Hoff := Lib.hid hoff
              have Hbk := Lib.hid bk
              have Hbw := Lib.hid hbw
              have hWs := hoff.1
              subst hAd
              clear ho0 hpre hoff bk hbw bX bO2 bR hr
              by_cases hs : same6 x o0
              · have kq := fun (d : Nat) (w : World) => eq35_run (p := x) (q := o0) true (by simp only [true_iff]; exact hs) d w
                have Hx : Hid (pre ++ [x] <+: ot) := by
                  obtain rfl := same6_iff.1 hs
                  exact prefix_next Hpre.out Ho0.out
                clear hs
                gi_wp2
                refine wpIn_region_quietR (by kernel_rfl) (by kernel_rfl) (by kernel_rfl) ?_
                repeat (refine wpQuietIn_step (fun _ _ _ _ => trivial) (fun K hK => ?_); go_simp; refine hK _ ?_; clear hK K)
                refine wpQuietIn_nil ?_
                intro _ hw'
                obtain ⟨nq, hw''⟩ := hw'
                subst hw''
                gi_wp2
                obtain ⟨q1, q2, q3, q4, q5⟩ := loop_step (lo := s2) (hi := hi2) (.int .i64 ((pre.length : Int) + 1)) nq W0.heap.size Hbk.out Hoff.out Hbw.out (by omega) (.inr (by omega)) (by omega)
                refine ⟨q1, q2, ⟨?_, Hx.out⟩, q4, q5⟩
                rw [List.length_append, List.length_singleton, Int.natCast_add]
                exact q3
              · have kq := fun (d : Nat) (w : World) => eq35_run (p := x) (q := o0) false ⟨fun h => (by cases h), fun h => absurd h hs⟩ d w
                have Hx : Hid (¬ pre ++ [x] <+: ot) := by
                  intro h
                  have h2 := prefix_last h
                  rw [Ho0.out] at h2
                  exact hs (same6_iff.2 (Option.some.inj h2).symm)
                clear hs
                gi_wp2
                refine wpIn_region_quietR (by kernel_rfl) (by kernel_rfl) (by kernel_rfl) ?_
                repeat (refine wpQuietIn_step (fun _ _ _ _ => trivial) (fun K hK => ?_); go_simp; refine hK _ ?_; clear hK K)
                refine wpQuietIn_nil ?_
                intro _ hw'
                obtain ⟨nq, hw''⟩ := hw'
                subst hw''
                gi_wp2
                exact ⟨loop_ret _ _ _ _, Hx.out⟩
            · have hge : decide ((pre.length : Int) ≥ (ot.length : Int)) = true := decide_eq_true (by omega)
              have hge2 : decide ((ot.length : Int) ≤ (pre.length : Int)) = true := decide_eq_true (by omega)
              have hge3 : decide (ot.length ≤ pre.length) = true := decide_eq_true (by omega)
              have Hx : Hid (¬ pre ++ [x] <+: ot) := by
                intro h
                have := h.length_le
                rw [List.length_append, List.length_singleton] at this
                omega
              clear hpre hoff bk hbw bX bO2 bR hr hk
              gi_wp2
              refine wpIn_region_quietR (by kernel_rfl) (by kernel_rfl) (by kernel_rfl) ?_
              repeat (refine wpQuietIn_step (fun _ _ _ _ => trivial) (fun K hK => ?_); go_simp; refine hK _ ?_; clear hK K)
              refine wpQuietIn_nil ?_
              intro _ hw'
              obtain ⟨nq, hw''⟩ := hw'
              subst hw''
              gi_wp2
              exact ⟨loop_ret _ _ _ _, Hx.out⟩
          case done =>
            intro D W hD hI hK
            rw [← Hot.out] at hI
            obtain ⟨⟨bk, hpre⟩, hoff, hbw⟩ := hI
            have bO2 := boxed_off HbO.out hoff (by omega) (by omega)
            have ck := bk.cell
            have co := bO2.cell
            have HS41 := Lib.hid (SumSt.offB HP.out HS0.out hoff hbw (by omega))
            have HK := Lib.hid hK
            have HBw41 := Lib.hid hbw
            have hWs := hoff.1
            go_wp2_with fail
            clear hK bO2 hoff hbw bk ck co hpre
            go_loopw [23] (fun v23 wr => ∃ (k : Nat) (zs : List S35), k ≤ a1.length + 8 ∧ v23 = .int .i64 k ∧ Hid (zs.length = a1.length + 8) ∧ Hid (SumSt w1 wr g h s hi j nA nB A3 B4 zs (b2 ++ List.replicate 8 mark0) a1 b1 cell) ∧ Hid (Off g g W wr)) (fun i _ => a1.length + 8 - (RowKit.intOf i).toNat)
            case atStart => exact ⟨0, _, by omega, rfl, by have := HNa.out; simp [Hid]; omega, HS41, Off.refl _ _ _⟩
            case round =>
              clear HS41
              obtain ⟨k, zs, hk, rfl, Hzl, HSk, HOk⟩ := hrel
              by_cases hlt : k < a1.length + 8
              · have hltI : (k : Int) < (a1.length : Int) + 8 := by omega
                go_wp2_with fail
                refine (mark_ok 5 (-14) (by unfold wrap64; omega) wr).mono ?_
                rintro e wm ⟨rfl, hbm⟩
                have HSm := Lib.hid (HSk.out.below hbm)
                have HOm := Lib.hid (HOk.out.trans (Off.of_below hbm))
                obtain ⟨x, hx⟩ : ∃ x, zs[k]? = some x := ⟨_, List.getElem?_eq_getElem (by have := Hzl.out; omega)⟩
                obtain ⟨u0, f0⟩ := HSm.out.x.cell hx (j := 0) rfl
                obtain ⟨u1, f1⟩ := HSm.out.x.cell hx (j := 1) rfl
                obtain ⟨u2, f2⟩ := HSm.out.x.cell hx (j := 2) rfl
                obtain ⟨u3, f3⟩ := HSm.out.x.cell hx (j := 3) rfl
                obtain ⟨u4, f4⟩ := HSm.out.x.cell hx (j := 4) rfl
                obtain ⟨u5, f5⟩ := HSm.out.x.cell hx (j := 5) rfl
                obtain ⟨y1, y2, y3, y4, y5⟩ := chain6 u1 u2 u3 u4 u5 (.int .u64 77) (.int .i64 0) (.int .i64 (-14)) (.int .u32 0) (.int .u32 0)
                obtain ⟨x1, x2, x3, x4, x5⟩ := chainf6 f1 f2 f3 f4 f5 (.int .u64 77) (.int .i64 0) (.int .i64 (-14)) (.int .u32 0) (.int .u32 0)
                simp only [Nat.add_zero] at u0 f0
                have hw1g : w1.heap.size ≤ g := by have := HP.out.n1; have := HP.out.ag; omega
                have HS6 := Lib.hid (SumSt.offX HP.out HSm.out ((Off.refl g g wm).six (k * 6) (.int .u64 77) (.int .i64 0) (.int .i64 (-14)) (.int .u32 0) (.int .u32 0) (.int .u32 0)) (set6_below' HSm.out.hb hw1g) (HSm.out.x.set6 (by have := Hzl.out; omega) ⟨77, 0, -14, 0, 0, 0⟩))
                have HO6 := Lib.hid (HOm.out.six (k * 6) (.int .u64 77) (.int .i64 0) (.int .i64 (-14)) (.int .u32 0) (.int .u32 0) (.int .u32 0))
                clear HSm HOm HSk HOk hbm hx u1 u2 u3 u4 u5 f1 f2 f3 f4 f5
                go_wp2_with fail
                go_roundw
                case rel => exact ⟨k + 1, zs.set k ⟨77, 0, -14, 0, 0, 0⟩, by omega, by go_num, (show (zs.set k _).length = _ by rw [List.length_set]; exact Hzl.out), HS6, HO6⟩
                case measure => simp [RowKit.intOf]; omega
              · obtain rfl : k = a1.length + 8 := by omega
                have HD0 : Hid (wr.heap[D]? = some (.deferred (some []))) := by
                  have h1 := heap_lt HK.out
                  show wr.heap[D]? = some (.deferred (some []))
                  have h2 := HP.out.gh
                  have h3 := HP.out.hs
                  have h4 := HP.out.hj
                  have h5 := HSk.out.lt
                  rw [HOk.out.2 D h1 (by omega) (by omega)]
                  exact HK.out
                clear hlt hk
                go_wp2_with fail
                refine (twin_n A3 c3 a1 a1.length rfl wr HSk.out.a.c hc3 (by omega)).mono ?_
                rintro e w42 ⟨A42, c42, rfl, hc42, hL42, hb42⟩
                have HS42 := Lib.hid (HSk.out.below hb42)
                have HD42 : Hid (w42.heap[D]? = some (.deferred (some []))) := (hb42.block D (heap_lt HD0.out)).trans HD0.out
                have HL42 := Lib.hid hL42
                clear hL42 hb42 HSk HOk HD0 HK HBw41 hWs
                go_wp2_with fail
                refine (refOf_n cell a1 a1.length rfl A42 c42 w42 HL42.out.c hc42 (by omega)).mono ?_
                rintro e w43 ⟨A43, c43, rfl, hc43, hL43, hb43⟩
                obtain ⟨wt, hwt⟩ : ∃ wt, wt = ofL cell a1 := ⟨_, rfl⟩
                have hwtl : wt.length ≤ 400 := by rw [hwt]; have := ofL_le cell a1; omega
                rw [← hwt] at hc43 hL43 ⊢
                have Hwt := Lib.hid hwt
                have HS43 := Lib.hid (HS42.out.below hb43)
                have HD43 : Hid (w43.heap[D]? = some (.deferred (some []))) := (hb43.block D (heap_lt HD42.out)).trans HD42.out
                have HL43 := Lib.hid hL43
                clear hL43 hb43 HS42 HL42 HD42 hwt
                obtain ⟨most, hmost, hpk0⟩ := pick_okw early (wt.length + 2) HE.out (by omega)
                have hpk : ∀ w, Calls Tryz.prog 29 #[.int .i64 early, .int .i64 ((wt.length : Int) + 2)] w fun e w' => e = .returned (.int .i64 most) ∧ Drawn0 w w' := fun w => by
                  have := hpk0 w
                  rwa [show ((wt.length + 2 : Nat) : Int) = (wt.length : Int) + 2 by omega] at this
                have Hpk := Lib.hid hpk
                clear hpk hpk0
                go_wp2_with fail
                refine (Hpk.out _).mono ?_
                rintro e w44 ⟨rfl, ⟨nd, rfl⟩⟩
                obtain ⟨V0, hV0⟩ : ∃ V0, V0 = (((w43.alloc (.cells #[.slice A43 wt.length c43] 22)).drewN nd).alloc (.cells #[.int .i64 (most : Nat)] 3)).alloc (.cells #[.int .i64 0] 3) := ⟨_, rfl⟩
                obtain ⟨e4, he4⟩ : ∃ e4, e4 = w43.heap.size := ⟨_, rfl⟩
                have hbd := pw_below_drewN (Below.refl (w43.alloc (.cells #[.slice A43 wt.length c43] 22)).heap.size (w43.alloc (.cells #[.slice A43 wt.length c43] 22))) nd
                have hsd : ((w43.alloc (.cells #[.slice A43 wt.length c43] 22)).drewN nd).heap.size = e4 + 1 := by rw [he4]; simp
                have bW : Boxed V0 e4 22 (.slice A43 wt.length c43) := by
                  rw [hV0, he4]; exact ((boxed_below (Boxed.new _ _ _) hbd).alloc _).alloc _
                have bM : Boxed V0 (e4 + 1) 3 (.int .i64 (most : Nat)) := by
                  have := (Boxed.new ((w43.alloc (.cells #[.slice A43 wt.length c43] 22)).drewN nd) 3 (.int .i64 (most : Nat))).alloc (.cells #[.int .i64 0] 3)
                  rw [hsd] at this
                  rw [hV0]; exact this
                have bN : Boxed V0 (e4 + 1 + 1) 3 (.int .i64 0) := by
                  have := Boxed.new (((w43.alloc (.cells #[.slice A43 wt.length c43] 22)).drewN nd).alloc (.cells #[.int .i64 (most : Nat)] 3)) 3 (.int .i64 0)
                  rw [World.size_alloc, hsd] at this
                  rw [hV0]; exact this
                have hbV : Below w43.heap.size w43 V0 := by rw [hV0]; exact below_alloc (below_alloc (pw_below_drewN (below_alloc (Below.refl _ _) _) _) _) _
                have HSV := Lib.hid (HS43.out.below hbV)
                have HDV : Hid (V0.heap[D]? = some (.deferred (some []))) := (hbV.block D (heap_lt HD43.out)).trans HD43.out
                have HLV : Hid (LRow V0 e4 A43 wt) := by rw [he4]; exact HL43.out.below hbV (Nat.le_refl _)
                have hDe : D < e4 := by rw [he4]; exact heap_lt HD43.out
                have hjV : j < e4 := by rw [he4]; exact HS43.out.j.lt
                have hw14 : w1.heap.size ≤ e4 := by rw [he4]; exact HS43.out.hb.size
                have hhi4 : hi ≤ e4 := by have := HP.out.hj; omega
                have heV : e4 + 1 + 1 < V0.heap.size := bN.lt
                have HbW := Lib.hid bW
                have HbM := Lib.hid bM
                have HbN := Lib.hid bN
                have cj := HSV.out.j.cell
                unfold seqV at cj
                rw [hV0] at cj
                have HV0 := Lib.hid hV0
                have He4 := Lib.hid he4
                clear bW bM bN hbV hbd hsd hV0 he4 HS43 HD43 HL43
                go_wp2_with fail
                rw [← HV0.out, ← He4.out]
                clear cj HV0 He4
                refine (wpIn_wide (n := 9)).1 ?_
                refine wpIn_range6B (p := 240) (q := 27) (by omega) HSV.out.q (by omega) (by rfl)
                  (fun pre W => (Boxed W (e4 + 1 + 1) 3 (.int .i64 (pre.length : Nat)) ∧ (pre <+: wt ∧ pre.length ≤ most)) ∧ (Off (e4 + 1 + 1) (e4 + 1 + 1) V0 W ∧ Below w1.heap.size w1 W))
                  (fun c pre W => (c = .exit 8 ∧ pre.length = most + 1 ∧ Boxed W (e4 + 1 + 1) 3 (.int .i64 (most : Nat)) ∧ Off (e4 + 1 + 1) (e4 + 1 + 1) V0 W ∧ Below w1.heap.size w1 W) ∨ ¬ pre <+: wt)
                  (OwnFrom.and (OwnFrom.and (Own.from (boxed_own (e4 + 1 + 1) 3 (fun pre : List S35 => .int .i64 (pre.length : Nat))) _) (ownFrom_pure _ _)) (OwnFrom.and (ownFrom_off _ _ _ (Nat.le_refl _)) (ownFrom_below (Nat.le_refl _) HSV.out.hb.size)))
                  (fun c s X Y row hs hg hr => by
                    rcases hs with ⟨h1, h2, h3, h4, h5⟩ | h1
                    · exact .inl ⟨h1, h2, boxed_own (e4 + 1 + 1) 3 (fun _ : Unit => .int .i64 (most : Nat)) () X Y row h3 hg (fun r e => (hr r e).2), ownFrom_off _ _ _ (Nat.le_refl _) () X Y row h4 hg hr, ownFrom_below (Nat.le_refl _) HSV.out.hb.size () X Y row h5 hg hr⟩
                    · exact .inr h1)
                  ⟨⟨HbN.out, List.nil_prefix, Nat.zero_le _⟩, Off.refl _ _ _, HSV.out.hb⟩
                  (fun pre W h => h.2.1.1)
                  (fun W => Boxed W (e4 + 1 + 1) 3 (.int .i64 (min most wt.length : Nat)) ∧ Off (e4 + 1 + 1) (e4 + 1 + 1) V0 W ∧ Below w1.heap.size w1 W)
                  (fun W h => by
                    rw [← Hwt.out] at h
                    obtain ⟨⟨h1, h2, h3⟩, h4, h5⟩ := h
                    rw [Nat.min_eq_right h3]
                    exact ⟨h1, h4, h5⟩)
                  (fun c pre W hp h => by
                    rw [← Hwt.out] at hp
                    rcases h with ⟨h1, h2, h3, h4, h5⟩ | h1
                    · have := hp.length_le
                      rw [Nat.min_eq_left (by omega)]
                      exact ⟨h1, h3, h4, h5⟩
                    · exact absurd hp h1)
                  ?assign2 ?body2 ?rest2
                case assign2 =>
                  intro y x W K hK
                  unfold actR obj6 ob6 at hK
                  unfold ob6
                  simp only [List.setIfInBounds_toArray, List.set_cons_zero, List.set_cons_succ] at hK ⊢
                  gi_wp2
                  exact hK
                case body2 =>
                  rintro y pre x Bx W hy ⟨r0, hr0⟩ ⟨⟨bk, hpre, hlm⟩, hoff, hbw⟩ hBx bX hlt
                  unfold actR ob6
                  simp only [List.setIfInBounds_toArray, List.set_cons_zero, List.set_cons_succ]
                  have bW2 := boxed_off HbW.out hoff (by omega) (by omega)
                  have bM2 := boxed_off HbM.out hoff (by omega) (by omega)
                  have ck := bk.cell
                  have fk := bk.frozen
                  have cw := bW2.cell
                  have cm := bM2.cell
                  have hWs := hoff.1
                  obtain ⟨z0, z1, z2, z3, z4, z5⟩ := bX.cells
                  have bR := boxed_below HR0.out hbw
                  have cR := bR.cell
                  have fR := bR.frozen
                  by_cases hm : pre.length = most
                  · have hme : ((pre.length : Int) == (most : Int)) = true := beq_iff_eq.mpr (by omega)
                    have Hm := Lib.hid hm
                    have bk' : Boxed W (e4 + 1 + 1) 3 (.int .i64 (most : Nat)) := by rw [← hm]; exact bk
                    clear hm
                    gi_wp2
                    exact ⟨KeepsFrom.refl _ _, .inl ⟨rfl, by rw [List.length_append, List.length_singleton, Hm.out], bk', hoff, hbw⟩⟩
                  · have hme : ((pre.length : Int) == (most : Int)) = false := beq_eq_false_iff_ne.mpr (by omega)
                    have hlm2 : pre.length + 1 ≤ most := by omega
                    by_cases hk : pre.length < wt.length
                    · have hge : decide ((pre.length : Int) ≥ (wt.length : Int)) = false := decide_eq_false (by omega)
                      obtain ⟨o0, ho0⟩ : ∃ o0, wt[pre.length]? = some o0 := ⟨_, List.getElem?_eq_getElem hk⟩
                      obtain ⟨ad, hAd, y0, y1, y2, y3, y4, y5⟩ := (HLV.out.off hoff (by omega) (by omega)).six ho0
                      have HSb := Lib.hid (SumSt.offB HP.out HSV.out hoff hbw (by omega))
                      have HLb := Lib.hid (HLV.out.off hoff (by omega) (by omega))
                      have Ho0 := Lib.hid ho0
                      have Hpre := Lib.hid hpre
                      have Hoff := Lib.hid hoff
                      have Hbk := Lib.hid bk
                      have Hbw := Lib.hid hbw
                      have HbW2 := Lib.hid bW2
                      have HbR2 := Lib.hid bR
                      have Hr0 := Lib.hid hr0
                      have cj := HSb.out.j.cell
                      unfold seqV at cj
                      subst hAd
                      clear ho0 hpre hoff bk hbw bX bW2 bM2 bR hr0
                      by_cases hs : same6 x o0
                      · have kq := fun (d : Nat) (w : World) => eq35_run (p := x) (q := o0) true (by simp only [true_iff]; exact hs) d w
                        have Hx : Hid (pre ++ [x] <+: wt) := by
                          obtain rfl := same6_iff.1 hs
                          exact prefix_next Hpre.out Ho0.out
                        clear hs
                        gi_wp2
                        refine wpIn_region_quietR (by kernel_rfl) (by kernel_rfl) (by kernel_rfl) ?_
                        repeat (refine wpQuietIn_step (fun _ _ _ _ => trivial) (fun K hK => ?_); go_simp; refine hK _ ?_; clear hK K)
                        refine wpQuietIn_nil ?_
                        intro _ hw'
                        obtain ⟨nq, hw''⟩ := hw'
                        subst hw''
                        gi_wp2
                        have hbd : Below W.heap.size W (W.drewN nq) := pw_below_drewN (Below.refl _ _) nq
                        obtain ⟨W1, hW1⟩ : ∃ W1, W1 = W.drewN nq := ⟨_, rfl⟩
                        rw [← hW1] at hbd ⊢
                        have HBd := Lib.hid hbd
                        have hWs1 := hbd.size
                        clear hbd hW1 ck fk cw cm cR fR cj z0 z1 z2 z3 z4 z5 y0 y1 y2 y3 y4 y5 kq hge hme
                        refine wpIn_range6NB (p := 257) (q := 28) (r0 := r0) (by omega) ((HBd.out.block y (heap_lt Hr0.out)).trans Hr0.out) (HSb.out.q.below HBd.out) (by omega) (by rfl)
                          (fun pre' W' => pre' = [] ∧ Below W1.heap.size W1 W')
                          (fun c pre' W' => (c = .exit 10 ∧ Below W1.heap.size W1 W') ∨ ¬ pre' <+: wt)
                          (OwnFrom.and (ownFrom_pure _ _) (ownFrom_below (Nat.le_refl _) (Nat.le_refl _)))
                          (fun c s X Y row hs hg hr => by
                            rcases hs with ⟨h1, h2⟩ | h1
                            · exact .inl ⟨h1, ownFrom_below (Nat.le_refl _) (Nat.le_refl _) () X Y row h2 hg hr⟩
                            · exact .inr h1)
                          ⟨rfl, Below.refl _ _⟩
                          (fun pre W h => h.2.size)
                          (fun W' => Below W1.heap.size W1 W')
                          (fun W' h => h.2)
                          (fun c pre' W' hp h => by
                            rw [← Hwt.out] at hp
                            rcases h with h1 | h1
                            · exact h1
                            · exact absurd hp h1)
                          ?assign3 ?body3 ?rest3
                        case assign3 =>
                          intro y x W K hK
                          unfold actR obj6 ob6 at hK
                          unfold ob6
                          simp only [List.setIfInBounds_toArray, List.set_cons_zero, List.set_cons_succ] at hK ⊢
                          gi_wp2
                          exact hK
                        case body3 =>
                          rintro y2 pre' q Bq W' hy2 hr2 ⟨rfl, hbb⟩ hBq bQ hlt2
                          unfold actR ob6
                          simp only [List.setIfInBounds_toArray, List.set_cons_zero, List.set_cons_succ]
                          obtain ⟨z0, z1, z2, z3, z4, z5⟩ := bQ.cells
                          have cw := (boxed_below (boxed_below HbW2.out HBd.out) hbb).cell
                          have bR3 := boxed_below (boxed_below HbR2.out HBd.out) hbb
                          have cR := bR3.cell
                          have fR := bR3.frozen
                          obtain ⟨o1, ho1⟩ : ∃ o1, wt[0]? = some o1 := ⟨_, List.getElem?_eq_getElem (by omega)⟩
                          have hLW := (HLb.out.below HBd.out HLb.out.le).below hbb (Nat.le_trans HLb.out.le HBd.out.size)
                          obtain ⟨ad1, hAd1, y0, y1, y2_, y3, y4, y5⟩ := hLW.six ho1
                          obtain rfl := Option.some.inj hAd1
                          simp only [Nat.zero_mul, add0] at y0 y1 y2_ y3 y4 y5
                          have hw1' : 0 < wt.length := by omega
                          have Ho1 := Lib.hid ho1
                          have HBb := Lib.hid hbb
                          have hw0 : (0 : Int) < (wt.length : Int) := by omega
                          clear ho1 hbb bQ hr2 bR3 hLW hAd1
                          by_cases hs : same6 q o1
                          · have kq := fun (d : Nat) (w : World) => eq35_run (p := q) (q := o1) true (by simp only [true_iff]; exact hs) d w
                            clear hs
                            gi_wp2
                            refine wpIn_region_quietR (by kernel_rfl) (by kernel_rfl) (by kernel_rfl) ?_
                            repeat (refine wpQuietIn_step (fun _ _ _ _ => trivial) (fun K hK => ?_); go_simp; refine hK _ ?_; clear hK K)
                            refine wpQuietIn_nil ?_
                            intro _ hw'
                            obtain ⟨nq, hw''⟩ := hw'
                            subst hw''
                            gi_wp2
                            exact ⟨keepsFrom_below (pw_below_drewN (Below.refl _ _) nq), .inl ⟨rfl, HBb.out.trans (pw_below_drewN (Below.refl _ _) nq |>.mono HBb.out.size)⟩⟩
                          · have kq := fun (d : Nat) (w : World) => eq35_run (p := q) (q := o1) false ⟨fun h => (by cases h), fun h => absurd h hs⟩ d w
                            have Hx : Hid (¬ [] ++ [q] <+: wt) := by
                              intro h
                              have h2 := prefix_last (pre := []) h
                              have h3 : wt[0]? = some q := h2
                              rw [Ho1.out] at h3
                              exact hs (same6_iff.2 (Option.some.inj h3).symm)
                            clear hs
                            gi_wp2
                            refine wpIn_region_quietR (by kernel_rfl) (by kernel_rfl) (by kernel_rfl) ?_
                            repeat (refine wpQuietIn_step (fun _ _ _ _ => trivial) (fun K hK => ?_); go_simp; refine hK _ ?_; clear hK K)
                            refine wpQuietIn_nil ?_
                            intro _ hw'
                            obtain ⟨nq, hw''⟩ := hw'
                            subst hw''
                            gi_wp2
                            exact ⟨loop_ret _ _ _ _, .inr Hx.out⟩
                        case rest3 =>
                          intro W' hbb
                          have bk3 := boxed_below (boxed_below Hbk.out HBd.out) hbb
                          have ck := bk3.cell
                          have fk := bk3.frozen
                          have hws' := hbb.size
                          obtain ⟨q1, q2, q3, q4, q5⟩ := loop_step0 (lo := s) (hi := hi) (.int .i64 ((pre.length : Int) + 1)) V0.heap.size bk3 (Hoff.out.trans ((Off.of_below HBd.out).trans (Off.of_below hbb))) ((Hbw.out.trans (HBd.out.mono Hbw.out.size)).trans (hbb.mono (Nat.le_trans Hbw.out.size HBd.out.size))) (by omega) (.inr (by omega)) (by omega)
                          have HQ := Lib.hid (And.intro q1 (And.intro q2 (And.intro q3 (And.intro q4 q5))))
                          have HBb := Lib.hid hbb
                          clear q1 q2 q3 q4 q5 hbb bk3
                          gi_wp2
                          obtain ⟨q1, q2, q3, q4, q5⟩ := HQ.out
                          refine ⟨(keepsFrom_below HBd.out).trans ((keepsFrom_below HBb.out).trans q1), (Span.of_below' HBd.out (by omega)).trans ((Span.of_below' HBb.out (by omega)).trans q2), ⟨?_, Hx.out, by rw [List.length_append, List.length_singleton]; omega⟩, q4, q5⟩
                          rw [List.length_append, List.length_singleton, Int.natCast_add]
                          exact q3
                      · have kq := fun (d : Nat) (w : World) => eq35_run (p := x) (q := o0) false ⟨fun h => (by cases h), fun h => absurd h hs⟩ d w
                        have Hx : Hid (¬ pre ++ [x] <+: wt) := by
                          intro h
                          have h2 := prefix_last h
                          rw [Ho0.out] at h2
                          exact hs (same6_iff.2 (Option.some.inj h2).symm)
                        clear hs
                        gi_wp2
                        refine wpIn_region_quietR (by kernel_rfl) (by kernel_rfl) (by kernel_rfl) ?_
                        repeat (refine wpQuietIn_step (fun _ _ _ _ => trivial) (fun K hK => ?_); go_simp; refine hK _ ?_; clear hK K)
                        refine wpQuietIn_nil ?_
                        intro _ hw'
                        obtain ⟨nq, hw''⟩ := hw'
                        subst hw''
                        gi_wp2
                        exact ⟨loop_ret _ _ _ _, .inr Hx.out⟩
                    · have hge : decide ((pre.length : Int) ≥ (wt.length : Int)) = true := decide_eq_true (by omega)
                      have hge2 : decide ((wt.length : Int) ≤ (pre.length : Int)) = true := decide_eq_true (by omega)
                      have hge3 : decide (wt.length ≤ pre.length) = true := decide_eq_true (by omega)
                      have Hx : Hid (¬ pre ++ [x] <+: wt) := by
                        intro h
                        have := h.length_le
                        rw [List.length_append, List.length_singleton] at this
                        omega
                      clear hpre hoff bk hbw bX bW2 bM2 bR hr0 hk
                      gi_wp2
                      refine wpIn_region_quietR (by kernel_rfl) (by kernel_rfl) (by kernel_rfl) ?_
                      repeat (refine wpQuietIn_step (fun _ _ _ _ => trivial) (fun K hK => ?_); go_simp; refine hK _ ?_; clear hK K)
                      refine wpQuietIn_nil ?_
                      intro _ hw'
                      obtain ⟨nq, hw''⟩ := hw'
                      subst hw''
                      gi_wp2
                      exact ⟨loop_ret _ _ _ _, .inr Hx.out⟩
                case rest2 =>
                  rintro D2 W hD2 ⟨bk, hoff, hbw⟩ hK2
                  have bW2 := boxed_off HbW.out hoff (by omega) (by omega)
                  have bM2 := boxed_off HbM.out hoff (by omega) (by omega)
                  have ck := bk.cell
                  have fk := bk.frozen
                  have cw := bW2.cell
                  have cm := bM2.cell
                  obtain ⟨nn, hnn⟩ : ∃ nn : Nat, nn = min most wt.length := ⟨_, rfl⟩
                  rw [← hnn] at ck
                  have hmin : (if wt.length < most then (wt.length : Int) else (most : Int)) = (nn : Int) := by split <;> omega
                  clear hnn
                  obtain ⟨X0, hX0⟩ : ∃ X0, X0 = W.setCell ⟨e4 + 1 + 1, 0, none⟩ (.int .i64 0) := ⟨_, rfl⟩
                  have hoX : Off (e4 + 1 + 1) (e4 + 1 + 1) V0 X0 := by rw [hX0]; exact hoff.trans ((Off.refl _ _ _).set _ _ (.inl rfl))
                  have hbX : Below w1.heap.size w1 X0 := by rw [hX0]; exact hbw.setCell (p := ⟨e4 + 1 + 1, 0, none⟩) (by show w1.heap.size ≤ e4 + 1 + 1; omega) _
                  have bkX : Boxed X0 (e4 + 1 + 1) 3 (.int .i64 0) := by rw [hX0]; exact bk.set _
                  have hD2X : X0.heap[D2]? = some (.deferred (some [])) := by
                    rw [hX0, heap_setCell_ne _ _ _ _ (by show D2 ≠ e4 + 1 + 1; omega)]
                    exact hK2
                  have hD1X : X0.heap[D]? = some (.deferred (some [])) := (hoX.2 D (heap_lt HDV.out) (by omega) (by omega)).trans HDV.out
                  have HSX := Lib.hid (SumSt.offB HP.out HSV.out hoX hbX (by omega))
                  have cj := HSX.out.j.cell
                  unfold seqV at cj
                  rw [hX0] at cj
                  have hVX := hoX.1
                  have HoX := Lib.hid hoX
                  have HbX := Lib.hid hbX
                  have HbkX := Lib.hid bkX
                  have HD2X := Lib.hid hD2X
                  have HD1X := Lib.hid hD1X
                  have HX0 := Lib.hid hX0
                  have HbWX := Lib.hid (boxed_off HbW.out hoX (by omega) (by omega))
                  have HLX := Lib.hid (HLV.out.off hoX (by omega) (by omega))
                  clear hX0 hoX hbX bkX hD2X hD1X bW2 bM2 bk hoff hbw hK2
                  go_wp2_with fail
                  rw [← HX0.out]
                  clear cj HX0 ck fk cw cm hmin
                  refine (wpIn_wide (n := 9)).1 ?_
                  refine wpIn_range6 (p := 272) (q := 29) (by omega) HSX.out.q (by omega) (by rfl)
                    (fun pre W => (Boxed W (e4 + 1 + 1) 3 (.int .i64 (pre.length : Nat)) ∧ pre <+: wt) ∧ (Off (e4 + 1 + 1) (e4 + 1 + 1) X0 W ∧ Below w1.heap.size w1 W))
                    (fun _ pre _ => ¬ pre <+: wt)
                    (OwnFrom.and (OwnFrom.and (Own.from (boxed_own (e4 + 1 + 1) 3 (fun pre : List S35 => .int .i64 (pre.length : Nat))) _) (ownFrom_pure _ _)) (OwnFrom.and (ownFrom_off _ _ _ (Nat.le_refl _)) (ownFrom_below (Nat.le_refl _) HSX.out.hb.size)))
                    (fun _ _ _ _ _ hs _ _ => hs)
                    ⟨⟨HbkX.out, List.nil_prefix⟩, Off.refl _ _ _, HbX.out⟩
                    (fun pre W h => h.2.1.1)
                    ?assign4 ?body4 ?done4 ?stop4
                  case assign4 =>
                    intro y x W K hK
                    unfold actR obj6 ob6 at hK
                    unfold ob6
                    simp only [List.setIfInBounds_toArray, List.set_cons_zero, List.set_cons_succ] at hK ⊢
                    gi_wp2
                    exact hK
                  case body4 =>
                    rintro y pre x Bx W hy hr ⟨⟨bk, hpre⟩, hoff, hbw⟩ hBx bX hlt
                    unfold actR ob6
                    simp only [List.setIfInBounds_toArray, List.set_cons_zero, List.set_cons_succ]
                    have bO2 := boxed_off HbWX.out hoff (by omega) (by omega)
                    have ck := bk.cell
                    have fk := bk.frozen
                    have co := bO2.cell
                    obtain ⟨z0, z1, z2, z3, z4, z5⟩ := bX.cells
                    have bR := boxed_below HR0.out hbw
                    have cR := bR.cell
                    have fR := bR.frozen
                    by_cases hk : pre.length < wt.length
                    · have hge : decide ((pre.length : Int) ≥ (wt.length : Int)) = false := decide_eq_false (by omega)
                      obtain ⟨o0, ho0⟩ : ∃ o0, wt[pre.length]? = some o0 := ⟨_, List.getElem?_eq_getElem hk⟩
                      obtain ⟨ad, hAd, y0, y1, y2, y3, y4, y5⟩ := (HLX.out.off hoff (by omega) (by omega)).six ho0
                      have Ho0 := Lib.hid ho0
                      have Hpre := Lib.hid hpre
                      have Hoff := Lib.hid hoff
                      have Hbk := Lib.hid bk
                      have Hbw := Lib.hid hbw
                      have hWs := hoff.1
                      subst hAd
                      clear ho0 hpre hoff bk hbw bX bO2 bR hr
                      by_cases hs : same6 x o0
                      · have kq := fun (d : Nat) (w : World) => eq35_run (p := x) (q := o0) true (by simp only [true_iff]; exact hs) d w
                        have Hx : Hid (pre ++ [x] <+: wt) := by
                          obtain rfl := same6_iff.1 hs
                          exact prefix_next Hpre.out Ho0.out
                        clear hs
                        gi_wp2
                        refine wpIn_region_quietR (by kernel_rfl) (by kernel_rfl) (by kernel_rfl) ?_
                        repeat (refine wpQuietIn_step (fun _ _ _ _ => trivial) (fun K hK => ?_); go_simp; refine hK _ ?_; clear hK K)
                        refine wpQuietIn_nil ?_
                        intro _ hw'
                        obtain ⟨nq, hw''⟩ := hw'
                        subst hw''
                        gi_wp2
                        obtain ⟨q1, q2, q3, q4, q5⟩ := loop_step (lo := s) (hi := hi) (.int .i64 ((pre.length : Int) + 1)) nq X0.heap.size Hbk.out Hoff.out Hbw.out (by omega) (.inr (by omega)) (by omega)
                        refine ⟨q1, q2, ⟨?_, Hx.out⟩, q4, q5⟩
                        rw [List.length_append, List.length_singleton, Int.natCast_add]
                        exact q3
                      · have kq := fun (d : Nat) (w : World) => eq35_run (p := x) (q := o0) false ⟨fun h => (by cases h), fun h => absurd h hs⟩ d w
                        have Hx : Hid (¬ pre ++ [x] <+: wt) := by
                          intro h
                          have h2 := prefix_last h
                          rw [Ho0.out] at h2
                          exact hs (same6_iff.2 (Option.some.inj h2).symm)
                        clear hs
                        gi_wp2
                        refine wpIn_region_quietR (by kernel_rfl) (by kernel_rfl) (by kernel_rfl) ?_
                        repeat (refine wpQuietIn_step (fun _ _ _ _ => trivial) (fun K hK => ?_); go_simp; refine hK _ ?_; clear hK K)
                        refine wpQuietIn_nil ?_
                        intro _ hw'
                        obtain ⟨nq, hw''⟩ := hw'
                        subst hw''
                        gi_wp2
                        exact ⟨loop_ret _ _ _ _, Hx.out⟩
                    · have hge : decide ((pre.length : Int) ≥ (wt.length : Int)) = true := decide_eq_true (by omega)
                      have hge2 : decide ((wt.length : Int) ≤ (pre.length : Int)) = true := decide_eq_true (by omega)
                      have hge3 : decide (wt.length ≤ pre.length) = true := decide_eq_true (by omega)
                      have Hx : Hid (¬ pre ++ [x] <+: wt) := by
                        intro h
                        have := h.length_le
                        rw [List.length_append, List.length_singleton] at this
                        omega
                      clear hpre hoff bk hbw bX bO2 bR hr hk
                      gi_wp2
                      refine wpIn_region_quietR (by kernel_rfl) (by kernel_rfl) (by kernel_rfl) ?_
                      repeat (refine wpQuietIn_step (fun _ _ _ _ => trivial) (fun K hK => ?_); go_simp; refine hK _ ?_; clear hK K)
                      refine wpQuietIn_nil ?_
                      intro _ hw'
                      obtain ⟨nq, hw''⟩ := hw'
                      subst hw''
                      gi_wp2
                      exact ⟨loop_ret _ _ _ _, Hx.out⟩
                  case done4 =>
                    intro D3 W hD3 hI hK3
                    rw [← Hwt.out] at hI
                    obtain ⟨⟨bk, hpre⟩, hoff, hbw⟩ := hI
                    have bO2 := boxed_off HbWX.out hoff (by omega) (by omega)
                    have ck := bk.cell
                    have co := bO2.cell
                    have bR := boxed_below HR0.out hbw
                    have cR := bR.cell
                    have fR := bR.frozen
                    have hD2l := heap_lt HD2X.out
                    have hD1l := heap_lt HD1X.out
                    have hd2 : W.heap[D2]? = some (.deferred (some [])) := (hoff.2 D2 hD2l (by omega) (by omega)).trans HD2X.out
                    have hd1 : W.heap[D]? = some (.deferred (some [])) := (hoff.2 D hD1l (by omega) (by omega)).trans HD1X.out
                    have Hd1 := Lib.hid hd1
                    have Hd2 := Lib.hid hd2
                    have Hd3 := Lib.hid hK3
                    have HbR := Lib.hid bR
                    have HbwW := Lib.hid hbw
                    clear hd1 hd2 hK3 bR hbw bk bO2 hoff hpre
                    go_wp2_with fail
                    have hne1 : w.heap.size ≤ D := by omega
                    have hne2 : w.heap.size < D := by omega
                    refine leave3 rfl (R := w.heap.size) ((heap_setCell_ne _ _ _ _ (by show D ≠ w.heap.size; omega)).trans Hd1.out) ((heap_setCell_ne _ _ _ _ (by show D2 ≠ w.heap.size; omega)).trans Hd2.out) ((heap_setCell_ne _ _ _ _ (by show D3 ≠ w.heap.size; omega)).trans Hd3.out) (by omega) (by omega) (by omega) (by omega) (by omega) (by omega) ((HBw.out.trans (HbwW.out.mono (by omega))).setCell (p := ⟨w.heap.size, 0, none⟩) (Nat.le_refl _) _) (HbR.out.set _) rfl
                  case stop4 =>
                    intro D c pre W _ hp hx _
                    exact absurd (by rw [Hwt.out]; exact hp) hx
          case stop =>
            intro D c pre W _ hp hx _
            exact absurd (by rw [Hot.out]; exact hp) hx
end Go.Proofs.YtohighedgdlflaaGreatDoor
