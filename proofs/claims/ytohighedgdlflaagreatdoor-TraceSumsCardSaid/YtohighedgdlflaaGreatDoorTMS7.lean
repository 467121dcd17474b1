/- The law TraceSums of package trace answers true, for every cell, every two rows of observations and every place to stop. -/
import Derived.Test.YtohighedgdlflaaGreatDoorTMS3
import Derived.Test.YtohighedgdlflaaGreatDoorTMS4
import Derived.Deep.QuietTactic
import Derived.BigQuiet
import Derived.Laws.EntriesVeiled
import Derived.Deep.RegionHeld3
import Derived.Test.YtohighedgdlflaaGreatDoorTMS6
import Derived.Test.YtohighedgdlflaaGreatDoorTPRx3
import Derived.Test.YtohighedgdlflaaGreatDoorTPRx2
import Derived.Test.YtohighedgdlflaaGreatDoorTPRx8
/- trace.Text writes textS. -/
namespace Go.Proofs.YtohighedgdlflaaGreatDoor
open Go.Shelf Go.RowKit Go.Sort Go.Lib Go.Proofs.YtohighedgdlflaaGreatDoorW.PrintWords Go.Proofs.YtohighedgdlflaaGreatDoor.PR
set_option linter.unusedVariables false
set_option linter.unusedSimpArgs false
set_option maxRecDepth 100000 in
set_option maxHeartbeats 8000000 in
theorem text_ok (l : List S35) (A : Option Addr) (c : Nat) (w : World) (hT : PTab w) (hR : Kd.C k35 w A l.length l) (hF : ∀ o ∈ l, FitsT o) (hl : l.length ≤ 1000000) :
    Calls Tryz.prog 13 #[.slice A l.length c] w (TextR w l) := by
  have HR := Lib.hid hR
  have HT := Lib.hid hT
  have HF := Lib.hid hF
  have hm := Kd.C_max hR
  clear hR hT hF
  go_enter Tryz.func13, Tryz.ntmps13
  go_wp2_with fail
  have hbl : Hid (Below w.heap.size w (w.alloc (.cells #[.pointer none, .slice none 0 0] 67))) := below_alloc (Below.refl _ _) _
  have hnb : Hid (Lib.IsBuilderF 67 5 w.heap.size w.heap.size [] (w.alloc (.cells #[.pointer none, .slice none 0 0] 67))) := builder_new w
  refine (forms_ok _).mono ?_
  rintro e w1 ⟨rfl, hfr, hb1⟩
  rw [World.size_alloc] at hfr
  have HF1 := Lib.hid hfr
  have HB1 := Lib.hid (hbl.out.trans (hb1.mono hbl.out.size))
  have hNB1 : Lib.IsBuilderF 67 5 w.heap.size w.heap.size [] w1 := builder_below hnb.out hb1
  have HNB1 := Lib.hid hNB1
  clear hnb hbl hfr hb1 hNB1
  simp only [World.size_alloc]
  go_wp2_with fail
  go_loopw [7, 8, 9, 13] (fun v7 v8 v9 v13 wr => ∃ k : Nat, k ≤ l.length ∧ v13 = .int .i64 k ∧ Hid ((l.take k).all mayB = true) ∧ Hid (Frm wr (w.heap.size + 1)) ∧ Hid (Lib.IsBuilderF 67 5 w.heap.size w.heap.size (Lib.byteCells (textB (l.take k))) wr) ∧ Hid (Below w.heap.size w wr)) (fun _ _ _ i _ => l.length - (RowKit.intOf i).toNat)
  case atStart => exact ⟨0, by omega, rfl, rfl, HF1, HNB1, HB1⟩
  case round =>
    clear HF1 HNB1 HB1
    obtain ⟨k, hk, rfl, hall, HFr, HNB, HB⟩ := hrel
    by_cases hlt : k < l.length
    · obtain ⟨o, ho⟩ : ∃ o, o = rd_T35 l k := ⟨_, rfl⟩
      have ho2 : Hid (l[k]? = some o) := by
        show l[k]? = some o
        rw [ho]; simp [rd_T35, List.getD_eq_getElem?_getD, List.getElem?_eq_getElem hlt]
      obtain ⟨ad, rfl, c0, c1, c2, c3, c4, c5⟩ := at_T35 (Kd.C_below HR.out HB.out) k (by omega) (by omega)
      rw [← ho] at c0 c1 c2 c3 c4 c5
      simp only [Int.toNat_natCast] at c0 c1 c2 c3 c4 c5
      clear ho
      have hfit := Lib.hid (HF.out o (List.mem_of_getElem? ho2.out))
      go_wp2_with fail
      refine (may_ok o _).mono ?_
      rintro e w2 ⟨rfl, hb2⟩
      have hbo : Hid (Below w.heap.size w (wr.alloc (.cells #[.int .u64 o.f0, .int .i64 o.f1, .int .i64 o.f2, .int .u32 o.f3, .int .u32 o.f4, .int .u32 o.f5] 35))) := below_alloc HB.out _
      cases hmb : mayB o with
      | false =>
        have HB2 := Lib.hid (hbo.out.trans (hb2.mono hbo.out.size))
        have hbad : Hid (l.all mayB = false) := by
          show l.all mayB = false
          rw [List.all_eq_false]
          exact ⟨o, List.mem_of_getElem? ho2.out, by rw [hmb]; decide⟩
        clear hbo hb2
        go_wp2_with fail
        refine bodyPost_ret (results_tmp2 rfl _ _ _) rfl ?_
        exact TextR.bad hbad.out HB2.out
      | true =>
        have HB2 := Lib.hid (hbo.out.trans (hb2.mono hbo.out.size))
        have hlow : Below wr.heap.size wr w2 := (below_alloc (Below.refl _ _) _).trans (hb2.mono (by simp))
        have HFr2 := Lib.hid (HFr.out.below hlow)
        have hO6 : Ob6 w2 wr.heap.size o := by
          unfold Ob6
          rw [hb2.block _ (by simp)]
          exact blk_new _ _
        obtain ⟨t, cl, q, p, a, b, hq1, hq7, hcl, ht, hp, ha, hb, h0, h1, h2, h3, h4, h5, hk1, hk2⟩ : ∃ t cl q p a b : Nat, 1 ≤ q ∧ q ≤ 7 ∧ cl < 10 ∧ t < 18446744073709551616 ∧ p < 4294967296 ∧ a < 4294967296 ∧ b < 4294967296 ∧ o.f0 = t ∧ o.f1 = cl ∧ o.f2 = q ∧ o.f3 = p ∧ o.f4 = a ∧ o.f5 = b ∧ (q = 3 → a < 7) ∧ (q = 4 → a < 100) := by
          obtain ⟨⟨f1, f2, f3, f4, f5, f6⟩, f7, f8⟩ := hfit.out
          have hm2 := hmb
          unfold mayB kindB at hm2
          simp only [Bool.and_eq_true, decide_eq_true_eq] at hm2
          obtain ⟨⟨⟨m1, m2⟩, m3⟩, m4⟩ := hm2
          have hq : 1 ≤ o.f2 ∧ o.f2 ≤ 7 ∧ (o.f2 = 3 → o.f4 ≤ 6) ∧ (o.f2 = 4 → o.f4 < 32) := by
            split at m4
            · omega
            · split at m4
              · omega
              · split at m4
                · simp at m4; omega
                · split at m4
                  · simp at m4; omega
                  · split at m4
                    · omega
                    · split at m4
                      · omega
                      · split at m4
                        · omega
                        · simp at m4
          exact ⟨o.f0.toNat, o.f1.toNat, o.f2.toNat, o.f3.toNat, o.f4.toNat, o.f5.toNat, by omega, by omega, by omega, by omega, by omega, by omega, by omega, by omega, by omega, by omega, by omega, by omega, by omega, by omega, by omega⟩
        obtain ⟨mw, fvw, nw, mr, fvr, g0, g1, g2, g3, hfw⟩ := frm_row HFr2.out q hq1 hq7
        clear c0 c1 c2 c3 c4 c5
        obtain ⟨c0, c1, c2, c3, c4, c5⟩ := hO6.cells
        have hOlt : wr.heap.size < w2.heap.size := heap_lt hO6
        rw [h0] at c0; rw [h1] at c1; rw [h2] at c2; rw [h3] at c3; rw [h4] at c4; rw [h5] at c5
        have Hfw := Lib.hid hfw
        obtain ⟨wd, hwd⟩ : ∃ wd, wd = kindS.getD q ByteArray.empty := ⟨_, rfl⟩
        rw [← hwd] at g0
        have Hwd := Lib.hid hwd
        have Hk12 := Lib.hid (And.intro hk1 hk2)
        have Hhs := Lib.hid (And.intro h0 (And.intro h1 (And.intro h2 (And.intro h3 (And.intro h4 h5)))))
        have hq8 : (0 : Int) ≤ q ∧ (q : Int) < 8 := by omega
        have HL2 := Lib.hid hlow
        clear hwd hfw hlow hb2 hbo hfit hk1 hk2 h0 h1 h2 h3 h4 h5
        have hcell : Hid (∀ W, Below (w2.heap.size + 1) (w2.alloc (.cells #[.string wd, .func (.func mw) #[] fvw, .int .i64 nw, .func (.func mr) #[] fvr] 74)) W → W.cell? ⟨wr.heap.size, 0, none⟩ = some (.int .u64 t) ∧ W.cell? ⟨wr.heap.size, 1, none⟩ = some (.int .i64 cl) ∧ W.cell? ⟨wr.heap.size, 3, none⟩ = some (.int .u32 p) ∧ W.cell? ⟨w2.heap.size, 0, none⟩ = some (.string wd) ∧ PTab W) := by
          intro W hW
          have hA : Below w2.heap.size w2 (w2.alloc (.cells #[.string wd, .func (.func mw) #[] fvw, .int .i64 nw, .func (.func mr) #[] fvr] 74)) := below_alloc (Below.refl _ _) _
          have hB : Below w2.heap.size w2 W := hA.trans (hW.mono (by omega))
          refine ⟨?_, ?_, ?_, ?_, HT.out.below (HB2.out.trans (hB.mono HB2.out.size))⟩
          · rw [hB.cell (by simp; omega)]; exact c0
          · rw [hB.cell (by simp; omega)]; exact c1
          · rw [hB.cell (by simp; omega)]; exact c3
          · rw [hW.cell (by simp)]; simp [World.cell?_alloc_new]
        have hcell2 : Hid (∀ W, Below (w2.heap.size + 1) (w2.alloc (.cells #[.string wd, .func (.func mw) #[] fvw, .int .i64 nw, .func (.func mr) #[] fvr] 74)) W → W.cell? ⟨wr.heap.size, 0, none⟩ = some (.int .u64 t) ∧ W.cell? ⟨wr.heap.size, 1, none⟩ = some (.int .i64 cl) ∧ W.cell? ⟨wr.heap.size, 2, none⟩ = some (.int .i64 q) ∧ W.cell? ⟨wr.heap.size, 3, none⟩ = some (.int .u32 p) ∧ W.cell? ⟨wr.heap.size, 4, none⟩ = some (.int .u32 a) ∧ W.cell? ⟨wr.heap.size, 5, none⟩ = some (.int .u32 b) ∧ W.cell? ⟨w2.heap.size, 1, none⟩ = some (.func (.func mw) #[] fvw)) := by
          intro W hW
          have hA : Below w2.heap.size w2 (w2.alloc (.cells #[.string wd, .func (.func mw) #[] fvw, .int .i64 nw, .func (.func mr) #[] fvr] 74)) := below_alloc (Below.refl _ _) _
          have hB : Below w2.heap.size w2 W := hA.trans (hW.mono (by omega))
          refine ⟨?_, ?_, ?_, ?_, ?_, ?_, ?_⟩
          · rw [hB.cell (by simp; omega)]; exact c0
          · rw [hB.cell (by simp; omega)]; exact c1
          · rw [hB.cell (by simp; omega)]; exact c2
          · rw [hB.cell (by simp; omega)]; exact c3
          · rw [hB.cell (by simp; omega)]; exact c4
          · rw [hB.cell (by simp; omega)]; exact c5
          · rw [hW.cell (by simp)]; simp [World.cell?_alloc_new]
        go_upto_region 9 with (fail)
        clear g0 g1 g2 g3 c0 c1 c2 c3 c4 c5 hq8
        go_cut [9] (fun v9 wc => Hid (Kd.string.R 9 wc (w2.heap.size + 1) (fun _ => True) v9 [decS t, decS cl, wd, hexS p]) ∧ Hid (Below (w2.heap.size + 1) (w2.alloc (.cells #[.string wd, .func (.func mw) #[] fvw, .int .i64 nw, .func (.func mr) #[] fvr] 74)) wc))
        case first =>
          clear hcell2 HR HT HF HFr HNB HB ho2 hall HB2 HFr2 Hfw Hwd Hk12 Hhs
          have HS : Hid (∀ W, Below (w2.heap.size + 1) (w2.alloc (.cells #[.string wd, .func (.func mw) #[] fvw, .int .i64 nw, .func (.func mr) #[] fvr] 74)) W → (W.cell? ⟨wr.heap.size, 0, none⟩ = some (.int .u64 t) ∧ W.cell? ⟨wr.heap.size, 1, none⟩ = some (.int .i64 cl) ∧ W.cell? ⟨wr.heap.size, 3, none⟩ = some (.int .u32 p) ∧ W.cell? ⟨w2.heap.size, 0, none⟩ = some (.string wd) ∧ Hid (PTab W) ∧ Hid (Below (w2.heap.size + 1) (w2.alloc (.cells #[.string wd, .func (.func mw) #[] fvw, .int .i64 nw, .func (.func mr) #[] fvr] 74)) W))) := fun W hW => by
            obtain ⟨e0, e1, e3, ef, ep⟩ := hcell.out _ hW
            exact ⟨e0, e1, e3, ef, ep, hW⟩
          have HB0 := Lib.hid (Below.refl (w2.heap.size + 1) (w2.alloc (.cells #[.string wd, .func (.func mw) #[] fvw, .int .i64 nw, .func (.func mr) #[] fvr] 74)))
          clear hcell
          go_region_held3 (fun W => W.cell? ⟨wr.heap.size, 0, none⟩ = some (.int .u64 t) ∧ W.cell? ⟨wr.heap.size, 1, none⟩ = some (.int .i64 cl) ∧ W.cell? ⟨wr.heap.size, 3, none⟩ = some (.int .u32 p) ∧ W.cell? ⟨w2.heap.size, 0, none⟩ = some (.string wd) ∧ Hid (PTab W) ∧ Hid (Below (w2.heap.size + 1) (w2.alloc (.cells #[.string wd, .func (.func mw) #[] fvw, .int .i64 nw, .func (.func mr) #[] fvr] 74)) W))
            (first
              | exact HS.out _ HB0.out
              | exact HS.out _ (below_drew HB0.out)
              | exact HS.out _ HB5.out
              | exact HS.out _ HB7.out
              | exact HS.out _ (HB7.out.alloc (by have hz := HB7.out.size; simp at hz; omega) _))
            (first
              | (go_at_call 34; with_reducible refine (fmt_ok t ht _ (HS.out _ (below_drew HB0.out)).2.2.2.2.1.out).mono ?_; rintro e w5 ⟨rfl, hb5⟩; have HB5 := Lib.hid ((below_drew HB0.out).trans (hb5.mono (by simp))))
              | (go_at_call 35; with_reducible refine (Tryz.strconv_Itoa_small cl (by omega) _).mono ?_; rintro e w6 ⟨rfl, rfl⟩)
              | (go_at_call 36; with_reducible refine (hex_ok p hp _).mono ?_; rintro e w7 ⟨rfl, hb7⟩; have HB7 := Lib.hid (HB5.out.trans (hb7.mono (by have hz := HB5.out.size; simp at hz; omega)))))
          all_goals
            go_wp2_with fail
            go_meet
            case rel =>
              refine ⟨?_, ?_⟩
              · exact R_fresh _ [decS t, decS cl, wd, hexS p] (by have hz := HB7.out.size; simp at hz; omega) rfl (by simp) rfl
              · exact HB7.out.alloc (by have hz := HB7.out.size; simp at hz; omega) _
        case rest =>
          obtain ⟨HV, HBc⟩ := hcut
          obtain ⟨A9, cp9, rfl, hc9, hC9⟩ := Kd.R_reads HV.out
          have hent : ∀ args w, (callFunc mw args).run Tryz.prog w = .ok (.enter mw args) w := enter_any hq1 hq7 Hfw.out
          have hwr : Hid (∀ W, Below (w2.heap.size + 1) (w2.alloc (.cells #[.string wd, .func (.func mw) #[] fvw, .int .i64 nw, .func (.func mr) #[] fvr] 74)) W → Calls Tryz.prog mw (#[.agg #[.int .u64 t, .int .i64 cl, .int .i64 q, .int .u32 p, .int .u32 a, .int .u32 b]] ++ fvw) W (WrR W (writeL o))) := by
            intro W hW
            obtain ⟨h0, h1, h2, h3, h4, h5⟩ := Hhs.out
            rw [writeL_eq h2 h4 h5]
            refine write_any (HFr2.out.below ?_) t cl p a b hq1 hq7 ha hb Hk12.out.1 Hk12.out.2 Hfw.out
            exact (below_alloc (Below.refl w2.heap.size w2) _).trans (hW.mono (by omega))
          obtain ⟨c0, c1, c2, c3, c4, c5, f1⟩ := hcell2.out _ HBc.out
          have HLc : Hid (Below wr.heap.size wr wc) := HL2.out.trans ((below_alloc (Below.refl w2.heap.size w2) _ |>.trans (HBc.out.mono (by omega))).mono HL2.out.size)
          have HCc : Hid (Below w.heap.size w wc) := HB.out.trans (HLc.out.mono HB.out.size)
          have hsz : wr.heap.size ≤ wc.heap.size ∧ w2.heap.size + 1 ≤ wc.heap.size := ⟨HLc.out.size, by have hz := HBc.out.size; simp at hz; omega⟩
          go_wp2_with fail
          refine (hwr.out _ HBc.out).mono ?_
          rintro e w10 ⟨v10, rfl, hr10, hb10⟩
          clear c0 c1 c2 c3 c4 c5 f1 hcell hcell2
          obtain ⟨A10, c10, rfl, hc10, hC10⟩ := Kd.R_reads hr10
          have HC10 := Lib.hid hC10
          have HV10 : Hid (Kd.string.R 9 w10 (w2.heap.size + 1) (fun _ => True) (.slice A9 [decS t, decS cl, wd, hexS p].length cp9) [decS t, decS cl, wd, hexS p]) := Kd.R_below HV.out hb10
          have HL10 : Hid (Below wr.heap.size wr w10) := HLc.out.trans (hb10.mono hsz.1)
          have HB10 : Hid (Below w.heap.size w w10) := HCc.out.trans (hb10.mono HCc.out.size)
          have hs10 : w2.heap.size + 1 ≤ w10.heap.size := by have := hb10.size; omega
          have hwl : (writeL o).length ≤ 2 := by unfold writeL; repeat' (first | split | simp)
          clear hr10 hb10 hC10 hC9 HV HBc hwr hent
          go_wp2_with (at_builtin; refine Kd.R_append_row Value.string ByteArray.empty (w0 := wr) wr.heap.size rfl (.tmp 37) (.tmp 41) 78 9 (.string ⟨#[]⟩) 16 rfl Tryz.underlying78 info9 rfl (by decide) _ _ (writeL o) A10 _ c10 (fun _ => True) rfl rfl (fun _ _ => trivial) (Kd.R_lower HV10.out (by omega)) HC10.out HL10.out HL10.out.size (by simp; omega) ?_; intro v11 w11 hr11 hb11 hg11 hat11; have HR11 := Lib.hid hr11; have HL11 := Lib.hid hb11; clear hr11 hb11 hg11 hat11)
          have hws : [decS t, decS cl, wd, hexS p] ++ writeL o = wordsL o := by
            obtain ⟨h0, h1, h2, h3, h4, h5⟩ := Hhs.out
            simp [wordsL, headL, h0, h1, h2, h3, Hwd.out]
          have HR11' := HR11.out
          rw [hws] at HR11'
          obtain ⟨g11, c11, rfl, hcp11, hg11, hcell11⟩ := R_cells HR11' (by simp [wordsL, headL])
          have HX11 := Lib.hid hcell11
          have hll : (lineB o).length ≤ 200 := by
            obtain ⟨h0, h1, h2, h3, h4, h5⟩ := Hhs.out
            exact words_len o (by omega) (by omega) (by omega)
          have hjl : (Lib.join ((wordsL o).map (·.data.toList)) [32]).length ≤ 199 := by unfold lineB at hll; rw [List.length_append] at hll; simp at hll; omega
          have HJ := Lib.hid hjl
          have hwl2 : (wordsL o).length ≤ 6 := by rw [← hws, List.length_append]; simp; omega
          clear HR11 HR11' hcell11 hws hjl HC10 HV10
          refine (Tryz.strings_Join g11 0 c11 (wordsL o) _ _ HX11.out hg11 (by omega) hcp11 (by have := HJ.out; simpa using Nat.le_trans this (by omega))).mono ?_
          rintro e w12 ⟨rfl, hb12⟩
          have HL12 := Lib.hid (HL11.out.trans (hb12.mono HL11.out.size))
          clear HX11 hb12 HL11
          obtain ⟨ln, hln⟩ : ∃ ln : ByteArray, ln = ⟨(Lib.join ((wordsL o).map (·.data.toList)) [32]).toArray⟩ := ⟨_, rfl⟩
          have hlb : (ln ++ ⟨#[10]⟩ : ByteArray).data.toList = lineB o := by rw [hln]; simp [lineB]
          have h10 : (⟨#[10]⟩ : ByteArray).size = 1 := rfl
          have hls : ln.size ≤ 199 := by rw [hln]; simpa [ByteArray.size] using HJ.out
          have hlz : (ln ++ ⟨#[10]⟩ : ByteArray).size ≤ 200 := by rw [ByteArray.size_append, h10]; omega
          have Hlb := Lib.hid hlb
          have hadd : ∀ W : World, (Op.stringOp .add ln ⟨#[10]⟩).run Tryz.prog W = .ok (.string (ln ++ ⟨#[10]⟩)) W := fun W => run_string_add_sum W _ _ (by rw [h10]; omega)
          rw [← hln]
          clear hln hls hlb HJ
          go_wp2_with fail
          have hbuf : (Lib.byteCells (textB (l.take k))).length ≤ 200 * 1000000 := by
            rw [Lib.byteCells_length]
            refine Nat.le_trans (text_len _ (fun x hx => ?_)) ?_
            · have hx2 := HF.out x (List.mem_of_mem_take hx)
              obtain ⟨⟨f1, f2, f3, f4, f5, f6⟩, f7, f8⟩ := hx2
              have := List.all_eq_true.1 hall.out x hx
              unfold mayB at this
              simp only [Bool.and_eq_true, decide_eq_true_eq] at this
              exact words_len x (by omega) (by omega) (by omega)
            · rw [List.length_take]; exact Nat.mul_le_mul_left _ (by omega)
          have HB12 := Lib.hid (HB.out.trans (HL12.out.mono HB.out.size))
          have hW := Tryz.Builder_WriteString_k w.heap.size w.heap.size _ (ln ++ ⟨#[10]⟩) w12 (builder_below HNB.out HL12.out) (by omega) HB12.out.size
          obtain ⟨lz, hz⟩ : ∃ lz : ByteArray, lz = ln ++ ⟨#[10]⟩ := ⟨_, rfl⟩
          rw [← hz] at hW ⊢
          have Hz := Lib.hid hz
          clear hz
          refine hW.mono ?_
          clear hW
          rintro e w13 ⟨rfl, hbu, hb13, hok13⟩
          have HFr13 := Lib.hid ((HFr.out.below HL12.out).others hok13 (by omega))
          have HB13 := Lib.hid (HB12.out.trans hb13)
          have hall13 : Hid ((l.take (k + 1)).all mayB = true) := by
            show (l.take (k + 1)).all mayB = true
            rw [List.take_add_one, ho2.out]
            simp [hall.out, hmb]
          have HNB13 : Hid (Lib.IsBuilderF 67 5 w.heap.size w.heap.size (Lib.byteCells (textB (l.take (k + 1)))) w13) := by
            have h1 := hbu
            rw [Lib.strCells_eq, Hz.out, Hlb.out] at h1
            have h2 : Lib.byteCells (textB (l.take (k + 1))) = Lib.byteCells (textB (l.take k)) ++ Lib.byteCells (lineB o) := by
              rw [List.take_add_one, ho2.out]
              simp [textB, Lib.byteCells]
            show Lib.IsBuilderF 67 5 w.heap.size w.heap.size (Lib.byteCells (textB (l.take (k + 1)))) w13
            rw [h2]
            exact .inr h1
          clear hbu hb13 hok13 hbuf hall HNB HB HFr HL12 HB12 hadd
          go_wp2_with fail
          go_roundw
          case rel => exact ⟨k + 1, by omega, by go_num, hall13, HFr13, HNB13, HB13⟩
          case measure => simp [RowKit.intOf]; omega
    · obtain rfl : k = l.length := by omega
      go_wp2_with fail
      refine (Tryz.Builder_String_any_f w.heap.size w.heap.size _ wr HNB.out HB.out.size).mono ?_
      rintro e w14 ⟨rfl, _, hb14⟩
      have HB14 := Lib.hid (HB.out.trans hb14)
      clear hb14
      go_wp2_with fail
      refine bodyPost_ret (results_tmp2 rfl _ _ _) rfl ?_
      have h1 := hall.out
      rw [List.take_of_length_le (Nat.le_refl _)] at h1
      refine ⟨?_, HB14.out⟩
      rw [if_pos h1, if_pos h1]
      rfl
end Go.Proofs.YtohighedgdlflaaGreatDoor

/- known (9): the document's first example holds. -/
namespace Go.Proofs.YtohighedgdlflaaGreatDoor
open Go.Shelf Go.RowKit Go.Sort Go.Lib Go.Proofs.YtohighedgdlflaaGreatDoorW.PrintWords Go.Proofs.YtohighedgdlflaaGreatDoor.PR
set_option linter.unusedVariables false
set_option linter.unusedSimpArgs false
def kS : ByteArray := ⟨#[53, 32, 32, 50, 32, 99, 108, 111, 99, 107, 32, 48, 48, 48, 48, 48, 48, 48, 48, 32, 48, 48, 48, 48, 48, 48, 48, 49, 48, 48, 48, 48, 48, 48, 48, 53, 32]⟩
def kL : ByteArray := ⟨#[51, 55, 32, 49, 32, 108, 111, 97, 100, 32, 48, 48, 48, 48, 48, 48, 49, 48, 32, 48, 48, 48, 48, 49, 48, 48, 48, 32, 48, 48, 48, 48, 48, 48, 50, 97, 10]⟩
theorem ba_ext {a b : ByteArray} (h : a.data.toList = b.data.toList) : a = b := by
  apply ByteArray.ext
  exact Array.toList_inj.1 h
theorem map_ba {xs ys : List ByteArray} (h : xs.map (·.data.toList) = ys.map (·.data.toList)) : xs = ys := by
  induction xs generalizing ys with
  | nil => cases ys with
    | nil => rfl
    | cons y ys => simp at h
  | cons x xs ih => cases ys with
    | nil => simp at h
    | cons y ys =>
      simp only [List.map_cons, List.cons.injEq] at h
      rw [ba_ext h.1, ih h.2]
theorem dec1 (n : Nat) (h : n < 10) : decS n = ⟨#[UInt8.ofNat (48 + n)]⟩ := by
  unfold decS; rw [Lib.decDigits_one h]
theorem emp_eq (x : ByteArray) : emp x = decide (x = ⟨#[]⟩) := (decide_eq_emptyBytes x).symm
theorem kPieces : pieces kS = [kS] := map_ba (by
  show (Lib.splitB ⟨#[10]⟩ 0 (Lib.countB kS ⟨#[10]⟩) kS).map (·.data.toList) = _
  rw [splitB_splitC]; decide)
theorem kCut : cutB kS = [⟨#[53]⟩, ⟨#[]⟩, ⟨#[50]⟩, ⟨#[99, 108, 111, 99, 107]⟩, ⟨#[48, 48, 48, 48, 48, 48, 48, 48]⟩, ⟨#[48, 48, 48, 48, 48, 48, 48, 49, 48, 48, 48, 48, 48, 48, 48, 53]⟩, ⟨#[]⟩] := map_ba (by
  show (Lib.splitB ⟨#[32]⟩ 0 (Lib.countB kS ⟨#[32]⟩) kS).map (·.data.toList) = _
  rw [splitB_splitC]; decide)
theorem hex0 : hexS 0 = ⟨#[48, 48, 48, 48, 48, 48, 48, 48]⟩ := ba_ext (by decide)
theorem hex15 : hexS 1 ++ hexS 5 = ⟨#[48, 48, 48, 48, 48, 48, 48, 49, 48, 48, 48, 48, 48, 48, 48, 53]⟩ := ba_ext (by
  rw [ByteArray.data_append, Array.toList_append]; decide)
theorem kWords : wordsB kS = wordsN 5 2 5 0 5 1 := by
  unfold wordsB wordsN writeN
  rw [kCut, dec1 5 (by decide), dec1 2 (by decide), hex0, hex15]
  simp only [emp_eq]
  decide
theorem kGood : GoodN 5 2 5 0 5 1 := ⟨by decide, by decide, by decide, by decide, by decide, by decide, by decide, by decide, by decide, by decide, by decide, by decide, by decide⟩
theorem kText : textS [obN 37 1 1 16 4096 42] = kL := ba_ext (by
  have h37 : Lib.decDigits 37 = [51, 55] := by rw [Lib.decDigits_two (by decide) (by decide)]; rfl
  simp only [textS, textB, List.flatMap_cons, List.flatMap_nil, lineB_obN, lineZ, wordsN, writeN, decS, h37, Lib.decDigits_one (show 1 < 10 by decide)]
  decide)
theorem addr_add (g o i : Nat) : (⟨g, o, none⟩ : Addr).add i = ⟨g, o + i, none⟩ := by simp [Addr.add]
theorem cell_in {W : World} {g j q : Nat} {cs : Array Value} {fz : Nat × Nat} (h : W.heap[g]? = some (.cells cs q fz)) : W.cell? ⟨g, j, none⟩ = cs[j]? := by
  simp only [World.cell?, h]; rfl
theorem known_ok (m : Int) (w : World) (hT : PTab w) (hm : w.cell? ⟨2, 0, none⟩ = some (.int .i64 m)) :
    Calls Tryz.prog 9 #[] w fun e w' => e = .returned (.bool true) ∧ Below w.heap.size w w' := by
  have HT := Lib.hid hT
  have HM := Lib.hid hm
  have h2 : 2 < w.heap.size := World.block_lt_of_cell? _ _ hm
  clear hT hm
  go_enter Tryz.func9, Tryz.ntmps9
  go_wp2_with fail
  have hC : Kd.C k35 (w.alloc (.cells #[.int .u64 37, .int .i64 1, .int .i64 1, .int .u32 16, .int .u32 4096, .int .u32 42] 35)) (some ⟨w.heap.size, 0, none⟩) [obN 37 1 1 16 4096 42].length [obN 37 1 1 16 4096 42] := by
    refine ⟨rfl, by decide, fun _ => ⟨_, rfl, fun j p hj => ?_⟩⟩
    match j with
    | 0 =>
      obtain rfl : obN 37 1 1 16 4096 42 = p := Option.some.inj hj
      refine ⟨_, rfl, k35_mk _ _, fun i u hu => ?_⟩
      have hb := blk_new w (.cells #[.int .u64 37, .int .i64 1, .int .i64 1, .int .u32 16, .int .u32 4096, .int .u32 42] 35)
      rw [Nat.zero_mul, Nat.zero_add, addr_add, Nat.zero_add, cell_in hb]
      simpa [obN] using hu
    | j + 1 => simp at hj
  have hft : ∀ o ∈ [obN 37 1 1 16 4096 42], FitsT o := by
    intro o ho
    rw [List.mem_singleton] at ho
    subst ho
    exact ⟨⟨by decide, by decide, by decide, by decide, by decide, by decide⟩, by decide, by decide⟩
  have hba : Below w.heap.size w (w.alloc (.cells #[.int .u64 37, .int .i64 1, .int .i64 1, .int .u32 16, .int .u32 4096, .int .u32 42] 35)) := below_alloc (Below.refl _ _) _
  have htx := text_ok [obN 37 1 1 16 4096 42] (some ⟨w.heap.size, 0, none⟩) 1 _ (HT.out.below hba) hC hft (by decide)
  have hmay : [obN 37 1 1 16 4096 42].all mayB = true := by decide
  refine htx.mono ?_
  clear htx hC hft
  rintro e w1 ⟨rfl, hb1⟩
  rw [if_pos hmay, if_pos hmay, kText]
  unfold kL
  clear hmay
  have HB1 := Lib.hid (hba.trans (hb1.mono hba.size))
  clear hba hb1
  go_wp2_with fail
  have hps := parse_ok kS m [[obN 5 2 5 0 5 1]] w1 (by decide) (by rw [HB1.out.cell h2]; exact HM.out) (by rw [kPieces]; rfl) (by
    intro k x os hx ho
    rw [kPieces] at hx
    match k with
    | 0 =>
      obtain rfl : kS = x := Option.some.inj hx
      obtain rfl : [obN 5 2 5 0 5 1] = os := Option.some.inj ho
      exact .inr ⟨5, 2, 5, 0, 5, 1, kGood, kWords, rfl⟩
    | k + 1 => simp at hx) (by decide)
  refine hps.mono ?_
  clear hps
  rintro e w2 ⟨v, rfl, hr, hb⟩
  have HB2 := Lib.hid (HB1.out.trans (hb.mono HB1.out.size))
  obtain ⟨g, c, rfl, _, _, _⟩ := Kd.R_form hr (by decide)
  obtain ⟨_, _, hC⟩ := Kd.R_reads' hr
  obtain ⟨ad, had, c0, c1, c2, c3, c4, c5⟩ := at_T35 hC 0 (by decide) (by decide)
  have e35 : rd_T35 ([[obN 5 2 5 0 5 1]].flatten) 0 = obN 5 2 5 0 5 1 := rfl
  rw [e35] at c0 c1 c2 c3 c4 c5
  obtain rfl := Option.some.inj had
  simp only [obN, show Int.toNat 0 * 6 = 0 from rfl, addr_add, Nat.zero_add] at c0 c1 c2 c3 c4 c5
  clear hr hb HB1 hC
  go_wp2_with fail
  go_ret
  exact ⟨rfl, HB2.out⟩
end Go.Proofs.YtohighedgdlflaaGreatDoor

/- What the document's own writers of numbers give: decS and hexS. -/
namespace Go.Proofs.YtohighedgdlflaaGreatDoor
open Go.Shelf Go.RowKit Go.Sort Go.Lib Go.Proofs.YtohighedgdlflaaGreatDoorW.PrintWords Go.Proofs.YtohighedgdlflaaGreatDoor.PR
set_option linter.unusedVariables false
set_option linter.unusedSimpArgs false
theorem w64_small (n : Nat) (h : n < 9223372036854775808) : wrap64 (n : Int) = (n : Int) := by unfold wrap64; omega
theorem w64_succ (i : Nat) (h : i + 1 < 9223372036854775808) : wrap64 ((i : Int) + 1) = ((i + 1 : Nat) : Int) := by
  have := w64_small (i + 1) h
  rw [← this]; congr 1
end Go.Proofs.YtohighedgdlflaaGreatDoor

/- What the laws' own helpers give. -/
namespace Go.Proofs.YtohighedgdlflaaGreatDoor
open Go.Shelf Go.RowKit Go.Sort Go.Lib Go.Proofs.YtohighedgdlflaaGreatDoorW.PrintWords Go.Proofs.YtohighedgdlflaaGreatDoor.PR
set_option linter.unusedVariables false
set_option linter.unusedSimpArgs false
def mark0 : S35 := ⟨77, 0, -9, 0, 0, 0⟩
theorem twin_f (l : List S35) (h : l.length < 3518437208883) : cloisterlaw22_twin.f l = some l := by
  unfold cloisterlaw22_twin.f
  rw [if_pos (by simpa using h)]
  rfl
def lentL (l : List S35) : List S35 := l ++ List.replicate 8 mark0
def lentPre (l : List S35) (i : Nat) : List S35 := (lentL l).take i ++ List.replicate ((lentL l).length - i) z35
theorem lentPre_set (l : List S35) (i : Nat) (h : i < (lentL l).length) (x : S35) (hx : (lentL l)[i]? = some x) (y : S35) : ((lentPre l i).set i y).set i x = lentPre l (i + 1) := by
  rw [List.set_set]
  apply List.ext_getElem?
  intro j
  have hl : ((lentL l).take i).length = i := by rw [List.length_take]; omega
  unfold lentPre
  rw [List.getElem?_set]
  by_cases hj : i = j
  · subst hj
    rw [if_pos rfl, if_pos (by simp; omega), List.getElem?_append_left (by rw [List.length_take]; omega), List.getElem?_take_of_lt (by omega), hx]
  · rw [if_neg hj]
    rcases Nat.lt_or_ge j i with hlt | hge
    · rw [List.getElem?_append_left (by omega), List.getElem?_append_left (by rw [List.length_take]; omega), List.getElem?_take_of_lt hlt, List.getElem?_take_of_lt (by omega)]
    · rw [List.getElem?_append_right (by omega), List.getElem?_append_right (by rw [List.length_take]; omega), hl, List.length_take, List.getElem?_replicate, List.getElem?_replicate]
      have e : min (i + 1) (lentL l).length = i + 1 := by omega
      rw [e]
      by_cases h2 : j < (lentL l).length
      · rw [if_pos (by omega), if_pos (by omega)]
      · rw [if_neg (by omega), if_neg (by omega)]
theorem lentPre_set1 (l : List S35) (i : Nat) (h : i < (lentL l).length) (x : S35) (hx : (lentL l)[i]? = some x) : (lentPre l i).set i x = lentPre l (i + 1) := by
  have := lentPre_set l i h x hx x
  rwa [List.set_set] at this
theorem lentPre_len (l : List S35) (i : Nat) (h : i ≤ (lentL l).length) : (lentPre l i).length = (lentL l).length := by
  unfold lentPre; rw [List.length_append, List.length_take, List.length_replicate]; omega
theorem lentL_len (l : List S35) : (lentL l).length = l.length + 8 := by simp [lentL]
theorem lent_l (l : List S35) (hl : l.length < 1000000000) : ∀ j : Nat, j ≤ (lentL l).length → cloisterlaw22_lent.l0 (j + 1) l (lentPre l ((lentL l).length - j)) (((lentL l).length - j : Nat) : Int) = some (lentL l)
  | 0, _ => by
    have hn := lentPre_len l (lentL l).length (Nat.le_refl _)
    rw [Nat.sub_zero, cloisterlaw22_lent.l0, if_neg (by rw [hn]; omega)]
    unfold lentPre
    rw [List.take_length, Nat.sub_self]; simp
  | j + 1, hj => by
    have ih := lent_l l hl j (by omega)
    obtain ⟨i, hi⟩ : ∃ i, i = (lentL l).length - (j + 1) := ⟨_, rfl⟩
    have e8 : (lentL l).length - j = i + 1 := by omega
    rw [e8] at ih
    rw [← hi]
    have hn := lentPre_len l i (by omega)
    have hm : cloisterlaw22_mark.f 0 = some (77, 0, -9, 0, 0, 0) := by unfold cloisterlaw22_mark.f wrap64; rfl
    have hL := lentL_len l
    rw [cloisterlaw22_lent.l0, if_pos (by rw [hn]; omega), hm, Option.bind_some, if_pos (by omega), Option.bind_some, w64_succ i (by omega)]
    simp only [Int.toNat_natCast]
    by_cases h : i < l.length
    · rw [if_pos (by omega)]
      have hx : (lentL l)[i]? = some (rd_T35 l i) := by
        unfold lentL rd_T35
        rw [List.getElem?_append_left h, Int.toNat_natCast, List.getD_eq_getElem?_getD, List.getElem?_eq_getElem h]; rfl
      rw [lentPre_set l i (by omega) _ hx]
      exact ih
    · rw [if_neg (by omega)]
      have hx : (lentL l)[i]? = some mark0 := by
        unfold lentL
        rw [List.getElem?_append_right (by omega), List.getElem?_replicate, if_pos (by omega)]
      have := lentPre_set1 l i (by omega) _ hx
      unfold mark0 at this
      rw [this]
      exact ih
theorem lent_f (l : List S35) (hl : l.length < 1000000000) : ∃ k, cloisterlaw22_lent.f k l = some (lentL l) := by
  have h := lent_l l hl (lentL l).length (Nat.le_refl _)
  have hL := lentL_len l
  have e : wrap64 ((l.length : Int) + 8) = (((lentL l).length : Nat) : Int) := by
    rw [hL]
    have := w64_small (l.length + 8) (by omega)
    rw [← this]; congr 1
  refine ⟨(lentL l).length + 1, ?_⟩
  unfold cloisterlaw22_lent.f
  rw [e, if_pos (by omega), if_pos (by omega), Int.toNat_natCast]
  rw [Nat.sub_self] at h
  have e2 : lentPre l 0 = List.replicate (lentL l).length z35 := by simp [lentPre]
  rw [e2] at h
  exact h
/-- twin (10). -/
theorem twin_ok (A : Option Addr) (c : Nat) (l : List S35) (w : World) (hr : Kd.C k35 w A l.length l) (hc : l.length ≤ c) (hl : l.length < 1000000000) :
    Calls Tryz.prog 10 #[.slice A l.length c] w fun e w' => ∃ v, e = .returned v ∧ Kd.R k35 35 w' w.heap.size (fun _ => True) v l ∧ Below w.heap.size w w' :=
  cloisterlaw22_twin.calls A c l l w hr hc (twin_f l (by omega))
/-- lent (12). -/
theorem lent_ok (A : Option Addr) (c : Nat) (l : List S35) (w : World) (hr : Kd.C k35 w A l.length l) (hc : l.length ≤ c) (hl : l.length < 1000000000) :
    Calls Tryz.prog 12 #[.slice A l.length c] w fun e w' => ∃ v, e = .returned v ∧ Kd.R k35 35 w' w.heap.size (fun _ => True) v (lentL l) ∧ Below w.heap.size w w' := by
  obtain ⟨k, hk⟩ := lent_f l hl
  exact cloisterlaw22_lent.calls k A c l _ w hr hc hk
end Go.Proofs.YtohighedgdlflaaGreatDoor

/- kept (14) at lent ones that nobody wrote. -/
namespace Go.Proofs.YtohighedgdlflaaGreatDoor
open Go.Shelf Go.RowKit Go.Sort Go.Lib Go.Proofs.YtohighedgdlflaaGreatDoorW.PrintWords Go.Proofs.YtohighedgdlflaaGreatDoor.PR
set_option linter.unusedVariables false
set_option linter.unusedSimpArgs false
theorem rd_left (l m : List S35) (i : Nat) (h : i < l.length) : rd_T35 (l ++ m) i = rd_T35 l i := by
  unfold rd_T35
  simp only [Int.toNat_natCast, List.getD_eq_getElem?_getD]
  rw [List.getElem?_append_left h]
theorem rd_mark (l : List S35) (i : Nat) (h : ¬ i < l.length) (h2 : i < (lentL l).length) : rd_T35 (lentL l) i = mark0 := by
  have hL := lentL_len l
  unfold rd_T35 lentL
  simp only [Int.toNat_natCast, List.getD_eq_getElem?_getD]
  rw [List.getElem?_append_right (by omega), List.getElem?_replicate, if_pos (by omega)]
  rfl
theorem kept_l (l : List S35) (hl : l.length < 1000000000) : ∀ j : Nat, j ≤ (lentL l).length → cloisterlaw22_kept.l0 (j + 1) (lentL l) l (((lentL l).length - j : Nat) : Int) = some true := by
  intro j
  have hL := lentL_len l
  have hw : wrap64 ((l.length : Int) + 8) = (((lentL l).length : Nat) : Int) := by rw [hL]; unfold wrap64; omega
  induction j with
  | zero =>
    intro _
    rw [cloisterlaw22_kept.l0, if_neg (by omega), hw]
    simp
  | succ j ih =>
    intro hj
    replace ih := ih (by omega)
    obtain ⟨i, hi⟩ : ∃ i, i = (lentL l).length - (j + 1) := ⟨_, rfl⟩
    have e8 : (lentL l).length - j = i + 1 := by omega
    rw [e8] at ih
    rw [← hi, cloisterlaw22_kept.l0, if_pos (by omega)]
    by_cases h : i < l.length
    · have hr : rd_T35 (lentL l) i = rd_T35 l i := rd_left l _ i h
      rw [if_pos (by omega), if_pos (by omega), hr, if_neg (by simp), if_neg (by omega), w64_succ i (by omega)]
      exact ih
    · have hm : cloisterlaw22_mark.f 0 = some (77, 0, -9, 0, 0, 0) := by unfold cloisterlaw22_mark.f wrap64; rfl
      have hr := rd_mark l i h (by omega)
      rw [if_neg (by omega), if_pos (by omega), if_pos (by omega), hm, Option.bind_some, hr, if_neg (by simp [mark0]), w64_succ i (by omega)]
      exact ih
theorem kept_f (l : List S35) (hl : l.length < 1000000000) : cloisterlaw22_kept.f ((lentL l).length + 1) (lentL l) l = some true := by
  have h := kept_l l hl (lentL l).length (Nat.le_refl _)
  rw [Nat.sub_self] at h
  exact h
theorem kept_ok (A B : Option Addr) (c d : Nat) (l : List S35) (w : World) (hr : Kd.C k35 w A (lentL l).length (lentL l)) (hc : (lentL l).length ≤ c) (hs : Kd.C k35 w B l.length l) (hd : l.length ≤ d) (hl : l.length < 1000000000) :
    Calls Tryz.prog 14 #[.slice A (lentL l).length c, .slice B l.length d] w fun e w' => e = .returned (.bool true) ∧ Below w.heap.size w w' :=
  cloisterlaw22_kept.calls _ A c (lentL l) B d l true w hr hc hs hd (kept_f l hl)
end Go.Proofs.YtohighedgdlflaaGreatDoor
