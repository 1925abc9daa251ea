/- InplacePlays holds: whoever is at a record, in whatever order their moves come, program and document answer alike; no conditions. (part 4 of 4 of its proof.) -/
import Derived.Test.YtlgebknbfchnlaaKPl3
import Derived.Outline
import Derived.Test.YtlgebknbfchnlaaWWords
import Derived.Deep.Slices
import Derived.ChangeArms
import Derived.WideShapes
import Derived.Test.YtlgebknbfchnlaaRows
import Derived.WalkKit
import Derived.ProofKit
import Derived.OpenShut
import Derived.ShutString
import Derived.ChangeOld
import Derived.Below
import Derived.SizedLaws

/- law18's InplacePlays: its walk. -/
namespace Go.Proofs.Ytlgebknbfchnlaa
open Go Go.RowKit Go.Hay Go.Proofs.YtlgebknbfchnlaaW.PrintWords

/-- The state at a round's head. -/
def AtRound (w0 w : World) (n sp b cp L : Nat) (v vw vr vm : Value) (ws rs : List (Option Nat)) : Prop := ∃ ce P, St w0 w n sp b cp vw vr vm ws rs ce P ce (P.map (·.m)) ∧ P.length = L ∧ ce.v = v

theorem ints_cell {k : IntKind} {w : World} {A : Option Addr} {n : Nat} {l : List Int} (h : (Kd.int k).C w A n l) {j : Nat} (hj : j < n) : ∃ ad, A = some ad ∧ w.cell? (ad.add j) = some (.int k (l.getD j 0)) := by
  obtain ⟨ad, c, hA, _, hk, hc⟩ := ReadsRow.get_ h 0 (j : Int) (by omega) (by omega)
  refine ⟨ad, hA, ?_⟩
  have e : c = [Value.int k (l.getD j 0)] := hk
  subst e
  have h2 := hc 0 _ rfl
  rw [show (j : Int).toNat * (Kd.int k).sz + 0 = j from Nat.mul_one j] at h2
  exact h2

set_option maxRecDepth 100000 in
set_option maxHeartbeats 4000000 in
theorem plays_ok (s : ByteArray) (A : Option Addr) (na ca : Nat) (acts : List Act18) (Am : Option Addr) (nm cm : Nat) (mv : List Int) (w : World) (hl : actK.C w A na acts) (hU : ∀ a ∈ acts, U64 a.2.2) (hmv : (Kd.int .u8).C w Am nm mv) (hR : ∀ x ∈ mv, 0 ≤ x ∧ x ≤ 255) :
    Calls Try.prog 5 #[.string s, .slice A na ca, .slice Am nm cm] w fun e w' => e = .returned (.bool true) ∧ Keep [] w w' := by
  have HA := Hid.mk (awake_ok w)
  by_cases hs : s.size ≤ 128
  · have HO := Hid.mk (fun W (hW : Keep [] w W) => open_ok s A na ca acts W (Kd.C_below hl hW.below) hs hU)
    have hn : (wordsL s).length = (s.size + 7) / 8 := by rw [wordsL_length]; rfl
    generalize wordsL s = l at *
    have Hn := Hid.mk hn
    have Hmv := Hid.mk hmv
    have HR := Hid.mk hR
    clear hn hl hU hR
    have hnm : nm ≤ 9223372036854775807 := hmv.2.1
    clear hmv
    go_enter Try.func5, Try.ntmps5
    go_wp2_with (first
      | (go_at_call 9; refine HA.out.mono ?_; rintro e w1 ⟨rfl, hk1⟩)
      | (go_at_call 19; refine (HO.out w1 hk1).mono ?_; rintro e w2 ⟨sp, rfl, hop⟩))
    obtain ⟨b, cp, v, vw, vr, vm, P0, hSt, -, -⟩ := hop.st Hn.out
    clear hop
    generalize hws : P0.map Pl.wp = ws at hSt
    generalize hrs : P0.map Pl.rp = rs at hSt
    clear hws hrs
    obtain ⟨⟨Aw, cw, rfl⟩, ⟨Ar, cr, rfl⟩, ⟨Ak, ck, rfl⟩⟩ := hSt.slices0
    have h6 : P0.length ≤ 6 := by have := hSt.six; simpa using this
    have hlv : ∃ Ac cc, v = .slice Ac l.length cc := by
      obtain ⟨Ac, cc, h1, _⟩ := (hSt.doc.1).row.reads
      exact ⟨Ac, cc, h1⟩
    obtain ⟨Ac, cc, rfl⟩ := hlv
    rw [List.length_map] at hSt
    generalize hL : P0.length = L at *
    have HS0 : Hid (AtRound w1 w2 s.size sp b cp L (.slice Ac l.length cc) (.slice Aw L cw) (.slice Ar L cr) (.slice Ak L ck) ws rs) := ⟨_, P0, hSt, hL, rfl⟩
    clear hSt hL
    by_cases h0 : L = 0
    · subst h0
      go_loopw [9] (fun iv wr => iv = .int .i64 0 ∧ AtRound w1 wr s.size sp b cp 0 (.slice Ac l.length cc) (.slice Aw 0 cw) (.slice Ar 0 cr) (.slice Ak 0 ck) ws rs) (fun _ _ => 0)
      case atStart => exact ⟨rfl, HS0.out⟩
      case round =>
        obtain ⟨rfl, ce, P, hS, -, -⟩ := hrel
        have hsc := hS.scene.cell
        by_cases hm0 : 0 < nm
        all_goals
          go_wp2_with fail
          go_ret
          exact ⟨rfl, hk1.trans hS.keep (by simp)⟩
    · have h0 : 0 < L := by omega
      go_loopw [9] (fun iv wr => ∃ k : Nat, k ≤ nm ∧ k ≤ 300 ∧ iv = .int .i64 k ∧ AtRound w1 wr s.size sp b cp L (.slice Ac l.length cc) (.slice Aw L cw) (.slice Ar L cr) (.slice Ak L ck) ws rs) (fun iv _ => nm - (intOf iv).toNat)
      case atStart => exact ⟨0, Nat.zero_le _, by omega, rfl, HS0.out⟩
      case round =>
        obtain ⟨k, hk, hk3, rfl, ce, P, hS, hPL, hcv⟩ := hrel
        have hsc := hS.scene.cell
        by_cases hlt : k < nm
        · by_cases hl3 : k < 300
          · obtain ⟨⟨gw, c1, e1⟩, ⟨gr, c2, e2⟩, ⟨gk, c3, e3⟩⟩ := hS.slices (by rw [List.length_map, hPL]; exact h0)
            obtain rfl := slice_inj e1
            obtain rfl := slice_inj e2
            obtain rfl := slice_inj e3
            clear e1 e2 e3
            obtain ⟨adm, rfl, hcx⟩ := ints_cell (Kd.C_below Hmv.out (hk1.trans hS.keep (by simp)).below) hlt
            have hx := HR.out (mv.getD k 0) (getD_mem (by rw [Hmv.out.1]; exact hlt))
            generalize mv.getD k 0 = x at hcx hx
            obtain ⟨hx0, hx1⟩ := hx
            obtain ⟨j, hj⟩ : ∃ j : Nat, x % (L : Int) = (j : Int) := ⟨(x % (L : Int)).toNat, by have := Int.emod_nonneg x (show (L : Int) ≠ 0 by omega); omega⟩
            have hjL : j < L := by have := Int.emod_lt_of_pos x (show (0 : Int) < (L : Int) by omega); omega
            obtain ⟨p, hp⟩ : ∃ p, P[j]? = some p := ⟨_, List.getElem?_eq_getElem (by omega)⟩
            obtain ⟨hfit, hcl, hrd⟩ := hS.fit hp
            have hlc : ce.l.length = l.length := by
              obtain ⟨A', c', h1, _⟩ := (hS.doc.1).row.reads
              rw [hcv] at h1
              injection h1 with _ h1 _
              exact h1.symm
            have HMv := Hid.mk (fun W hW => st_move2 (w := W) (ce := ce) (sp := sp) (n := s.size) (w0 := w1) (b := b) (cp := cp) (vw := .slice (some ⟨gw, 0, none⟩) L cw) (vr := .slice (some ⟨gr, 0, none⟩) L cr) (vm := .slice (some ⟨gk, 0, none⟩) L ck) (ws := ws) (rs := rs) (ch := ce) (M := P.map (·.m)) hp hW)
            have HD := Hid.mk (fun W q hq hW => st_doc2 (w := W) (ce := ce) (sp := sp) (n := s.size) (w0 := w1) (b := b) (cp := cp) (vw := .slice (some ⟨gw, 0, none⟩) L cw) (vr := .slice (some ⟨gr, 0, none⟩) L cr) (vm := .slice (some ⟨gk, 0, none⟩) L ck) (ws := ws) (rs := rs) (q := q) hp hfit hcl hq hW)
            have hcv' := (step_v p.m ce).1
            have hmp' := (kstep_fp p.m ce).2.1
            have hmj : (P.map (·.m))[j]? = some p.m := by rw [List.getElem?_map, hp]; rfl
            generalize hce' : (p.m.step ce).2.2 = ce' at *
            generalize hm' : (p.m.step ce).2.1 = m' at *
            generalize (p.m.step ce).1 = vv at *
            rw [hcv] at hcv'
            rw [hlc] at hcl
            clear hce' hm' hfit
            have HJ := Hid.mk hj
            have HCL := Hid.mk hcl
            have HLC := Hid.mk hlc
            have HCV := Hid.mk hcv
            have HCV' := Hid.mk hcv'
            have HMP := Hid.mk hmp'
            have HMJ := Hid.mk hmj
            have HPL := Hid.mk hPL
            have HP := Hid.mk hp
            have HRD := Hid.mk hrd
            have hjP : j < P.length := by omega
            clear hcl hlc hcv hcv' hmp' hmj hPL hp hrd
            go_wp2_with fail
            go_quiet (fail)
            go_upto_region 13 with ((go_at_call 21; refine (HMv.out _ (hS.drewN _)).mono ?_; rintro e w4 ⟨rfl, q, hqr, hqm, hS4⟩; have HQR := Hid.mk hqr; have HQM := Hid.mk hqm; clear hqr hqm))
            have hF0 := (hS4.drew).held HCV.out HMJ.out rfl
            have HD0 := Hid.mk (HD.out w4.drew q HQM.out hS4.drew)
            have HF2 := Hid.mk (fun (W : World) lv gv (h : St w1 W s.size sp b cp (.slice (some ⟨gw, 0, none⟩) L cw) (.slice (some ⟨gr, 0, none⟩) L cr) (.slice (some ⟨gk, 0, none⟩) L ck) ws rs ce' (P.set j (q.gh lv gv)) ce' ((P.set j (q.gh lv gv)).map (·.m))) => h.held (mp := p.m.p) HCV'.out (j := j) (m := (q.gh lv gv).m) (by rw [List.getElem?_map, List.getElem?_set_self hjP]; rfl) (by show q.m.p = p.m.p; rw [HQM.out]; exact HMP.out))
            have hJ0 : (j : Int) < (L : Int) := by omega
            go_region_held3 (fun w' => (w'.cell? ⟨sp, 4, none⟩ = some (.slice (some ⟨gk, 0, none⟩) L ck) ∧ w'.cell? ⟨sp, 1, none⟩ = some (.pointer (some ⟨cp, 0, none⟩))) ∧ (w'.cell? ⟨gk, j, none⟩ = some (.pointer (some ⟨p.m.p, 0, none⟩)) ∧ w'.cell? ⟨cp, 2, none⟩ = some (.slice Ac l.length cc)))
              (first | exact hF0 | exact hF2 | exact hF3 | exact hF5)
              (first
                | (go_at_call 23; refine HD0.out.mono ?_; rintro e w5 ⟨rfl, lv, gv, hS5⟩; have hF2 := HF2.out w5 lv gv hS5)
                | (go_at_call 22; refine (st_words hS5).mono ?_; rintro e w6 ⟨A6, c6, rfl, h6a, h6b, hk6⟩; have hS6 := hS5.kept hk6; have hF3 := HF2.out w6 lv gv hS6)
                | (go_at_call 24; refine (hS6.same HCV'.out HCL.out rfl h6a h6b).mono ?_; rintro e w7 ⟨rfl, m7, rfl⟩; have hS7 := hS6.drewN m7; have hF5 := HF2.out _ lv gv hS7))
            obtain ⟨P2, p2, hS8, hp2, hl2, hmp2⟩ : ∃ P2 p2, St w1 (w6.drewN m7) s.size sp b cp (.slice (some ⟨gw, 0, none⟩) L cw) (.slice (some ⟨gr, 0, none⟩) L cr) (.slice (some ⟨gk, 0, none⟩) L ck) ws rs ce' P2 ce' (P2.map (·.m)) ∧ P2[j]? = some p2 ∧ Hid (P2.length = L) ∧ Hid (p2.m.p = p.m.p) := ⟨_, _, hS7, List.getElem?_set_self hjP, Hid.mk (by simpa using HPL.out), Hid.mk (by show q.m.p = p.m.p; rw [HQM.out]; exact HMP.out)⟩
            clear HD0 HD HMv HF2 hF0 hF2 hF3 hF5 hS4 hS5 hS6 hS7 hS HQR HQM HRD HP HPL HMJ HMP hk6 h6a h6b hcx hsc
            generalize w6.drewN m7 = W at *
            have HP2 := Hid.mk hp2
            obtain ⟨v1, v2, v3, v4, v5, v6⟩ := hS8.view HCV'.out hp2
            obtain ⟨xb, -, hbuf, hsh, hpr⟩ := hS8.player hp2
            have hmb := v5.blk.cell
            rw [hmp2.out] at v4 hmb
            have HK1 := Hid.mk (fun W' (hk : Keep [] W W') => hmp2.out ▸ kholds_ok p2.m W' (v5.keep hk (by simp)))
            have HLd := Hid.mk (fun W' (hk : Keep [] W W') => (hS8.kept hk).load.1)
            obtain ⟨-, hc0, hc1⟩ := hS8.load
            obtain ⟨lk1, lk2, lk3, lk4⟩ := lk_hi (h := ce'.h) hc0 hc1
            generalize LK ce'.h ce'.c = lk at *
            have HS8 := Hid.mk hS8
            clear hS8
            by_cases hr2 : p2.isR = true
            · obtain ⟨hrdr, hsim⟩ := hpr.r hr2
              have e1 : encP p2.wp = .pointer none := by unfold Pl.wp; rw [if_pos hr2]; rfl
              have e2 : encP p2.rp = .pointer (some ⟨p2.rd.p, 0, none⟩) := by unfold Pl.rp; rw [if_pos hr2]; rfl
              rw [e1] at v2
              rw [e2] at v3
              have E1 := Hid.mk e1
              have E2 := Hid.mk e2
              clear e1 e2
              rw [hsim.reads] at hmb
              obtain ⟨hva, hvb⟩ := hsim.val_eq hsh.len hsh.n9
              have HV := Hid.mk (fun W' (hk : Keep [] W W') => rvalue_ok _ _ _ _ p2.rd W' (hrdr.keep hk (by simp)))
              have hjL2 : (j : Int) < (L : Int) := by omega
              cases hdn : p2.m.done
              · rw [hdn] at hmb
                rw [hva hdn] at HV
                clear hva hvb hdn hpr hrdr hsim hsh hbuf
                cases hce : ce'.h
                all_goals
                  rw [hce] at v6 lk1 lk2
                  first | (have lk1 := lk1 rfl; clear lk2) | (have lk2 := lk2 rfl; clear lk1)
                  have HCE := Hid.mk hce
                  clear hce
                  go_wp2_with (first
                    | (go_at_call 18; refine (HV.out W (Keep.refl [] W)).mono ?_; rintro e w8 ⟨rfl, rfl⟩)
                    | (go_at_call 16; refine (wholds_nil _).mono ?_; rintro e w8 ⟨rfl, rfl⟩)
                    | (go_at_call 27; refine (HLd.out _ (Keep.refl [] W)).mono ?_; rintro e w9 ⟨rfl, m9, rfl⟩))
                  go_roundw
                  case rel => exact ⟨k + 1, by omega, by omega, by go_num, ce', P2, HS8.out.drewN _, hl2.out, HCV'.out⟩
                  case measure => simp [intOf]; omega
              · rw [hdn] at hmb
                obtain ⟨kt, hkt⟩ := hvb hdn
                obtain ⟨Ag, cg, hgv, hlg, hCg, -⟩ := v5.grow.reads
                rw [hgv] at hmb
                have HT := Hid.mk (PInplacePlays.haycroftref18_Text.calls kt Ag cg p2.m.got s.size p2.rd.val W hCg hlg hkt)
                generalize p2.rd.val = rv at *
                clear hva hvb hdn hpr hrdr hsim hsh hbuf hkt hCg hlg hgv
                cases hce : ce'.h
                all_goals
                  rw [hce] at v6 lk1 lk2
                  first | (have lk1 := lk1 rfl; clear lk2) | (have lk2 := lk2 rfl; clear lk1)
                  have HCE := Hid.mk hce
                  clear hce
                  go_wp2_with (first
                    | (go_at_call 25; refine HT.out.mono ?_; rintro e w8 ⟨rfl, hb8⟩; have hk8 := Keep.of_below hb8 []; obtain ⟨x1, x2, x3, x4, x5, x6⟩ := (HS8.out.kept hk8).view HCV'.out HP2.out; rw [E1.out] at x2; rw [E2.out] at x3; rw [HCE.out] at x6; rw [hmp2.out] at x4)
                    | (go_at_call 18; refine (HV.out w8 hk8).mono ?_; rintro e w10 ⟨rfl, rfl⟩)
                    | (go_at_call 16; refine (wholds_nil _).mono ?_; rintro e w11 ⟨rfl, rfl⟩)
                    | (go_at_call 27; refine (HLd.out w8 hk8).mono ?_; rintro e w9 ⟨rfl, m9, rfl⟩))
                  go_roundw
                  case rel => exact ⟨k + 1, by omega, by omega, by go_num, ce', P2, (HS8.out.kept hk8).drewN _, hl2.out, HCV'.out⟩
                  case measure => simp [intOf]; omega
            · have hr2 : p2.isR = false := by simpa using hr2
              obtain ⟨hwr, hsim⟩ := hpr.w hr2
              have HH := Hid.mk hsim.holds_eq
              have e1 : encP p2.wp = .pointer (some ⟨p2.wr.p, 0, none⟩) := by unfold Pl.wp; rw [if_neg (by simp [hr2])]; rfl
              have e2 : encP p2.rp = .pointer none := by unfold Pl.rp; rw [if_neg (by simp [hr2])]; rfl
              rw [e1] at v2
              rw [e2] at v3
              clear e1 e2
              rw [hsim.reads] at hmb
              have HW1 := Hid.mk (fun m => Calls.of_eq (wholds_ok _ _ _ _ p2.wr (W.drewN m) (hwr.drewN m)))
              have HK2 := Hid.mk (fun m => Calls.of_eq (HK1.out (W.drewN m) ((Keep.refl [] W).drewN m)))
              rw [HH.out] at HW1
              have hjL2 : (j : Int) < (L : Int) := by omega
              clear hpr hwr hsim hsh hbuf HH
              generalize p2.m.holds = hh at *
              go_wp2_with fail
              go_quiet ((first | (go_at_call 16; exact Calls.quiet_of_same (HW1.out _)) | (go_at_call 26; exact Calls.quiet_of_same (HK2.out _))))
              cases hce : ce'.h
              all_goals
                rw [hce] at v6 lk1 lk2
                first | (have lk1 := lk1 rfl; clear lk2) | (have lk2 := lk2 rfl; clear lk1)
                have HCE := Hid.mk hce
                clear hce
                go_wp2_with ((go_at_call 27; refine (HLd.out _ ((Keep.refl [] W).drewN _)).mono ?_; rintro e w9 ⟨rfl, m9, rfl⟩))
                go_roundw
                case rel => exact ⟨k + 1, by omega, by omega, by go_num, ce', P2, HS8.out.drewN _, hl2.out, HCV'.out⟩
                case measure => simp [intOf]; omega
          · go_wp2_with fail
            go_ret
            exact ⟨rfl, hk1.trans hS.keep (by simp)⟩
        · go_wp2_with fail
          go_ret
          exact ⟨rfl, hk1.trans hS.keep (by simp)⟩
  · go_enter Try.func5, Try.ntmps5
    go_wp2_with ((go_at_call 9; refine HA.out.mono ?_; rintro e w1 ⟨rfl, hk1⟩))
    go_ret
    exact ⟨rfl, hk1⟩
end Go.Proofs.Ytlgebknbfchnlaa

/- Arguments opened by kinds: a datum that is read in memory, as a value of a kind (Kd). No program in sight. -/
namespace Go.Proofs.Ytlgebknbfchnlaa
open Go Go.RowKit Go.Hay Go.ChangeShapes Go.WideShapes Go.Deep Go.Proofs.YtlgebknbfchnlaaW.PrintWords

section
variable {H : Type} (enc : TypeId × Value → H) (P : Program) (w : World) (sp : Nat → Bool) (held : Bool)

/-- Whatever is read at this type is a value of this kind, and meets Ok. -/
def Opens {α : Type} (t : TypeId) (d : Kd α) (Ok : α → Prop) : Prop :=
  ∀ (n : Nat) (cs : List Value) (x : DataW H × List MemPlace), DataW.trod enc P w 0 sp held n t cs = some x → ∃ a, d.K w a cs ∧ Ok a
/-- .. of some fields in a row, from an offset on. -/
def OpensL {α : Type} (fs : List Field) (off : Nat) (d : Kd α) (Ok : α → Prop) : Prop :=
  ∀ (n : Nat) (cs : List Value), cs.length = d.sz → (∀ (i : Nat) (f : Field), fs[i]? = some f → ∃ y, DataW.trod enc P w 0 sp held n f.type ((cs.drop (f.offset - off)).take (P.cellsOf f.type)) = some y) → ∃ a, d.K w a cs ∧ Ok a
end

section
variable {H : Type} {enc : TypeId × Value → H} {P : Program} {w : World} {sp : Nat → Bool} {held : Bool} {α β : Type}

theorem opens_int {t : TypeId} {k : IntKind} (ht : P.underlying t = some (.int k)) : Opens enc P w sp held t (Kd.int k) (fun n => (Lit.int k n).wf = true) := by
  intro n cs x h
  obtain ⟨m, rfl, _, hw⟩ := DataW.trod_int ht h
  exact ⟨m, rfl, hw⟩
theorem opens_bool {t : TypeId} (ht : P.underlying t = some .bool) : Opens enc P w sp held t Kd.bool (fun _ => True) := by
  intro n cs x h
  obtain ⟨m, rfl, _⟩ := DataW.trod_bool ht h
  exact ⟨m, rfl, trivial⟩
theorem opens_string {t : TypeId} (ht : P.underlying t = some .string) : Opens enc P w sp held t Kd.string (fun s => s.size ≤ maxLen) := by
  intro n cs x h
  obtain ⟨s, rfl, _, hs⟩ := DataW.trod_string ht h
  exact ⟨s, rfl, hs⟩

/-- A slice's row. -/
theorem opens_row {t e : TypeId} {d : Kd α} {Ok : α → Prop} (ht : P.underlying t = some (.slice e)) (hc : P.cellsOf e = d.sz) (h : Opens enc P w sp held e d Ok) {n : Nat} {A : Option Addr} {len cap : Nat} {x : DataW H × List MemPlace}
    (hx : DataW.trod enc P w 0 sp held n t [.slice A len cap] = some x) : ∃ xs, d.C w A len xs ∧ (∀ a ∈ xs, Ok a) ∧ len ≤ cap ∧ cap ≤ maxLen := by
  rcases open_slice ht hx with ⟨hcs, _⟩ | ⟨a, l, c, m, n', D, Pl, hcs, hb, hl, hm, hmm, _, hi⟩
  · simp only [List.cons.injEq, and_true, Value.slice.injEq] at hcs
    obtain ⟨rfl, rfl, rfl⟩ := hcs
    exact ⟨[], ⟨rfl, by simp, fun h => absurd h (by simp)⟩, by simp, Nat.le_refl _, Nat.zero_le _⟩
  · simp only [List.cons.injEq, and_true, Value.slice.injEq] at hcs
    obtain ⟨rfl, rfl, rfl⟩ := hcs
    have hlm : len ≤ m := by rw [hmm]; split <;> omega
    have key : ∀ k, k ≤ len → ∃ xs : List α, xs.length = k ∧ ∀ (j : Nat) (p : α), xs[j]? = some p → Ok p ∧ ∃ c, c.length = d.sz ∧ d.K w p c ∧ ∀ i u, c[i]? = some u → w.cell? (a.add (j * d.sz + i)) = some u := by
      intro k
      induction k with
      | zero => intro _; exact ⟨[], rfl, fun j p h => by simp at h⟩
      | succ k ih =>
        intro hk
        obtain ⟨xs, hxl, hxs⟩ := ih (by omega)
        obtain ⟨cs', h1, h2⟩ := hi k (by omega)
        obtain ⟨q, hq, ho⟩ := h _ _ _ h2
        rw [hc] at h1
        obtain ⟨_, hcl, hat⟩ := World.cells?_some h1
        refine ⟨xs ++ [q], by simp [hxl], fun j p hj => ?_⟩
        rw [List.getElem?_append] at hj
        split at hj
        · exact hxs j p hj
        · have hlt := (List.getElem?_eq_some_iff.1 hj).1
          simp at hlt
          obtain rfl : j = xs.length := by omega
          simp at hj
          subst hj
          refine ⟨ho, cs', hcl, hq, fun i u hu => ?_⟩
          have := hat i (by have := (List.getElem?_eq_some_iff.1 hu).1; omega)
          rw [← Go.Deep.add_add, hxl, this, hu]
    obtain ⟨xs, hxl, hxs⟩ := key len (Nat.le_refl _)
    refine ⟨xs, ⟨hxl, by unfold maxLen at hm; omega, fun _ => ⟨a, rfl, fun j p hj => (hxs j p hj).2⟩⟩, fun p hp => ?_, hl, hm⟩
    obtain ⟨j, hj⟩ := List.getElem?_of_mem hp
    exact (hxs j p hj).1
theorem opens_slice {t e : TypeId} {d : Kd α} {Ok : α → Prop} (ht : P.underlying t = some (.slice e)) (hc : P.cellsOf e = d.sz) (h : Opens enc P w sp held e d Ok) : Opens enc P w sp held t (Kd.slice e d) (fun xs => ∀ a ∈ xs, Ok a) := by
  intro n cs x hx
  obtain ⟨A, l, c, rfl⟩ : ∃ A l c, cs = [.slice A l c] := by
    rcases open_slice ht hx with ⟨rfl, _⟩ | ⟨a, l, c, m, n', D, Pl, rfl, _⟩
    · exact ⟨_, _, _, rfl⟩
    · exact ⟨_, _, _, rfl⟩
  obtain ⟨xs, h1, h2, h3, _⟩ := opens_row ht hc h hx
  have hl := h1.1
  subst hl
  exact ⟨xs, ⟨A, c, rfl, h3, h1⟩, h2⟩

theorem opensL_one {f : Field} {off : Nat} {d : Kd α} {Ok : α → Prop} (ho : f.offset = off) (hc : P.cellsOf f.type = d.sz) (h : Opens enc P w sp held f.type d Ok) : OpensL enc P w sp held [f] off d Ok := by
  intro n cs hl hf
  obtain ⟨y, hy⟩ := hf 0 f rfl
  rw [ho, hc, Nat.sub_self, List.drop_zero, List.take_of_length_le (by omega)] at hy
  exact h _ _ _ hy
theorem opensL_cons {f : Field} {fs : List Field} {off : Nat} {d : Kd α} {d2 : Kd β} {Ok : α → Prop} {Ok2 : β → Prop} (ho : f.offset = off) (hc : P.cellsOf f.type = d.sz) (hge : ∀ g ∈ fs, off + d.sz ≤ g.offset) (h : Opens enc P w sp held f.type d Ok)
    (h2 : OpensL enc P w sp held fs (off + d.sz) d2 Ok2) : OpensL enc P w sp held (f :: fs) off (Kd.pair d d2) (fun p => Ok p.1 ∧ Ok2 p.2) := by
  intro n cs hl hf
  have hl' : cs.length = d.sz + d2.sz := hl
  obtain ⟨y, hy⟩ := hf 0 f rfl
  rw [ho, hc, Nat.sub_self, List.drop_zero] at hy
  obtain ⟨a, ha, hoa⟩ := h _ _ _ hy
  obtain ⟨b, hb, hob⟩ := h2 n (cs.drop d.sz) (by simp [hl']) (fun i g hg => by
    have hge' := hge g (List.mem_of_getElem? hg)
    obtain ⟨z, hz⟩ := hf (i + 1) g (by simpa using hg)
    rw [List.drop_drop, show d.sz + (g.offset - (off + d.sz)) = g.offset - off by omega]
    exact ⟨z, hz⟩)
  exact ⟨(a, b), ⟨cs.take d.sz, cs.drop d.sz, (List.take_append_drop _ _).symm, ha, hb⟩, hoa, hob⟩
theorem opens_struct {t : TypeId} {fs : Array Field} {d : Kd α} {Ok : α → Prop} (ht : P.underlying t = some (.struct fs)) (hc : P.cellsOf t = d.sz) (h : OpensL enc P w sp held fs.toList 0 d Ok) : Opens enc P w sp held t d Ok := by
  intro n cs x hx
  obtain ⟨xs, m, _, _, hcl, hxl, hf⟩ := DataW.trod_struct ht hx
  refine h m cs (by omega) (fun i f hi => ?_)
  have hi' : fs[i]? = some f := by simpa using hi
  have hlt : i < fs.size := (Array.getElem?_eq_some_iff.1 hi').1
  have := hf i f hi'
  rw [List.getElem?_eq_getElem (by omega)] at this
  exact ⟨_, by simpa using this⟩

/-- A struct that is handed over by value. -/
theorem opens_agg {t : TypeId} {fs : Array Field} {d : Kd α} {Ok : α → Prop} {r : Reach} {b0 : Nat} {v : Value} {dd : DataW H} {ps : List MemPlace} (ht : P.underlying t = some (.struct fs)) (h : Opens enc P w sp held t d Ok) (hv : Value.okWide P w r b0 t v) (hd : DataW.Trod enc P w 0 sp held t v dd ps) :
    ∃ (cs : List Value) (a : α), v = .agg cs.toArray ∧ d.K w a cs ∧ Ok a := by
  obtain ⟨cs, rfl, _⟩ := okWide_struct ht hv
  obtain ⟨n, hn⟩ := hd
  obtain ⟨a, ha, ho⟩ := h _ _ _ hn
  exact ⟨cs.toList, a, by simp, ha, ho⟩
/-- A slice that is handed over. -/
theorem opens_arg {t e : TypeId} {d : Kd α} {Ok : α → Prop} {r : Reach} {b0 : Nat} {v : Value} {dd : DataW H} {ps : List MemPlace} (ht : P.underlying t = some (.slice e)) (hc : P.cellsOf e = d.sz) (h : Opens enc P w sp held e d Ok) (hv : Value.okWide P w r b0 t v) (hd : DataW.Trod enc P w 0 sp held t v dd ps) :
    ∃ (A : Option Addr) (len cap : Nat) (xs : List α), v = .slice A len cap ∧ d.C w A len xs ∧ (∀ a ∈ xs, Ok a) ∧ len ≤ cap ∧ cap ≤ maxLen := by
  obtain ⟨A, len, cap, rfl⟩ := okWide_slice ht hv
  obtain ⟨n, hn⟩ := hd
  obtain ⟨xs, h1, h2, h3, h4⟩ := opens_row ht hc h hn
  exact ⟨A, len, cap, xs, rfl, h1, h2, h3, h4⟩
end
end Go.Proofs.Ytlgebknbfchnlaa

/- law12's acts, as they come in. -/
namespace Go.Proofs.Ytlgebknbfchnlaa
open Go Go.RowKit Go.Hay Go.Proofs.YtlgebknbfchnlaaW.PrintWords

/-- Kind, Page, A, N, Old, W, L. -/
abbrev Act12 := Int × (Int × (Int × (Int × (Int × (Int × List Int)))))
def act12K : Kd Act12 := Kd.pair (Kd.int .i64) (Kd.pair (Kd.int .i64) (Kd.pair (Kd.int .u64) (Kd.pair (Kd.int .i64) (Kd.pair (Kd.int .u64) (Kd.pair (Kd.int .u64) (Kd.slice 22 (Kd.int .u64)))))))
def I64 (x : Int) : Prop := -9223372036854775808 ≤ x ∧ x ≤ 9223372036854775807
/-- Each number is of its kind. -/
structure Act12.Ok (a : Act12) : Prop where
  kind : I64 a.1
  page : I64 a.2.1
  addr : U64 a.2.2.1
  n : I64 a.2.2.2.1
  old : U64 a.2.2.2.2.1
  now : U64 a.2.2.2.2.2.1
  l : ∀ x ∈ a.2.2.2.2.2.2, U64 x

theorem Opens.weaken {H : Type} {enc : TypeId × Value → H} {P : Program} {w : World} {sp : Nat → Bool} {held : Bool} {α : Type} {t : TypeId} {d : Kd α} {Ok Ok2 : α → Prop} (h : Opens enc P w sp held t d Ok) (hk : ∀ a, Ok a → Ok2 a) : Opens enc P w sp held t d Ok2 := by
  intro n cs x hx
  obtain ⟨a, h1, h2⟩ := h n cs x hx
  exact ⟨a, h1, hk a h2⟩
theorem opens_act12 {H : Type} {enc : TypeId × Value → H} {w : World} {sp : Nat → Bool} {held : Bool} : Opens enc Try.prog w sp held 76 act12K Act12.Ok :=
  (opens_struct Try.underlying76 (by kernel_rfl)
    (opensL_cons rfl (by kernel_rfl) (by decide) (opens_int Try.underlying3)
    (opensL_cons rfl (by kernel_rfl) (by decide) (opens_int Try.underlying3)
    (opensL_cons rfl (by kernel_rfl) (by decide) (opens_int Try.underlying22)
    (opensL_cons rfl (by kernel_rfl) (by decide) (opens_int Try.underlying3)
    (opensL_cons rfl (by kernel_rfl) (by decide) (opens_int Try.underlying22)
    (opensL_cons rfl (by kernel_rfl) (by decide) (opens_int Try.underlying22)
    (opensL_one rfl (by kernel_rfl) (opens_slice Try.underlying40 (by kernel_rfl) (opens_int Try.underlying22)))))))))).weaken
    fun a ⟨h1, h2, h3, h4, h5, h6, h7⟩ => ⟨wf_i64 h1, wf_i64 h2, wf_u64 h3, wf_i64 h4, wf_u64 h5, wf_u64 h6, fun x hx => wf_u64 (h7 x hx)⟩
end Go.Proofs.Ytlgebknbfchnlaa

/- law18's acts, as they come in. -/
namespace Go.Proofs.Ytlgebknbfchnlaa
open Go Go.RowKit Go.Hay Go.Proofs.YtlgebknbfchnlaaW.PrintWords

theorem opens_act18 {H : Type} {enc : TypeId × Value → H} {w : World} {sp : Nat → Bool} {held : Bool} : Opens enc Try.prog w sp held 44 actK (fun a => U64 a.2.2) :=
  (opens_struct Try.underlying44 (by kernel_rfl)
    (opensL_cons rfl (by kernel_rfl) (by decide) (opens_int Try.underlying3)
    (opensL_cons rfl (by kernel_rfl) (by decide) (opens_string Try.underlying9)
    (opensL_one rfl (by kernel_rfl) (opens_int Try.underlying22))))).weaken
    fun _ ⟨_, _, h3⟩ => wf_u64 h3
end Go.Proofs.Ytlgebknbfchnlaa

/- law18's InplacePlays: the walk in the row's words. -/
namespace Go.Proofs.Ytlgebknbfchnlaa
open Go Go.RowKit Go.Hay Go.Proofs.YtlgebknbfchnlaaW.PrintWords

theorem plays_row (s : ByteArray) (A : Option Addr) (na ca : Nat) (acts : List Act18) (Am : Option Addr) (nm cm : Nat) (mv : List Int) (w : World) (_hs : s.size ≤ maxLen) (hl : actK.C w A na acts) (hU : ∀ a ∈ acts, U64 a.2.2) (_l1 : na ≤ ca) (_m1 : ca ≤ maxLen) (hmv : (Kd.int .u8).C w Am nm mv) (hR : ∀ x ∈ mv, (Lit.int .u8 x).wf = true) (_l2 : nm ≤ cm) (_m2 : cm ≤ maxLen) :
    Calls Try.prog 5 #[.string s, .slice A na ca, .slice Am nm cm] w fun e w' => e = .returned (.bool true) ∧ Keep [] w w' :=
  plays_ok s A na ca acts Am nm cm mv w hl hU hmv (fun x hx => wf_u8 (hR x hx))
end Go.Proofs.Ytlgebknbfchnlaa

/- The statement InplacePlays holds: its row, from the walk. -/
namespace Go.Proofs.Ytlgebknbfchnlaa.inplacePlays
open Go.ChangeShapes Go.WideShapes Go.ChangeAt Go.RowKit Go.Hay
open Go.ChangeMaps (open_string shut_string)
set_option linter.unusedVariables false
theorem own : ownKnob Try.prog.godebug = none := by kernel_rfl
theorem laidOut : laidOutB Try.prog = true := by kernel_rfl
set_option maxRecDepth 100000 in
theorem lifted (os : Os) (started : os.Started) (H : Type) (enc : TypeId × Value → H) :
    ReturnsInHanded {} Try.checked os 5 .any (Rows.inplacePlaysSpec.pre6 enc Try.prog Try.f5 Rows.inplacePlaysRow.domain false) (Rows.inplacePlaysSpec.post enc Try.prog Try.f5 false true false false) := by
  refine returnsInHanded_of_change_sized (C := Try.checked) own started (by kernel_rfl) Try.func5
    (ChangeSpec.witness6 (enc := enc) (C := Try.checked) false ⟨#[], #[.string ByteArray.empty, .slice none 0 0, .slice none 0 0], []⟩ 8 (by kernel_rfl) (by kernel_rfl) (by kernel_rfl) (by kernel_rfl)) ?_
  intro W base args ds gs before hval0 hW hcnd hsz0 _
  have hsz : (DataW.weightsEach Try.prog (Try.f5.params.toList ++ Rows.inplacePlaysSpec.plain.varTypes Try.prog) (ds ++ gs)).all (· ≤ reachBytes) = true := hsz0
  have hval : ∀ (j : Nat) t v, Try.f5.params[j]? = some t → args[j]? = some v → Value.okWide Try.prog W .any base t v := hval0
  have hW' := hW
  obtain ⟨p, q, hA0, hV, rfl, hfz, hnd⟩ := hW
  have hA : DataW.TrodAll enc Try.prog W 0 (fun _ => true) true Try.f5.params.toList args.toList ds p := hA0
  rw [Try.params5] at hA hval hsz
  obtain ⟨v0, vs0, d0, ds0, p0, q0, hargs, rfl, rfl, h0, r0⟩ := trodAll_cons hA
  obtain ⟨v1, vs1, d1, ds1, p1, q1, rfl, rfl, rfl, h1, r1⟩ := trodAll_cons r0
  obtain ⟨v2, vs2, d2, ds2, p2, q2, rfl, rfl, rfl, h2, r2⟩ := trodAll_cons r1
  obtain ⟨rfl, rfl, rfl⟩ := trodAll_nil r2
  obtain rfl : args = #[v0, v1, v2] := by cases args; simp_all
  obtain ⟨rfl, rfl⟩ := trodVars_none hV
  obtain ⟨a0, rfl, rfl, rfl, y0⟩ := open_string Try.underlying9 (hval 0 9 v0 rfl rfl) h0
  have k1 := h1
  have lt1 : ∀ x ∈ p1, x.block < W.heap.size := by obtain ⟨m, hm⟩ := k1; exact DataW.trod_lt m _ _ _ hm
  obtain ⟨A1, len1, cap1, a1, rfl, K1, w1, l1, m1⟩ := opens_arg Try.underlying42 (by kernel_rfl) opens_act18 (hval 1 42 v1 rfl rfl) h1
  have k2 := h2
  have lt2 : ∀ x ∈ p2, x.block < W.heap.size := by obtain ⟨m, hm⟩ := k2; exact DataW.trod_lt m _ _ _ hm
  obtain ⟨A2, len2, cap2, a2, rfl, K2, w2, l2, m2⟩ := opens_arg Try.underlying41 (by kernel_rfl) (opens_int Try.underlying5) (hval 2 41 v2 rfl rfl) h2
  clear hA0 hval0 hsz0 hsz
  refine (plays_row a0 A1 len1 cap1 a1 A2 len2 cap2 a2 W y0 K1 w1 l1 m1 K2 w2 l2 m2).mono fun e W' ⟨he, kp⟩ => ?_
  have bel := kp.below
  subst he
  exact ⟨_, rfl, _, _, _, [], _, [], hW', trodAll_mk1 (shut_bool Try.underlying4 _), (trodAll_cons_mk (shut_string Try.underlying9 y0) (trodAll_cons_mk (Below.trod laidOut (by kernel_rfl) (of_decide_eq_true (by kernel_rfl)) k1 bel lt1) (trodAll_cons_mk (Below.trod laidOut (by kernel_rfl) (of_decide_eq_true (by kernel_rfl)) k2 bel lt2) trodAll_mk0))), rfl, bel.frame _, fun h => by cases h⟩
theorem over : Rows.inplacePlaysRow.holds Try.pinned (OpenSpec.ofChange Rows.inplacePlaysSpec) :=
  OpenClaim.holds_of_wide 5 Try.f5 rfl rfl rfl rfl rfl rfl rfl ⟨rfl, rfl, rfl, rfl, rfl⟩ rfl rfl rfl rfl rfl (by kernel_rfl) Try.func5 (by kernel_rfl)
    (of_decide_eq_true (by kernel_rfl)) (by unfold Func.isWrapper; first | (rw [if_pos (by decide +kernel)]; kernel_rfl) | (rw [if_neg (by decide +kernel)]; exact ⟨rfl, rfl⟩))
    (fun os started H enc _ => lifted os started H enc)
theorem proved : Rows.InplacePlaysSaid := over
end Go.Proofs.Ytlgebknbfchnlaa.inplacePlays
namespace Go.Proofs.Ytlgebknbfchnlaa
/-- The row, under a short name, for the claim. -/
theorem inplacePlays_holds : Rows.InplacePlaysSaid := inplacePlays.proved
#print axioms inplacePlays_holds
end Go.Proofs.Ytlgebknbfchnlaa
