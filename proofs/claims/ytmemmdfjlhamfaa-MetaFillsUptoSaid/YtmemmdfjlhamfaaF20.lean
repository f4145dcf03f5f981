/- The laws of layer 2. -/
import Derived.Test.YtmemmdfjlhamfaaF19
import Derived.Test.YtmemmdfjlhamfaaT0
set_option linter.unusedSimpArgs false
set_option linter.unusedVariables false
set_option maxRecDepth 100000
namespace Go.Proofs.Ytmemmdfjlhamfaa
open Go.Proofs
attribute [go_sem] List.head?_cons
def w1 : Tm := .mk 3 0 [.mk 4 1 []]
def w3 : Tm := .mk 3 0 [.mk 4 3 []]
theorem w1_up0 : upT w1 2 0 = w3 := by simp [w1, w3, upT, mapT, gUp, bnd, Tm.kind, Tm.args, List.range, List.range.loop]
theorem w1_up1 : upT w1 2 1 = w1 := by simp [w1, upT, mapT, gUp, bnd, Tm.kind, Tm.args, List.range, List.range.loop]
theorem w1_dn : dnB w1 1 0 = false := by simp [w1, dnB, canB, pDn, bnd, Tm.kind, Tm.args, allB]
theorem w1_size : w1.size = 2 := by simp [w1, Tm.size]
theorem w1_may : mayB w1 = true := by
  have : w1.depth = 2 := by simp [w1, Tm.depth]
  simp [mayB, w1_size, this]
  simp [w1, nodesB, allB, nodeOk, Tm.kind, Tm.head, Tm.args]
theorem w1_low : vlowB w1 = true := by simp [w1, vlowB, vleB, canB, allB, bnd, Tm.kind, Tm.args]
theorem v_enc (h : Int) : Dv.agg [.int .i64 4, .int .i64 h, .slc []] = enc (.mk 4 h []) := by rw [enc_mk]; rfl
theorem w1_enc : Dv.agg [.int .i64 3, .int .i64 0, .slc [enc (.mk 4 1 [])]] = enc w1 := by simp [w1, enc_mk, encs]
theorem w1_fold : Dv.agg [.int .i64 w1.kind, .int .i64 w1.head, .slc [enc (.mk 4 1 [])]] = enc w1 := w1_enc
theorem light_low {t : Tm} {s d : Int} (h : lightB t s d = true) : lowB t = true := by
  unfold lightB at h
  simp only [Bool.and_eq_true] at h
  exact h.1.1
theorem calm_of {c : Int} (hc : c ≤ 4503599627370496) : ∀ (t : Tm) (n : Int), 0 ≤ n → n + t.size ≤ 4000000000000000000 → nodesB t = true → hleB c t = true → ∀ q ∈ pre t n, calm q := by
  refine Tm.ind fun t ih n h1 h2 hn hl => pre_ind ?_ fun i hi p hp => ?_
  · have h3 := node_head (node_here hn)
    rw [hleB_iff] at hl
    have h4 := hl.1
    intro hk
    show _ ∧ _
    constructor <;> simp only <;> omega
  · have h3 := size_arg (arg_mem hi)
    have h4 := bnd_le t i
    rw [hleB_iff] at hl
    exact ih _ (arg_mem hi) (n + bnd t i) (by omega) (by omega) (node_args hn i hi) (hl.2 i hi) p hp
theorem ren_of {t : Tm} {b f : Int} (hm : mayB t = true) (h1 : 0 ≤ b) (h2 : b ≤ 1048576) (h3 : 0 ≤ f) (h4 : f ≤ 1048576) : renB t b f = true := by
  simp [renB, hm, h1, h2, h3, h4]
end Go.Proofs.Ytmemmdfjlhamfaa
