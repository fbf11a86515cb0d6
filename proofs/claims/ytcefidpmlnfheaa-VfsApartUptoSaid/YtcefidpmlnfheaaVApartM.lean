/- One plain sentence: calls for two other files do not hang on one another, in the plain machine. Conditions: those that each states. -/
import Derived.Test.YtcefidpmlnfheaaVSure
set_option linter.all false
set_option linter.unusedSimpArgs false
set_option linter.unusedVariables false
set_option linter.unusedSectionVars false
namespace Go.Proofs.Ytcefidpmlnfheaa
open Go Go.Eng Go.Vfs
set_option maxRecDepth 100000

theorem srt_ext {a b : Files} (ha : Srt a) (hb : Srt b) (h : ∀ p, lkM a p = lkM b p) : a = b := by
  have nod : ∀ {l : Files}, Srt l → l.Nodup := fun {l} hl => List.Pairwise.of_map (·.1) (fun _ _ hne e => hne (by rw [e])) (hl.nodup)
  have mem : ∀ {l m : Files}, Srt l → (∀ p, lkM l p = lkM m p) → ∀ y ∈ l, y ∈ m := fun {l m} hl hh y hy => by
    obtain ⟨p, x⟩ := y
    have := mem_lk hl hy
    rw [hh p] at this
    exact lk_mem this
  refine List.Perm.eq_of_pairwise (le := fun y z : Str × MF => Op.bytesLess y.1 z.1 = true) (fun y z _ _ h1 h2 => ?_) (List.pairwise_map.1 ha) (List.pairwise_map.1 hb) ?_
  · have := less_trans h1 h2; rw [less_irrefl] at this; cases this
  · exact (List.perm_ext_iff_of_nodup (nod ha) (nod hb)).2 fun y => ⟨mem ha h y, mem hb (fun p => (h p).symm) y⟩

def pS : Str := [112]
def qS : Str := [113]
def rS : Str := [114]
theorem p_good : good pS = true := by decide +kernel
theorem q_good : good qS = true := by decide +kernel
theorem r_good : good rS = true := by decide +kernel

theorem alive_write {s : MS} (h : Alive s) (hl : s.files.length < 64) {p data : Str} (hg : good p = true) (hd : data.length ≤ 65536) :
    writeM s p data false = (⟨wth s.files p ⟨data, ((lkM s.files p).map (·.safe)).getD [], ((lkM s.files p).map (·.saved)).getD false⟩, IntKind.i64.wrap (s.steps + 1), -1, false⟩, 0) := by
  have hst : stepM s = (⟨s.files, IntKind.i64.wrap (s.steps + 1), -1, false⟩, 0) := by
    unfold stepM
    rw [if_neg (by rw [h.left, h.dead]; simp)]
    simp [h.left, h.dead]
  unfold writeM
  rw [if_neg (by rw [hg]; decide), if_neg (by rintro (h | h) <;> omega), if_neg (by simp), hst]
  simp
theorem alive_sync {s : MS} (h : Alive s) {p : Str} (hg : good p = true) {x : MF} (hx : lkM s.files p = some x) :
    syncM s p = (⟨wth s.files p ⟨x.data, x.data, true⟩, IntKind.i64.wrap (s.steps + 1), -1, false⟩, 0) := by
  have hst : stepM s = (⟨s.files, IntKind.i64.wrap (s.steps + 1), -1, false⟩, 0) := by
    unfold stepM
    rw [if_neg (by rw [h.left, h.dead]; simp)]
    simp [h.left, h.dead]
  unfold syncM
  rw [if_neg (by rw [hg]; decide), hx]
  simp [hst]
theorem alive_rename {s : MS} (h : Alive s) {p q : Str} (hg : good p = true) (hg2 : good q = true) {x : MF} (hx : lkM s.files p = some x) :
    renameM s p q = (⟨wth (wo s.files p) q x, IntKind.i64.wrap (s.steps + 1), -1, false⟩, 0) := by
  have hst : stepM s = (⟨s.files, IntKind.i64.wrap (s.steps + 1), -1, false⟩, 0) := by
    unfold stepM
    rw [if_neg (by rw [h.left, h.dead]; simp)]
    simp [h.left, h.dead]
  unfold renameM
  rw [if_neg (by rw [hg, hg2]; decide), hx]
  simp [hst]

/-- the two orders -/
theorem apart_way {s : MS} (hal : Alive s) (ho : Ok s) (hl : s.files.length ≤ 60) {a b : Str} (ha : a.length ≤ 1000) (hb : b.length ≤ 1000) :
    ∃ s1 s2 s3 t1 t2 t3 z : MS,
      writeM s pS a false = (s1, 0) ∧ syncM s1 pS = (s2, 0) ∧ writeM s2 qS b false = (s3, 0) ∧ renameM s3 qS rS = (z, 0) ∧
      writeM s qS b false = (t1, 0) ∧ renameM t1 qS rS = (t2, 0) ∧ writeM t2 pS a false = (t3, 0) ∧ syncM t3 pS = (z, 0) := by
  have hpq : pS ≠ qS := by decide
  have hpr : pS ≠ rS := by decide
  have hqr : qS ≠ rS := by decide
  have len1 : ∀ (l : Files) (p : Str) (x : MF), Srt l → (wth l p x).length ≤ l.length + 1 := fun l p x h => by rw [wth_len h]; split <;> omega
  have len0 : ∀ (l : Files) (p : Str), (wo l p).length ≤ l.length := fun l p => (wo_sub l p).length_le
  have e1 := alive_write hal (by omega) p_good (show a.length ≤ 65536 by omega)
  have f1 := alive_write hal (by omega) q_good (show b.length ≤ 65536 by omega)
  generalize hx1 : (⟨a, ((lkM s.files pS).map (·.safe)).getD [], ((lkM s.files pS).map (·.saved)).getD false⟩ : MF) = x1 at e1
  generalize hy1 : (⟨b, ((lkM s.files qS).map (·.safe)).getD [], ((lkM s.files qS).map (·.saved)).getD false⟩ : MF) = y1 at f1
  have hxd : x1.data = a := by rw [← hx1]
  have S1 : Srt (wth s.files pS x1) := wth_srt _ _ ho.srt
  have T1 : Srt (wth s.files qS y1) := wth_srt _ _ ho.srt
  have e2 := alive_sync (s := ⟨wth s.files pS x1, IntKind.i64.wrap (s.steps + 1), -1, false⟩) ⟨rfl, rfl⟩ p_good (x := x1) (by show lkM (wth s.files pS x1) pS = _; rw [lk_wth, if_pos rfl])
  rw [hxd] at e2
  have S2 : Srt (wth (wth s.files pS x1) pS ⟨a, a, true⟩) := wth_srt _ _ S1
  have l2 : (wth (wth s.files pS x1) pS ⟨a, a, true⟩).length ≤ 62 := by have := len1 _ pS ⟨a, a, true⟩ S1; have := len1 s.files pS x1 ho.srt; omega
  have e3 := alive_write (s := ⟨wth (wth s.files pS x1) pS ⟨a, a, true⟩, IntKind.i64.wrap (IntKind.i64.wrap (s.steps + 1) + 1), -1, false⟩) ⟨rfl, rfl⟩ (by show List.length (wth _ _ _) < 64; omega) q_good (show b.length ≤ 65536 by omega)
  have hq2 : lkM (wth (wth s.files pS x1) pS ⟨a, a, true⟩) qS = lkM s.files qS := by rw [lk_wth, if_neg (Ne.symm hpq), lk_wth, if_neg (Ne.symm hpq)]
  simp only [hq2, hy1] at e3
  have e4 := alive_rename (s := ⟨wth (wth (wth s.files pS x1) pS ⟨a, a, true⟩) qS y1, IntKind.i64.wrap (IntKind.i64.wrap (IntKind.i64.wrap (s.steps + 1) + 1) + 1), -1, false⟩) ⟨rfl, rfl⟩ q_good r_good (x := y1) (by show lkM (wth _ _ _) qS = _; rw [lk_wth, if_pos rfl])
  have f2 := alive_rename (s := ⟨wth s.files qS y1, IntKind.i64.wrap (s.steps + 1), -1, false⟩) ⟨rfl, rfl⟩ q_good r_good (x := y1) (by show lkM (wth _ _ _) qS = _; rw [lk_wth, if_pos rfl])
  have T2 : Srt (wth (wo (wth s.files qS y1) qS) rS y1) := wth_srt _ _ (wo_srt _ T1)
  have m2 : (wth (wo (wth s.files qS y1) qS) rS y1).length ≤ 62 := by have := len1 _ rS y1 (wo_srt qS T1); have := len0 (wth s.files qS y1) qS; have := len1 s.files qS y1 ho.srt; omega
  have f3 := alive_write (s := ⟨wth (wo (wth s.files qS y1) qS) rS y1, IntKind.i64.wrap (IntKind.i64.wrap (s.steps + 1) + 1), -1, false⟩) ⟨rfl, rfl⟩ (by show List.length (wth _ _ _) < 64; omega) p_good (show a.length ≤ 65536 by omega)
  have hp2 : lkM (wth (wo (wth s.files qS y1) qS) rS y1) pS = lkM s.files pS := by rw [lk_wth, if_neg hpr, lk_wo, if_neg hpq, lk_wth, if_neg hpq]
  simp only [hp2, hx1] at f3
  have f4 := alive_sync (s := ⟨wth (wth (wo (wth s.files qS y1) qS) rS y1) pS x1, IntKind.i64.wrap (IntKind.i64.wrap (IntKind.i64.wrap (s.steps + 1) + 1) + 1), -1, false⟩) ⟨rfl, rfl⟩ p_good (x := x1) (by show lkM (wth _ _ _) pS = _; rw [lk_wth, if_pos rfl])
  rw [hxd] at f4
  have heq : wth (wo (wth (wth (wth s.files pS x1) pS ⟨a, a, true⟩) qS y1) qS) rS y1 = wth (wth (wth (wo (wth s.files qS y1) qS) rS y1) pS x1) pS ⟨a, a, true⟩ := by
    refine srt_ext (wth_srt _ _ (wo_srt _ (wth_srt _ _ S2))) (wth_srt _ _ (wth_srt _ _ T2)) fun k => ?_
    simp only [lk_wth, lk_wo]
    by_cases k1 : k = rS
    · subst k1; simp [Ne.symm hpr]
    · by_cases k2 : k = pS
      · subst k2; simp [hpr, hpq]
      · by_cases k3 : k = qS
        · subst k3; simp [hqr, Ne.symm hpq]
        · simp [k1, k2, k3]
  rw [heq] at e4
  exact ⟨_, _, _, _, _, _, _, e1, e2, e3, e4, f1, f2, f3, f4⟩
end Go.Proofs.Ytcefidpmlnfheaa
