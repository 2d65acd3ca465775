/- The walks of All and First of the reference of layer 21. Conditions: lengths are bounded. -/
import Derived.Test.YtimfngfimnapoaaFieldsT
import Derived.Test.YtimfngfimnapoaaFieldsN
namespace Go.Proofs.Ytimfngfimnapoaa
open Go.RowKit Hs
set_option linter.unusedSimpArgs false
set_option linter.unusedVariables false

theorem length_namedF (l : List Fld) (n : Bs) : (namedF l n).length ≤ l.length := by
  unfold namedF
  rw [List.length_map]
  exact List.length_filter_le _ _

set_option maxHeartbeats 2000000 in
theorem r21_all (v : Value) (l : List Fld) (s : ByteArray) (w : World) (hv : Flds w v l) (hs : s.size ≤ 100000) (hl : l.length ≤ 1000) (hls : ∀ x ∈ l, x.1.length ≤ 100000) :
    Calls Try.prog 19 #[v, .string s] w fun e w' => ∃ u, e = .returned u ∧ w'.ownsRow w.heap.size 9 1 u (namedF l (un s)).length (scells (namedF l (un s))) ∧ Below w.heap.size w w' := by
  obtain ⟨iS0, iS⟩ := info_parts infoStr
  obtain ⟨a, cap, rfl, hn, hm, hc⟩ := hv.open
  unfold maxLen at hm
  have HC := Lib.hid hc
  have HLS := Lib.hid hls
  clear hc hls hv
  go_enter Try.func19, Try.ntmps19
  go_wp2
  go_loopw [5, 6] (fun o iv wr => ∃ k : Nat, iv = .int .i64 k ∧ k ≤ l.length ∧ wr.ownsRow w.heap.size 9 1 o (namedF (l.take k) (un s)).length (scells (namedF (l.take k) (un s))) ∧ Below w.heap.size w wr) (fun _ iv _ => l.length - (intOf iv).toNat)
  case atStart => exact ⟨0, rfl, by omega, World.ownsRow_nil _ _ _ _, Below.refl _ _⟩
  case round =>
    obtain ⟨k, rfl, hk, hown, hnx⟩ := hrel
    have hsize := hnx.size
    by_cases hlt : k < l.length
    · obtain ⟨b, off, rfl, hb1, hcell⟩ := HC.out (by omega)
      obtain ⟨x0, x1⟩ := hcell k hlt
      have c0 := (hnx.cell (p := ⟨b, off + k * 2, none⟩) hb1).trans x0
      have c1 := (hnx.cell (p := ⟨b, off + k * 2 + 1, none⟩) hb1).trans x1
      have hnl := HLS.out l[k] (List.getElem_mem hlt)
      have hst := Lib.hid (namedF_take l (un s) k hlt)
      have hcnt : (namedF (l.take k) (un s)).length ≤ 1000 := by have := length_namedF (l.take k) (un s); rw [List.length_take] at this; omega
      clear hcell x0 x1
      obtain ⟨x, hx⟩ : ∃ x, x = l[k] := ⟨_, rfl⟩
      rw [← hx] at c0 c1 hnl hst
      clear hx
      obtain ⟨xn, xv⟩ := x
      simp only at c0 c1 hnl hst
      have heq := fun W => ref01_equalFold (mk xn) s W (by rw [size_mk]; omega) (by omega)
      simp only [un_mk] at heq
      cases hm : (lower xn == lower (un s))
      · rw [hm] at hst heq
        have hst2 : Hid (namedF (l.take (k + 1)) (un s) = namedF (l.take k) (un s)) := by rw [hst.out]; simp [Hid]
        have HEQ := Lib.hid heq
        clear heq hst hm
        go_wp2_with fail
        refine (HEQ.out _).mono ?_; rintro e w1 ⟨rfl, hb1'⟩
        have ho1 := hown.kept (grown_later hb1') (own_none_ne _)
        go_wp2_with fail
        go_roundw
        case rel => exact ⟨k + 1, by go_num, by omega, by rw [hst2.out]; exact ho1, hnx.trans (hb1'.mono hsize)⟩
        case measure => simp [intOf]; omega
      · rw [hm] at hst heq
        have hst2 : Hid (namedF (l.take (k + 1)) (un s) = namedF (l.take k) (un s) ++ [xv]) := by rw [hst.out]; simp [Hid]
        have HEQ := Lib.hid heq
        clear heq hst hm
        go_wp2_with fail
        refine (HEQ.out _).mono ?_; rintro e w1 ⟨rfl, hb1'⟩
        have ho1 := hown.kept (grown_later hb1') (own_none_ne _)
        have B1 := hnx.trans (hb1'.mono hsize)
        have hB1 := B1.size
        have z1 := ((bcell hb1').1 b (off + k * 2 + 1) (by omega)).trans c1
        clear c0 c1
        go_wp2_with (first | (at_builtin; refine wpList_append_own _ rfl (.tmp 20) (.tmp 26) 32 rfl (w.heap.size) 9 iS0 (.string ByteArray.empty) 1 16 Try.underlying32 iS.1 iS.2.1 iS.2.2.1 iS.2.2.2 rfl (by decide) _ _ _ rfl (ho1.alloc _) ⟨w1.heap.size, 0, none⟩ 1 1 [_] rfl rfl (cell_one_new _ _ _) (by intro u hu; simp at hu; subst hu; rfl) (by unfold maxLen; omega) (by omega) (by simp; omega) ?_; intro v2 w2 hown2 hgrow2 hnil2))
        go_roundw
        case rel =>
          refine ⟨k + 1, by go_num, by omega, ?_, (B1.alloc (by omega) _).grown hgrow2 (by simp; omega) (fun j hj => (ho1.lt j hj).1)⟩
          rw [hst2.out, scells_append, List.length_append]
          exact hown2
        case measure => simp [intOf]; omega
    · obtain rfl : k = l.length := by omega
      rw [List.take_length] at hown
      go_wp2
      go_ret
      exact ⟨_, rfl, hown, hnx⟩

theorem r21_first (v : Value) (l : List Fld) (s : ByteArray) (w : World) (hv : Flds w v l) (hs : s.size ≤ 100000) (hl : l.length ≤ 1000) (hls : ∀ x ∈ l, x.1.length ≤ 100000) :
    Calls Try.prog 16 #[v, .string s] w fun e w' => e = .returned (.tuple #[.string (mk (firstF l (un s)).1), .bool (firstF l (un s)).2]) ∧ Below w.heap.size w w' := by
  have hall := r21_all v l s w hv hs hl hls
  have hlen := length_namedF l (un s)
  unfold firstF
  obtain ⟨N, hN⟩ : ∃ N, N = namedF l (un s) := ⟨_, rfl⟩
  rw [← hN] at hall hlen ⊢
  have HA := Lib.hid hall
  obtain ⟨a, cap, rfl, _, _, _⟩ := hv.open
  clear hall hN hv hls
  go_enter Try.func16, Try.ntmps16
  go_wp2_with fail
  refine HA.out.mono ?_; rintro e w1 ⟨u, rfl, hown, hb1⟩
  obtain ⟨a1, c1, rfl, h2, h3, h4⟩ := (Row.owned hown).2
  clear hown
  cases N with
  | nil =>
    go_wp2_with fail
    go_ret2
    exact ⟨rfl, hb1⟩
  | cons x N =>
    have hc := h4.resolve_left (by simp)
    obtain ⟨b, off, rfl, hb, hcell⟩ := hc
    have c0 := hcell 0 (.string (mk x)) rfl
    rw [Nat.add_zero] at c0
    have hl0 : (((x :: N).length : Int) == 0) = false := by simp; omega
    have hl1 : (0 : Int) < ((x :: N).length : Int) := by simp only [List.length_cons]; omega
    clear hcell
    generalize (x :: N).length = nn at *
    go_wp2_with fail
    go_ret2
    exact ⟨rfl, hb1⟩
end Go.Proofs.Ytimfngfimnapoaa
