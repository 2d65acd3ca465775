/- The fields with a name: the closure of fields.named as an iterator; the walks of First and All of the layer fields. Conditions: lengths are bounded. -/
import Derived.Test.YtimfngfimnapoaaFieldsP
namespace Go.Proofs.Ytimfngfimnapoaa
open Go.RowKit Go.Shelf Hs
set_option linter.unusedSimpArgs false
set_option linter.unusedVariables false

attribute [local go_sem] Oper.semAt_some

set_option maxHeartbeats 1000000 in
theorem f_named (a : Option Addr) (m c : Nat) (s : ByteArray) (w : World) : Calls Try.prog 34 #[.slice a m c, .string s] w fun e w' => e = .returned (.func (.func 46) #[] #[.pointer (some ⟨w.heap.size, 0, none⟩), .pointer (some ⟨w.heap.size + 1, 0, none⟩)]) ∧ w' = (w.alloc (.cells #[.slice a m c] 25)).alloc (.cells #[.string s] 9) := by
  go_enter Try.func34, Try.ntmps34
  go_wp2
  go_ret
  exact ⟨rfl, rfl⟩
theorem namedF_take (l : List Fld) (n : Bs) (k : Nat) (h : k < l.length) : namedF (l.take (k + 1)) n = namedF (l.take k) n ++ (if lower l[k].1 == lower n then [l[k].2] else []) := by
  rw [List.take_succ_eq_append_getElem h, namedF_append]
  congr 1
  unfold namedF
  by_cases h : (lower l[k].1 == lower n) = true
  · simp [h]
  · simp [h]
theorem namedF_prefix (l : List Fld) (n : Bs) (k : Nat) : namedF (l.take k) n <+: namedF l n := by
  refine ⟨namedF (l.drop k) n, ?_⟩
  rw [← namedF_append, List.take_append_drop]

set_option maxRecDepth 100000 in
set_option maxHeartbeats 2000000 in
theorem named_seq (n c1 c2 n₀ : Nat) (s : ByteArray) (v : Value) (l : List Fld) (w : World) (hn : 1 ≤ n) (hb1 : Boxed w c1 25 v) (hb2 : Boxed w c2 9 (.string s)) (hs : s.size ≤ 100000) (hl : l.length ≤ 1000) (hls : ∀ x ∈ l, x.1.length ≤ 100000)
    (hv : ∃ a cap, v = .slice a l.length cap ∧ (0 < l.length → ∃ b off, a = some ⟨b, off, none⟩ ∧ b < n₀ ∧ ∀ j (hj : j < l.length), w.cell? ⟨b, off + j * 2, none⟩ = some (.string (mk l[j].1)) ∧ w.cell? ⟨b, off + j * 2 + 1, none⟩ = some (.string (mk l[j].2)))) (hn₀ : n₀ ≤ w.heap.size) :
    Seq Fence.wide n Try.prog 46 #[.pointer (some ⟨c1, 0, none⟩), .pointer (some ⟨c2, 0, none⟩)] (fun x : Bs => #[.string (mk x)]) (fun k => k = c1 ∨ k = c2) n₀ (fun xs => xs = namedF l (un s)) (fun pre => pre <+: namedF l (un s)) w := fun ll J Jx W hW hJ hJx hY h0 => by
  obtain ⟨a, cap, rfl, hc⟩ := hv
  have HC := Lib.hid hc
  have HLS := Lib.hid hls
  clear hc hls
  have hW1 : Boxed W c1 25 (.slice a l.length cap) := (hW.block c1 hb1.lt).trans hb1
  have hW2 : Boxed W c2 9 (.string s) := (hW.block c2 hb2.lt).trans hb2
  have hWs := hW.size
  have ec1 := hW1.cell
  refine callsIn_of_wp Try.func46 rfl trivial ?_ rfl
  simp only [Try.ntmps46, List.size_toArray, List.length_cons, List.length_nil, Nat.reduceAdd, Nat.reduceSub, Array.replicate_succ, Array.replicate_zero, List.push_toArray, List.append_toArray, List.nil_append, List.cons_append]
  gi_wp2
  gi_loopw [8] (fun iv wr => ∃ (k : Nat) (G : Nat → Prop), iv = .int .i64 k ∧ k ≤ l.length ∧ J (namedF (l.take k) (un s)) G wr ∧ G c1 ∧ G c2 ∧ Boxed wr c2 9 (.string s) ∧ Below n₀ W wr) (fun iv _ => l.length - (intOf iv).toNat)
  case atStart => exact ⟨0, _, rfl, by omega, h0, .inl rfl, .inr rfl, hW2, Below.refl _ _⟩
  case round =>
    obtain ⟨k, G, rfl, hk, hJs, hG1, hG2, hbs, hbl⟩ := hrel
    have ec2 := hbs.cell
    by_cases hlt : k < l.length
    · obtain ⟨b, off, rfl, hb, hcell⟩ := HC.out (by omega)
      obtain ⟨x0, x1⟩ := hcell k hlt
      have hbW : b < w.heap.size := by omega
      have c0 := (hbl.cell (p := ⟨b, off + k * 2, none⟩) hb).trans ((hW.cell (p := ⟨b, off + k * 2, none⟩) hbW).trans x0)
      have d0 := (hbl.cell (p := ⟨b, off + k * 2 + 1, none⟩) hb).trans ((hW.cell (p := ⟨b, off + k * 2 + 1, none⟩) hbW).trans x1)
      clear hcell x0 x1
      have hstep := Lib.hid (namedF_take l (un s) k hlt)
      have hpre := Lib.hid (namedF_prefix l (un s) (k + 1))
      have hnl := HLS.out l[k] (List.getElem_mem hlt)
      obtain ⟨x, hx⟩ : ∃ x, x = l[k] := ⟨_, rfl⟩
      rw [← hx] at c0 d0 hstep hnl
      clear hx
      obtain ⟨xn, xv⟩ := x
      simp only at c0 d0 hstep hnl
      have heq := fun W => ascii_equalFold (mk xn) s W (by rw [size_mk]; omega) (by omega)
      rw [un_mk] at heq
      have ec2' := (hbs.alloc (.cells #[.string (mk xn), .string (mk xv)] 44)).cell
      have hgx : ∀ w1, Below (wr.alloc (.cells #[.string (mk xn), .string (mk xv)] 44)).heap.size (wr.alloc (.cells #[.string (mk xn), .string (mk xv)] 44)) w1 → Below wr.heap.size wr w1 := fun w1 h => ((Below.refl _ wr).alloc (Nat.le_refl _) _).trans (h.mono (by simp))
      have B2 := Blk2.new wr 44 (.string (mk xn)) (.string (mk xv))
      cases hm : (lower xn == lower (un s))
      · rw [hm] at heq hstep
        have hst : Hid (namedF (l.take (k + 1)) (un s) = namedF (l.take k) (un s)) := by rw [hstep.out]; simp [Hid]
        have HEQ := Lib.hid heq
        clear heq hstep hpre hm
        gi_wp2
        refine ⟨trivial, ?_⟩
        refine (callsIn_wide.2 (HEQ.out _)).mono ?_
        rintro e w1 ⟨rfl, hb1'⟩
        have hbx := hgx w1 hb1'
        gi_wp2
        refine ⟨fun _ h => (by cases h), ?_⟩
        gi_wp2
        go_roundw
        case rel => exact ⟨k + 1, G, by go_num, by omega, by rw [hst.out]; exact hJ.turn _ _ _ _ _ hJs (grown_of_below hbx) (fun r e => by cases e), hG1, hG2, hbs.kept (grown_of_below hbx) (by simp), hbl.trans (hbx.mono (by have := hbl.size; omega))⟩
        case measure => simp [intOf]; omega
      · rw [hm] at heq hstep
        have hst : Hid (namedF (l.take (k + 1)) (un s) = namedF (l.take k) (un s) ++ [xv]) := by rw [hstep.out]; simp [Hid]
        have hpre' : Hid (namedF (l.take k) (un s) ++ [xv] <+: namedF l (un s)) := by rw [← hst.out]; exact hpre.out
        have HEQ := Lib.hid heq
        clear heq hstep hpre hm
        gi_wp2
        refine ⟨trivial, ?_⟩
        refine (callsIn_wide.2 (HEQ.out _)).mono ?_
        rintro e w1 ⟨rfl, hb1'⟩
        have hbx := hgx w1 hb1'
        have B2' := B2.below hb1'
        have z1 := B2'.c1
        obtain ⟨fn, tmps, assign, body, hy, hR⟩ := hY (namedF (l.take k) (un s)) xv G w1 (hJ.turn _ _ _ _ _ hJs (grown_of_below hbx) (fun r e => by cases e)) hpre'.out
        gi_wp2
        refine hR.mono ?_
        rintro e W3 (⟨rfl, hJ3, hk3⟩ | ⟨rfl, hJx3⟩)
        · have hb3 := hk3.block c2 ((hbs.kept (grown_of_below hbx) (by simp)).lt) (.inl hG2)
          gi_wp2
          go_roundw
          case rel => exact ⟨k + 1, G, by go_num, by omega, by rw [hst.out]; exact hJ3, hG1, hG2, hb3.trans (hbs.kept (grown_of_below hbx) (by simp)), (hbl.trans (hbx.mono (by have := hbl.size; omega))).trans (Keeps.below (hk3.mono fun k hk => .inr hk) (by have := hbl.size; have := hbx.size; omega))⟩
          case measure => simp [intOf]; omega
        · gi_wp2
          refine bodyPost_ret (results_none rfl _ _ _) rfl ?_
          exact ⟨⟨_, rfl⟩, .inr ⟨_, G, hpre'.out, hJx3⟩⟩
    · obtain rfl : k = l.length := by omega
      rw [List.take_length] at hJs
      gi_wp2
      go_end0
      exact ⟨⟨_, rfl⟩, .inl ⟨_, G, rfl, hJs⟩⟩
end Go.Proofs.Ytimfngfimnapoaa
