/- The walks of double and groups of the reference of layer 11. Conditions: strings are of bounded length. -/
import Derived.Test.YtblcgicgbindlaaDoorIpv6S
import Derived.Test.YtblcgicgbindlaaDoorIpv4Q
import Derived.Test.YtblcgicgbindlaaDoorPlainIpv6C
namespace Go.Proofs.YtblcgicgbindlaaDoor
open Go.RowKit Hs
set_option linter.unusedSimpArgs false
set_option linter.unusedVariables false

/-- Where the first two colons stand, or -1. -/
def dblI (l : Bs) : Int := match cut2 l with | some p => (p.1.length : Int) | none => -1
theorem cut2_short (l : Bs) (h : l.length ≤ 1) : cut2 l = none := by
  match l, h with
  | [], _ => rfl
  | [b], _ => rw [cut2, if_neg (by simp)]; rfl
theorem front_none {a : Bs} {o : Option (Bs × Bs)} (h : o = none) : front a o = none := by rw [h]; rfl

set_option maxHeartbeats 1600000 in
theorem r11_double (s : ByteArray) (w : World) (hs : s.size ≤ 100000000) : Calls Tryd.prog 43 #[.string s] w fun e w' => e = .returned (.int .i64 (dblI (un s))) ∧ w = w' := by
  go_enter Tryd.func43, Tryd.ntmps43
  go_wp2
  go_loop [3] (fun iv => ∃ k : Nat, iv = .int .i64 k ∧ k ≤ s.size ∧ Hid (cut2 (un s) = front ((un s).take k) (cut2 ((un s).drop k)))) (fun iv => s.size - (intOf iv).toNat)
  case atStart => exact ⟨0, rfl, by omega, Lib.hid (by simp [front_nil])⟩
  case round =>
    obtain ⟨k, rfl, hk, hst⟩ := hrel
    by_cases hlt : k + 1 < s.size
    · have hk0 : k < s.size := by omega
      have hu0 : k < (un s).length := by rw [length_un]; exact hk0
      have hu1 : k + 1 < (un s).length := by rw [length_un]; exact hlt
      have e0 : (un s)[k] = s[k]'hk0 := rfl
      have e1 : (un s)[k + 1] = s[k + 1]'hlt := rfl
      have hd : Hid ((un s).drop k = s[k]'hk0 :: (un s).drop (k + 1)) := Lib.hid (by rw [List.drop_eq_getElem_cons hu0, e0])
      have hh : Hid (((un s).drop (k + 1)).head? = some (s[k + 1]'hlt)) := Lib.hid (by rw [List.drop_eq_getElem_cons hu1, e1]; rfl)
      have ht : Hid ((un s).take (k + 1) = (un s).take k ++ [s[k]'hk0]) := Lib.hid (by rw [List.take_succ_eq_append_getElem hu0, e0])
      clear e0 e1
      have g1 : decide ((k : Int) + 1 < (s.size : Int)) = true := decide_eq_true (by omega)
      by_cases hb : s[k]'hk0 = 58
      · have b1 : (((s[k]'hk0).toNat : Int) == 58) = true := by rw [hb]; rfl
        by_cases hc : s[k + 1]'hlt = 58
        · have b2 : (((s[k + 1]'hlt).toNat : Int) == 58) = true := by rw [hc]; rfl
          have hend : Hid (dblI (un s) = (k : Int)) := Lib.hid (by
            unfold dblI
            rw [hst.out, hd.out, cut2, if_pos ⟨hb, by rw [hh.out, hc]⟩]
            simp [front]; omega)
          clear hst hd hh ht hb hc
          go_wp2
          all_goals (try (exfalso; omega))
          go_ret
          rw [hend.out]
          exact ⟨rfl, rfl⟩
        · have b2 : (((s[k + 1]'hlt).toNat : Int) == 58) = false := by rw [beq_eq_false_iff_ne]; intro e; exact hc (UInt8.toNat_inj.1 (by have : (58 : UInt8).toNat = 58 := rfl; omega))
          have hnx : Hid (cut2 (un s) = front ((un s).take (k + 1)) (cut2 ((un s).drop (k + 1)))) := Lib.hid (by
            rw [hst.out, hd.out, cut2_cons _ _ (by rintro ⟨_, e⟩; rw [hh.out] at e; exact hc (Option.some.inj e)), front_front, ht.out])
          clear hst hd hh ht hb hc
          go_wp2
          all_goals (try (exfalso; omega))
          go_round
          case rel => exact ⟨k + 1, by go_num, by omega, hnx⟩
          case measure => simp [intOf]; omega
      · have b1 : (((s[k]'hk0).toNat : Int) == 58) = false := by rw [beq_eq_false_iff_ne]; intro e; exact hb (UInt8.toNat_inj.1 (by have : (58 : UInt8).toNat = 58 := rfl; omega))
        have hnx : Hid (cut2 (un s) = front ((un s).take (k + 1)) (cut2 ((un s).drop (k + 1)))) := Lib.hid (by
          rw [hst.out, hd.out, cut2_cons _ _ (fun e => hb e.1), front_front, ht.out])
        clear hst hd hh ht hb
        go_wp2
        all_goals (try (exfalso; omega))
        go_round
        case rel => exact ⟨k + 1, by go_num, by omega, hnx⟩
        case measure => simp [intOf]; omega
    · have g1 : decide ((k : Int) + 1 < (s.size : Int)) = false := decide_eq_false (by omega)
      have hend : Hid (dblI (un s) = -1) := Lib.hid (by
        unfold dblI
        rw [hst.out, front_none (cut2_short _ (by rw [List.length_drop, length_un]; omega))])
      clear hst
      go_wp2
      all_goals (try (exfalso; omega))
      go_ret
      rw [hend.out]
      exact ⟨rfl, rfl⟩
theorem parseV_grpV {x : Bs} (h : (parseV x).2 = true) : grpV x = none := by
  have h46 : (46 : UInt8) ∈ x := by
    by_cases hm : (46 : UInt8) ∈ x
    · exact hm
    · exfalso
      unfold parseV at h
      rw [splitD_none 46 x (fun y hy e => hm (e ▸ hy)), if_neg (by simp)] at h
      cases h
  unfold grpV
  rw [if_neg]
  rintro ⟨_, _, ha⟩
  have := List.all_eq_true.1 ha 46 h46
  rw [digV46] at this
  exact absurd this (by decide)

set_option maxHeartbeats 4000000 in
theorem r11_groups (s : ByteArray) (last : Bool) (w : World) (hs : s.size ≤ 100000) : Calls Tryd.prog 44 #[.string s, .bool last] w fun e w' => ∃ v, e = .returned (.tuple #[v, .bool (grpsV (un s) last).isSome]) ∧ w'.ownsRow w.heap.size 38 1 v ((grpsV (un s) last).getD []).length (gcells ((grpsV (un s) last).getD [])) ∧ Below w.heap.size w w' := by
  by_cases hz : s.size = 0
  · have hun : un s = [] := List.eq_nil_of_length_eq_zero (by rw [length_un]; exact hz)
    have h1 : s.toList.isEmpty = true := by rw [toList_un, hun]; rfl
    have hend : Hid (grpsV (un s) last = some []) := Lib.hid (by rw [hun]; rfl)
    clear hz hun
    go_enter Tryd.func44, Tryd.ntmps44
    go_wp2
    go_ret2
    rw [hend.out]
    exact ⟨_, rfl, World.ownsRow_nil _ _ _ _, Below.refl _ _⟩
  · have hne : un s ≠ [] := fun e => hz (by rw [← length_un, e]; rfl)
    have h1 : s.toList.isEmpty = false := by
      rw [toList_un]
      cases hu : un s with
      | nil => exact absurd hu hne
      | cons a b => rfl
    obtain ⟨iU0, iU⟩ := info_parts infoU16
    have HS := Lib.hid (ref01_split s 58 w (by omega))
    have hlen := splitD_len 58 (un s)
    have hcnt := splitD_count 58 (un s)
    have hdef : Hid (grpsV (un s) last = grpsA last (splitD 58 (un s)) []) := Lib.hid (if_neg hne)
    obtain ⟨R, hR⟩ : ∃ R, R = grpsV (un s) last := ⟨_, rfl⟩
    rw [← hR] at hdef ⊢
    obtain ⟨L, hL⟩ : ∃ L, L = splitD 58 (un s) := ⟨_, rfl⟩
    rw [← hL] at hdef HS hlen hcnt
    rw [length_un] at hlen hcnt
    have HLEN := Lib.hid hlen
    clear hR hL hne hz hlen
    go_enter Tryd.func44, Tryd.ntmps44
    go_wp2_with fail
    refine HS.out.mono ?_
    rintro e w1 ⟨v, rfl, hst0, hb⟩
    have hst : Strs w1 v L := Row.owned hst0
    clear HS hst0
    obtain ⟨a, c, rfl, hn, hm, hc⟩ := hst.open
    unfold maxLen at hm
    have HC := Lib.hid hc
    clear hc hst
    obtain ⟨n, hn0⟩ : ∃ n, L.length = n := ⟨_, rfl⟩
    rw [hn0] at hn hcnt ⊢
    have HN := Lib.hid hn0
    clear hn0
    go_wp2
    go_loopw [6, 8] (fun ov iv wr => ∃ (k : Nat) (acc : List Nat), iv = .int .i64 k ∧ k ≤ n ∧ acc.length ≤ k + 1 ∧ (k < n → acc.length ≤ k) ∧ wr.ownsRow w1.heap.size 38 1 ov acc.length (gcells acc) ∧ Hid (R = grpsA last (L.drop k) acc) ∧ Below w1.heap.size w1 wr) (fun _ iv _ => n - (intOf iv).toNat)
    case atStart => exact ⟨0, [], rfl, by omega, by simp, by simp, World.ownsRow_nil _ _ _ _, hdef, Below.refl _ _⟩
    case round =>
      obtain ⟨k, acc, rfl, hk, hacc, hacc2, hown, hst, hnx⟩ := hrel
      have hsz := hnx.size
      by_cases hlt : k < n
      · have hacc3 := hacc2 hlt
        obtain ⟨b, off, rfl, hb1, hcell⟩ := HC.out (by rw [HN.out]; omega)
        have hkl : k < L.length := by rw [HN.out]; exact hlt
        have c0' := hcell k hkl
        have c0 := ((bcell hnx).1 b (off + k) hb1).trans c0'
        have hlen := HLEN.out L[k] (List.getElem_mem hkl)
        have hst2 : Hid (R = grpsA last (L[k] :: L.drop (k + 1)) acc) := Lib.hid (by rw [hst.out, List.drop_eq_getElem_cons hkl])
        obtain ⟨x, hx⟩ : ∃ x, x = L[k] := ⟨_, rfl⟩
        rw [← hx] at c0 c0' hlen hst2
        clear hcell hst hx hkl hacc2
        have hd := fun W => r11_hex (mk x) W
        simp only [un_mk] at hd
        have hpx := fun W => r10_parse (mk x) W (by rw [size_mk]; omega)
        simp only [un_mk] at hpx
        have hpl := parseV_lt x
        have hpg := @parseV_grpV x
        have hstep : Hid (R = match grpV x with | some g => grpsA last (L.drop (k + 1)) (acc ++ [g]) | none => if (parseV x).2 = true ∧ last = true ∧ L.drop (k + 1) = [] then some (acc ++ [(parseV x).1 / 65536, (parseV x).1 % 65536]) else none) := Lib.hid (by
          rw [hst2.out]
          cases hg : grpV x with
          | some g => rw [grpsA_some hg]
          | none => rw [grpsA_none hg])
        obtain ⟨p, hp⟩ : ∃ p, p = parseV x := ⟨_, rfl⟩
        simp only [← hp] at hpx hstep hpl hpg
        clear hst2 hp
        obtain ⟨G, hG⟩ : ∃ G, G = grpV x := ⟨_, rfl⟩
        rw [← hG] at hstep hpg
        simp only [← hG] at hd
        clear hG
        obtain ⟨p, ok⟩ := p
        simp only at hpx hstep hpl hpg
        have HP := Lib.hid hpx
        have HD := Lib.hid hd
        clear hpx hd
        have hdr : Hid (L.drop (k + 1) = [] ↔ k + 1 = n) := Lib.hid (by rw [List.drop_eq_nil_iff, HN.out]; omega)
        by_cases hgood : ok = true ∧ last = true ∧ k + 1 = n
        · obtain ⟨rfl, rfl, hkn⟩ := hgood
          have hG0 := hpg rfl
          subst hG0
          have hnext : Hid (R = grpsA true (L.drop (k + 1)) (acc ++ [p / 65536, p % 65536])) := Lib.hid (by rw [hstep.out, if_pos ⟨rfl, rfl, hdr.out.2 hkn⟩, hdr.out.2 hkn]; rfl)
          have g1 : ((k : Int) == (n : Int) - 1) = true := by simp; omega
          have hp1 : (p : Int) / 65536 < 65536 := by omega
          clear hstep hdr hpg
          go_wp2_with fail
          refine (HP.out _).mono ?_; rintro e w3 ⟨rfl, hb3⟩
          have hown3 := own_later hown hb3
          have hs3 := hb3.size
          go_wp2_with (first | (at_builtin; refine wpList_append_own _ rfl (.tmp 42) (.tmp 48) 61 rfl w1.heap.size 38 iU0 (.int .u16 0) 1 2 Tryd.underlying61 iU.1 iU.2.1 iU.2.2.1 iU.2.2.2 rfl (by decide) _ _ _ rfl (hown3.alloc _) ⟨w3.heap.size, 0, none⟩ 2 2 [_, _] rfl rfl (cell_two_new _ _ _ _) (by intro u hu; simp at hu; rcases hu with rfl | rfl <;> rfl) (by unfold maxLen; omega) (by omega) (by simp; omega) ?_; intro v1 w4 hown1 hgrow1 hnil1))
          all_goals (try (exfalso; omega))
          go_roundw
          case rel =>
            refine ⟨k + 1, acc ++ [p / 65536, p % 65536], by go_num, by omega, by simp; omega, fun h => by omega, ?_, hnext, (hnx.trans (hb3.mono hnx.size)).alloc (by omega) _ |>.grown hgrow1 (by simp; omega) (fun j hj => (hown3.lt j hj).1)⟩
            rw [gcells_append, List.length_append]
            exact hown1
          case measure => simp [intOf]; omega
        · have hcs : ok = false ∨ (ok = true ∧ last = false) ∨ (ok = true ∧ last = true ∧ k + 1 < n) := by
            cases ok
            · exact .inl rfl
            · cases last
              · exact .inr (.inl ⟨rfl, rfl⟩)
              · exact .inr (.inr ⟨rfl, rfl, by have : k + 1 ≠ n := fun e => hgood ⟨rfl, rfl, e⟩; omega⟩)
          have hno : Hid (¬ (ok = true ∧ last = true ∧ L.drop (k + 1) = [])) := Lib.hid (fun h => hgood ⟨h.1, h.2.1, hdr.out.1 h.2.2⟩)
          have c1 := fun (w3 : World) (hb3 : Below wr.heap.size wr w3) => (((bcell (hnx.trans (hb3.mono hnx.size))).1 b (off + k) hb1).trans c0')
          have C1 := Lib.hid c1
          clear hdr hgood hpg c1 c0'
          cases G with
          | some g =>
            have hnext : Hid (R = grpsA last (L.drop (k + 1)) (acc ++ [g])) := Lib.hid (by rw [hstep.out])
            clear hstep hno
            rcases hcs with rfl | ⟨rfl, rfl⟩ | ⟨rfl, rfl, hkn⟩
            all_goals
              go_wp2_with fail
              refine (HP.out _).mono ?_; rintro e w3 ⟨rfl, hb3⟩
              (try have g1 : ((k : Int) == (n : Int) - 1) = false := by simp; omega)
              have c2 := C1.out w3 hb3
              have hown3 := own_later hown hb3
              have hs3 := hb3.size
              go_wp2_with fail
              refine (HD.out _).mono ?_; rintro e w5 ⟨rfl, rfl⟩
              unfold optV
              go_wp2_with (first | (at_builtin; refine wpList_append_own _ rfl (.tmp 60) (.tmp 62) 61 rfl w1.heap.size 38 iU0 (.int .u16 0) 1 2 Tryd.underlying61 iU.1 iU.2.1 iU.2.2.1 iU.2.2.2 rfl (by decide) _ _ _ rfl (hown3.alloc _) ⟨w3.heap.size, 0, none⟩ 1 1 [_] rfl rfl (cell_one_new _ _ _) (by intro u hu; simp at hu; subst hu; rfl) (by unfold maxLen; omega) (by omega) (by simp; omega) ?_; intro v1 w4 hown1 hgrow1 hnil1))
              go_roundw
              case rel =>
                refine ⟨k + 1, acc ++ [g], by go_num, by omega, by simp; omega, fun _ => by simp; omega, ?_, hnext, (hnx.trans (hb3.mono hnx.size)).alloc (by omega) _ |>.grown hgrow1 (by simp; omega) (fun j hj => (hown3.lt j hj).1)⟩
                rw [gcells_append, List.length_append]
                exact hown1
              case measure => simp [intOf]; omega
          | none =>
            have hend : Hid (R = none) := Lib.hid (by rw [hstep.out, if_neg hno.out])
            clear hstep hno
            rcases hcs with rfl | ⟨rfl, rfl⟩ | ⟨rfl, rfl, hkn⟩
            all_goals
              go_wp2_with fail
              refine (HP.out _).mono ?_; rintro e w3 ⟨rfl, hb3⟩
              (try have g1 : ((k : Int) == (n : Int) - 1) = false := by simp; omega)
              have c2 := C1.out w3 hb3
              go_wp2_with fail
              refine (HD.out _).mono ?_; rintro e w5 ⟨rfl, rfl⟩
              unfold optV
              go_wp2
              all_goals (try (exfalso; omega))
              go_ret2
              rw [hend.out]
              exact ⟨_, rfl, World.ownsRow_nil _ _ _ _, hb.trans ((hnx.trans (hb3.mono hnx.size)).mono hb.size)⟩
      · obtain rfl : k = n := by omega
        have hend : Hid (R = some acc) := Lib.hid (by rw [hst.out, List.drop_of_length_le (by rw [HN.out]; omega)]; rfl)
        clear hst
        go_wp2
        go_ret2
        rw [hend.out]
        exact ⟨_, rfl, own_base hown hb.size, hb.trans (hnx.mono hb.size)⟩
end Go.Proofs.YtblcgicgbindlaaDoor
