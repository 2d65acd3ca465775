/- Hosts and URLs compared as values. Conditions: arrays have eight groups.
   The walk of Format of ipv4. Conditions: the library's tables stand.
   The walk of Format of ipv6. Conditions: eight groups; the library's tables stand.
   The walks of Format and Covers of the program's hosts. Conditions: the host can be, its name's length is bounded; the library's tables stand. -/
import Derived.Test.YtjbciamhhfcdoaaGreatDoorSub24
import Derived.Test.YtjbciamhhfcdoaaGreatDoorSub40
import Derived.Laws.StructEq
import Derived.Test.YtjbciamhhfcdoaaGreatDoorSub22
import Derived.Test.YtjbciamhhfcdoaaGreatDoorSub17
import Derived.Test.YtjbciamhhfcdoaaGreatDoorSub27
namespace Go.Proofs.YtjbciamhhfcdoaaGreatDoor
open Go.RowKit Hs
set_option linter.unusedSimpArgs false
set_option linter.unusedVariables false
theorem eqF_step {P : Program} (d : Nat) (xs ys : Array Value) (f : Field) (fs : List Field) (W : World) (va vb : Value) (r : Bool) (hn : f.name ≠ "_") (ha : (part f.type xs f.offset).run P W = .ok va W) (hb : (part f.type ys f.offset).run P W = .ok vb W) (he : (Op.equalIn d f.type va vb).run P W = .ok r W) :
    (Op.eqFields d xs ys (f :: fs)).run P W = if r = true then (Op.eqFields d xs ys fs).run P W else .ok false W := by
  rw [Op.eqFields, if_pos hn]
  simp only [Sem.run_bind, ha, hb, he, Result.andThen_ok]
  cases r <;> simp
theorem run_part_row {P : Program} {t : TypeId} {d : TypeDesc} {n : Nat} (hu : P.underlying t = some d) (hd : d.isRow = true) (hi : (P.info? t).map (·.size) = some n) (cs : Array Value) (off : Nat) (W : World) : (part t cs off).run P W = .ok (.agg (cs.extract off (off + n))) W := by
  cases hq : P.info? t with
  | none => simp [hq] at hi
  | some i =>
    have hs : i.size = n := by simpa [hq] using hi
    have hagg : (isAgg t).run P W = .ok true W := by
      unfold isAgg
      rw [Sem.run_bind, run_underlying hu W]
      cases d <;> simp_all
    simp [part, Sem.run_bind, hagg, sizeOf, typeInfo, hq, hs]
/-- Two arrays of eight groups at any depth. -/
theorem arr8_eqD (d : Nat) (a b : List Nat) (ha : a.length = 8) (hb : b.length = 8) (W : World) : (Op.equalIn (d + 2) 58 (.agg (gcells a).toArray) (.agg (gcells b).toArray)).run Tryz.prog W = .ok (decide (a = b)) W := by
  obtain ⟨i, hi, _⟩ := Option.map_eq_some_iff.1 infoU16s
  have h := run_equalIn_array W (d + 1) (gcells a).toArray (gcells b).toArray Tryz.underlying58 hi
  rw [cells16, items16 d a b W _ (fun j hj => by have := List.mem_range.1 hj; omega)] at h
  refine h.trans ?_
  have key : (∀ i ∈ List.range 8, a[i]? = b[i]?) ↔ a = b := by
    constructor
    · intro hh
      apply List.ext_getElem?
      intro j
      by_cases hj : j < 8
      · exact hh j (List.mem_range.2 hj)
      · rw [List.getElem?_eq_none (by omega), List.getElem?_eq_none (by omega)]
    · intro e j _
      rw [e]
  rw [decide_eq_decide.2 key]
theorem hostFields : Tryz.prog.underlying 60 = some (.struct (Tryz.prog.fieldsOf 60)) := by kernel_rfl
theorem urlFields : Tryz.prog.underlying 62 = some (.struct (Tryz.prog.fieldsOf 62)) := by kernel_rfl
theorem ext_v6 (h : HostP) (h8 : h.v6.length = 8) : (hcells h).toArray.extract 3 (3 + 8) = (gcells h.v6).toArray := by
  apply Array.ext'
  rw [Array.toList_extract]
  have : ((hcells h).drop 3) = gcells h.v6 := rfl
  simp only [List.extract_eq_take_drop]
  show ((hcells h).drop 3).take (3 + 8 - 3) = _
  rw [this]
  exact List.take_of_length_le (by simp [h8])
theorem ext_host (u : UrlP) (h8 : u.host.v6.length = 8) : (ucells u).toArray.extract 2 (2 + 11) = (hcells u.host).toArray := by
  apply Array.ext'
  rw [Array.toList_extract]
  simp only [List.extract_eq_take_drop]
  show ((ucells u).drop 2).take (2 + 11 - 2) = _
  have : (ucells u).drop 2 = hcells u.host ++ [.int .i64 u.port, .string (mk u.rest)] := rfl
  rw [this, List.take_left' (by rw [hc_len h8])]
theorem mk_beq (a b : Bs) : ((mk a).toList == (mk b).toList) = decide (a = b) := by
  rw [toList_mk', toList_mk']
  by_cases h : a = b <;> simp [h]
theorem hf_list : (Tryz.prog.fieldsOf 60).toList.map (fun f => (f.name, f.type, f.offset)) = [("Kind", 3, 0), ("Name", 9, 1), ("V4", 56, 2), ("V6", 58, 3)] := by kernel_rfl
theorem uf_list : (Tryz.prog.fieldsOf 62).toList.map (fun f => (f.name, f.type, f.offset)) = [("Scheme", 9, 0), ("User", 9, 1), ("Host", 60, 2), ("Port", 3, 13), ("Rest", 9, 14)] := by kernel_rfl
theorem map_cons_inv {α β : Type} {f : α → β} {l : List α} {b : β} {r : List β} (h : l.map f = b :: r) : ∃ a t, l = a :: t ∧ f a = b ∧ t.map f = r := by
  cases l with
  | nil => cases h
  | cons a t => simp at h; exact ⟨a, t, rfl, h.1, h.2⟩
theorem host_eqD (d : Nat) (a b : HostP) (ha : a.v6.length = 8) (hb : b.v6.length = 8) (W : World) : (Op.equalIn (d + 4) 60 (.agg (hcells a).toArray) (.agg (hcells b).toArray)).run Tryz.prog W = .ok (decide (a = b)) W := by
  rw [run_equalIn_struct W (d + 3) _ _ _ hostFields (by kernel_rfl)]
  have hl := hf_list
  generalize (Tryz.prog.fieldsOf 60).toList = L at hl
  obtain ⟨f0, t0, rfl, e0, hl⟩ := map_cons_inv hl
  obtain ⟨f1, t1, rfl, e1, hl⟩ := map_cons_inv hl
  obtain ⟨f2, t2, rfl, e2, hl⟩ := map_cons_inv hl
  obtain ⟨f3, t3, rfl, e3, hl⟩ := map_cons_inv hl
  obtain rfl : t3 = [] := by simpa using hl
  simp only [Prod.mk.injEq] at e0 e1 e2 e3
  obtain ⟨k0, v0, x0, g0⟩ := a
  obtain ⟨k1, v1, x1, g1⟩ := b
  simp only at ha hb
  rw [eqF_step _ _ _ f0 _ W (.int .i64 (k0 : Int)) (.int .i64 (k1 : Int)) (decide (k0 = k1)) (by rw [e0.1]; decide) (by rw [e0.2.1, e0.2.2]; exact run_part_plain W (by kernel_rfl) rfl) (by rw [e0.2.1, e0.2.2]; exact run_part_plain W (by kernel_rfl) rfl) (by rw [e0.2.1, run_equalIn_int W (d + 2) _ .i64 .i64 _ _ Tryz.underlying3]; congr 1; by_cases h : k0 = k1 <;> simp [h] <;> omega)]
  rw [eqF_step _ _ _ f1 _ W (.string (mk v0)) (.string (mk v1)) (decide (v0 = v1)) (by rw [e1.1]; decide) (by rw [e1.2.1, e1.2.2]; exact run_part_plain W (by kernel_rfl) rfl) (by rw [e1.2.1, e1.2.2]; exact run_part_plain W (by kernel_rfl) rfl) (by rw [e1.2.1, run_equalIn_string W (d + 2) _ _ _ Tryz.underlying9, mk_beq])]
  rw [eqF_step _ _ _ f2 _ W (.int .u32 (x0 : Int)) (.int .u32 (x1 : Int)) (decide (x0 = x1)) (by rw [e2.1]; decide) (by rw [e2.2.1, e2.2.2]; exact run_part_plain W (by kernel_rfl) rfl) (by rw [e2.2.1, e2.2.2]; exact run_part_plain W (by kernel_rfl) rfl) (by rw [e2.2.1, run_equalIn_int W (d + 2) _ .u32 .u32 _ _ Tryz.underlying56]; congr 1; by_cases h : x0 = x1 <;> simp [h] <;> omega)]
  rw [eqF_step _ _ _ f3 _ W (.agg (gcells g0).toArray) (.agg (gcells g1).toArray) (decide (g0 = g1)) (by rw [e3.1]; decide) (by rw [e3.2.1, e3.2.2, run_part_row Tryz.underlying58 rfl infoArr8]; congr 2; exact ext_v6 ⟨k0, v0, x0, g0⟩ ha) (by rw [e3.2.1, e3.2.2, run_part_row Tryz.underlying58 rfl infoArr8]; congr 2; exact ext_v6 ⟨k1, v1, x1, g1⟩ hb) (by rw [e3.2.1]; exact arr8_eqD (d + 1) g0 g1 ha hb W)]
  simp only [Op.eqFields, Sem.run_pure, HostP.mk.injEq]
  by_cases h0 : k0 = k1 <;> by_cases h1 : v0 = v1 <;> by_cases h2 : x0 = x1 <;> by_cases h3 : g0 = g1 <;> simp [h0, h1, h2, h3]
theorem url_eqD (d : Nat) (a b : UrlP) (ha : a.host.v6.length = 8) (hb : b.host.v6.length = 8) (W : World) : (Op.equalIn (d + 5) 62 (.agg (ucells a).toArray) (.agg (ucells b).toArray)).run Tryz.prog W = .ok (decide (a = b)) W := by
  rw [run_equalIn_struct W (d + 4) _ _ _ urlFields (by kernel_rfl)]
  have hl := uf_list
  generalize (Tryz.prog.fieldsOf 62).toList = L at hl
  obtain ⟨f0, t0, rfl, e0, hl⟩ := map_cons_inv hl
  obtain ⟨f1, t1, rfl, e1, hl⟩ := map_cons_inv hl
  obtain ⟨f2, t2, rfl, e2, hl⟩ := map_cons_inv hl
  obtain ⟨f3, t3, rfl, e3, hl⟩ := map_cons_inv hl
  obtain ⟨f4, t4, rfl, e4, hl⟩ := map_cons_inv hl
  obtain rfl : t4 = [] := by simpa using hl
  simp only [Prod.mk.injEq] at e0 e1 e2 e3 e4
  have p3 : ∀ u : UrlP, u.host.v6.length = 8 → (ucells u).toArray[13]? = some (.int .i64 u.port) ∧ (ucells u).toArray[14]? = some (.string (mk u.rest)) := fun u h8 => by
    have e6 : ucells u = ([.string (mk u.scheme), .string (mk u.user)] ++ hcells u.host) ++ [.int .i64 u.port, .string (mk u.rest)] := by simp [ucells]
    constructor
    · rw [List.getElem?_toArray, e6, List.getElem?_append_right (by simp [hc_len h8])]; simp [hc_len h8]
    · rw [List.getElem?_toArray, e6, List.getElem?_append_right (by simp [hc_len h8])]; simp [hc_len h8]
  have pa := p3 a ha
  have pb := p3 b hb
  rw [eqF_step _ _ _ f0 _ W (.string (mk a.scheme)) (.string (mk b.scheme)) (decide (a.scheme = b.scheme)) (by rw [e0.1]; decide) (by rw [e0.2.1, e0.2.2]; exact run_part_plain W (by kernel_rfl) rfl) (by rw [e0.2.1, e0.2.2]; exact run_part_plain W (by kernel_rfl) rfl) (by rw [e0.2.1, run_equalIn_string W (d + 3) _ _ _ Tryz.underlying9, mk_beq])]
  rw [eqF_step _ _ _ f1 _ W (.string (mk a.user)) (.string (mk b.user)) (decide (a.user = b.user)) (by rw [e1.1]; decide) (by rw [e1.2.1, e1.2.2]; exact run_part_plain W (by kernel_rfl) rfl) (by rw [e1.2.1, e1.2.2]; exact run_part_plain W (by kernel_rfl) rfl) (by rw [e1.2.1, run_equalIn_string W (d + 3) _ _ _ Tryz.underlying9, mk_beq])]
  rw [eqF_step _ _ _ f2 _ W (.agg (hcells a.host).toArray) (.agg (hcells b.host).toArray) (decide (a.host = b.host)) (by rw [e2.1]; decide) (by rw [e2.2.1, e2.2.2, run_part_row Tryz.underlying60 rfl infoHost]; congr 2; exact ext_host a ha) (by rw [e2.2.1, e2.2.2, run_part_row Tryz.underlying60 rfl infoHost]; congr 2; exact ext_host b hb) (by rw [e2.2.1]; exact host_eqD d a.host b.host ha hb W)]
  rw [eqF_step _ _ _ f3 _ W (.int .i64 a.port) (.int .i64 b.port) (decide (a.port = b.port)) (by rw [e3.1]; decide) (by rw [e3.2.1, e3.2.2]; exact run_part_plain W (by kernel_rfl) pa.1) (by rw [e3.2.1, e3.2.2]; exact run_part_plain W (by kernel_rfl) pb.1) (by rw [e3.2.1, run_equalIn_int W (d + 3) _ .i64 .i64 _ _ Tryz.underlying3]; rfl)]
  rw [eqF_step _ _ _ f4 _ W (.string (mk a.rest)) (.string (mk b.rest)) (decide (a.rest = b.rest)) (by rw [e4.1]; decide) (by rw [e4.2.1, e4.2.2]; exact run_part_plain W (by kernel_rfl) pa.2) (by rw [e4.2.1, e4.2.2]; exact run_part_plain W (by kernel_rfl) pb.2) (by rw [e4.2.1, run_equalIn_string W (d + 3) _ _ _ Tryz.underlying9, mk_beq])]
  simp only [Op.eqFields, Sem.run_pure]
  obtain ⟨s0, r0, h0, q0, z0⟩ := a
  obtain ⟨s1, r1, h1, q1, z1⟩ := b
  simp only [UrlP.mk.injEq]
  by_cases c0 : s0 = s1 <;> by_cases c1 : r0 = r1 <;> by_cases c2 : h0 = h1 <;> by_cases c3 : q0 = q1 <;> by_cases c4 : z0 = z1 <;> simp [c0, c1, c2, c3, c4]
theorem url_eq (a b : UrlP) (ha : a.host.v6.length = 8) (hb : b.host.v6.length = 8) (W : World) : (Op.equalIn 10000 62 (.agg (ucells a).toArray) (.agg (ucells b).toArray)).run Tryz.prog W = .ok (decide (a = b)) W := url_eqD 9995 a b ha hb W
end Go.Proofs.YtjbciamhhfcdoaaGreatDoor
namespace Go.Proofs.YtjbciamhhfcdoaaGreatDoor
open Go.RowKit Hs
set_option linter.unusedSimpArgs false
set_option linter.unusedVariables false

/-- The text of the first parts of an address, a dot behind each. -/
def fmtP (v : Nat) : Nat → Bs
  | 0 => []
  | 1 => Lib.decDigits (v / 16777216 % 256) ++ [46]
  | 2 => (Lib.decDigits (v / 16777216 % 256) ++ [46]) ++ (Lib.decDigits (v / 65536 % 256) ++ [46])
  | 3 => ((Lib.decDigits (v / 16777216 % 256) ++ [46]) ++ (Lib.decDigits (v / 65536 % 256) ++ [46])) ++ (Lib.decDigits (v / 256 % 256) ++ [46])
  | _ => (((Lib.decDigits (v / 16777216 % 256) ++ [46]) ++ (Lib.decDigits (v / 65536 % 256) ++ [46])) ++ (Lib.decDigits (v / 256 % 256) ++ [46])) ++ (Lib.decDigits (v % 256) ++ [46])
theorem fmtP_end (v : Nat) : fmtP v 4 = fmtV v ++ [46] := by simp [fmtP, fmtV]
theorem and_u32 (x : Nat) (hx : x < 4294967296) : bits .and .u32 (x : Int) 255 = ((x % 256 : Nat) : Int) := by
  have h := u32_and_nat x 255 hx (by omega)
  have e : x &&& 255 = x % 256 := Nat.and_two_pow_sub_one_eq_mod x 8
  rw [e] at h
  exact h
theorem fmtP_len (v k : Nat) : (fmtP v k).length ≤ 44 := by
  have h : ∀ q, (Lib.decDigits (q % 256)).length ≤ 10 := fun q => decDigits_len _ (by omega)
  have h1 := h (v / 16777216); have h2 := h (v / 65536); have h3 := h (v / 256); have h4 := h v
  match k with
  | 0 => simp [fmtP]
  | 1 => simp [fmtP]; omega
  | 2 => simp [fmtP]; omega
  | 3 => simp [fmtP]; omega
  | k + 4 => simp [fmtP]; omega

set_option maxHeartbeats 2000000 in
theorem i4_format (v : Nat) (w : World) (hB : Base w) (hv : v < 4294967296) : Calls Tryz.prog 88 #[.int .u32 (v : Int)] w fun e w' => e = .returned (.string (mk (fmtV v))) ∧ Below w.heap.size w w' := by
  have HBS := Lib.hid hB
  have HV := Lib.hid hv
  clear hB
  go_enter Tryz.func88, Tryz.ntmps88
  go_wp2
  go_loopw [3, 4] (fun ov iv wr => ∃ (k : Nat) (S : ByteArray), iv = .int .i64 (24 - 8 * (k : Int)) ∧ k ≤ 4 ∧ ov = .string S ∧ Hid (un S = fmtP v k) ∧ Below w.heap.size w wr) (fun _ iv _ => ((match iv with | .int _ z => z | _ => 0) + 8).toNat)
  case atStart => exact ⟨0, ⟨#[]⟩, by go_num, by omega, rfl, Lib.hid rfl, Below.refl _ _⟩
  case round =>
    obtain ⟨k, S, rfl, hk, rfl, hS, hnx⟩ := hrel
    have hSz : S.size ≤ 44 := by rw [← length_un, hS.out]; exact fmtP_len v k
    have hBr := HBS.out.below hnx
    rcases (by omega : k = 0 ∨ k = 1 ∨ k = 2 ∨ k = 3 ∨ k = 4) with rfl | rfl | rfl | rfl | rfl
    · obtain ⟨q, hq⟩ : ∃ q, q = v / 16777216 % 256 := ⟨_, rfl⟩
      have HI := Lib.hid (lib_itoa q wr hBr (by omega))
      have ha : bits .and .u32 ((v : Int) / 16777216) 255 = (q : Int) := by rw [hq, ← and_u32 (v / 16777216) (by omega)]; rfl
      have hq5 : q ≤ 255 := by omega
      have HS := Lib.hid (show fmtP v 1 = fmtP v 0 ++ (Lib.decDigits q ++ [46]) by rw [hq]; rfl)
      have hqz : (Lib.decDigits q).length ≤ 10 := decDigits_len q (by omega)
      clear hBr hq
      go_wp2_with fail
      refine HI.out.mono ?_; rintro e w2 ⟨rfl, hb2⟩
      go_wp2
      all_goals (try (exfalso; omega))
      go_roundw
      case rel => exact ⟨1, _, by go_num, by omega, rfl, Lib.hid (by rw [HS.out, un_append, un_append, hS.out, un_mk]; rfl), hnx.trans (hb2.mono hnx.size)⟩
      case measure => simp
    · obtain ⟨q, hq⟩ : ∃ q, q = v / 65536 % 256 := ⟨_, rfl⟩
      have HI := Lib.hid (lib_itoa q wr hBr (by omega))
      have ha : bits .and .u32 ((v : Int) / 65536) 255 = (q : Int) := by rw [hq, ← and_u32 (v / 65536) (by omega)]; rfl
      have hq5 : q ≤ 255 := by omega
      have HS := Lib.hid (show fmtP v 2 = fmtP v 1 ++ (Lib.decDigits q ++ [46]) by rw [hq]; rfl)
      have hqz : (Lib.decDigits q).length ≤ 10 := decDigits_len q (by omega)
      clear hBr hq
      go_wp2_with fail
      refine HI.out.mono ?_; rintro e w2 ⟨rfl, hb2⟩
      go_wp2
      all_goals (try (exfalso; omega))
      go_roundw
      case rel => exact ⟨2, _, by go_num, by omega, rfl, Lib.hid (by rw [HS.out, un_append, un_append, hS.out, un_mk]; rfl), hnx.trans (hb2.mono hnx.size)⟩
      case measure => simp
    · obtain ⟨q, hq⟩ : ∃ q, q = v / 256 % 256 := ⟨_, rfl⟩
      have HI := Lib.hid (lib_itoa q wr hBr (by omega))
      have ha : bits .and .u32 ((v : Int) / 256) 255 = (q : Int) := by rw [hq, ← and_u32 (v / 256) (by omega)]; rfl
      have hq5 : q ≤ 255 := by omega
      have HS := Lib.hid (show fmtP v 3 = fmtP v 2 ++ (Lib.decDigits q ++ [46]) by rw [hq]; rfl)
      have hqz : (Lib.decDigits q).length ≤ 10 := decDigits_len q (by omega)
      clear hBr hq
      go_wp2_with fail
      refine HI.out.mono ?_; rintro e w2 ⟨rfl, hb2⟩
      go_wp2
      all_goals (try (exfalso; omega))
      go_roundw
      case rel => exact ⟨3, _, by go_num, by omega, rfl, Lib.hid (by rw [HS.out, un_append, un_append, hS.out, un_mk]; rfl), hnx.trans (hb2.mono hnx.size)⟩
      case measure => simp
    · obtain ⟨q, hq⟩ : ∃ q, q = v % 256 := ⟨_, rfl⟩
      have HI := Lib.hid (lib_itoa q wr hBr (by omega))
      have ha : bits .and .u32 ((v : Int)) 255 = (q : Int) := by rw [hq, ← and_u32 (v) (by omega)]
      have hq5 : q ≤ 255 := by omega
      have HS := Lib.hid (show fmtP v 4 = fmtP v 3 ++ (Lib.decDigits q ++ [46]) by rw [hq]; rfl)
      have hqz : (Lib.decDigits q).length ≤ 10 := decDigits_len q (by omega)
      clear hBr hq
      go_wp2_with fail
      refine HI.out.mono ?_; rintro e w2 ⟨rfl, hb2⟩
      go_wp2
      all_goals (try (exfalso; omega))
      go_roundw
      case rel => exact ⟨4, _, by go_num, by omega, rfl, Lib.hid (by rw [HS.out, un_append, un_append, hS.out, un_mk]; rfl), hnx.trans (hb2.mono hnx.size)⟩
      case measure => simp
    · have hS4 : S.size = (fmtV v).length + 1 := by rw [← length_un, hS.out, fmtP_end]; simp
      have hS1 : 1 ≤ S.size := by omega
      have HE := Lib.hid (show S.extract 0 (S.size - 1) = mk (fmtV v) from un_inj (by rw [un_extract, hS.out, fmtP_end, un_mk, hS4]; simp))
      clear hBr hS4
      go_wp2
      all_goals (try (exfalso; omega))
      go_ret
      rw [HE.out]
      exact ⟨rfl, hnx⟩
end Go.Proofs.YtjbciamhhfcdoaaGreatDoor
namespace Go.Proofs.YtjbciamhhfcdoaaGreatDoor
open Go.RowKit Hs
set_option linter.unusedSimpArgs false
set_option linter.unusedVariables false

set_option maxRecDepth 20000 in
set_option maxHeartbeats 4000000 in
theorem i6_format (l : List Nat) (w : World) (hB : Base6 w) (h8 : l.length = 8) (hl : ∀ x ∈ l, x < 65536) : Calls Tryz.prog 89 #[.agg (gcells l).toArray] w fun e w' => e = .returned (.string (mk (fmt6 l))) ∧ Below w.heap.size w w' := by
  have hgood := best_good l
  have hblk := BlkN.new w 58 (gcells l).toArray
  have hbA : Below w.heap.size w (w.alloc (.cells (gcells l).toArray 58)) := (Below.refl _ w).alloc (Nat.le_refl _) _
  have hdef : Hid (fmt6 l = fmtZ l (bestZ l 0 (0, 0))) := Lib.hid rfl
  have HZ := Lib.hid (fun W => i6_zeros l W h8 hl)
  obtain ⟨⟨at', n⟩, hz⟩ : ∃ z, z = bestZ l 0 (0, 0) := ⟨_, rfl⟩
  rw [← hz] at hgood hdef
  simp only [← hz] at HZ
  have hgd := hgood.1
  simp only at hgd
  have B0 := hB.below hbA
  have HBLK := Lib.hid hblk
  have HA := Lib.hid hbA
  clear hz hgood hblk hbA hB
  go_enter Tryz.func89, Tryz.ntmps89
  go_wp2_with ((with_reducible show wpList _ _ _ _ _ _); refine wpList_load_row rfl 58 (.tmp 1) rfl w.heap.size rfl 58 _ _ _ HBLK.out Tryz.underlying58 rfl (by rw [infoArr8]; simp; omega) ?_)
  refine (HZ.out _).mono ?_; rintro e w2 ⟨rfl, hb2⟩
  have B2 := B0.below hb2
  have hblk2 := HBLK.out.below HBLK.out.lt hb2
  have hall := HA.out.trans (hb2.mono HA.out.size)
  clear B0 hb2
  by_cases hn2 : n < 2
  · have hend : Hid (fmt6 l = join6 l) := Lib.hid (by rw [hdef.out]; exact if_pos hn2)
    have g1 : decide ((n : Int) < 2) = true := decide_eq_true (by omega)
    have hp := grps_part hblk2 (some ⟨w.heap.size, 0, none⟩) 0 8 8 (fun _ => rfl) (by omega) (by omega) (by decide)
    rw [List.drop_zero, List.take_of_length_le (by omega)] at hp
    have HJ := Lib.hid (i6_join _ l w2 B2 hp (by omega) hl)
    clear hp hblk2 hdef
    go_wp2_with fail
    all_goals (try (exfalso; omega))
    refine HJ.out.mono ?_; rintro e w3 ⟨rfl, hb3⟩
    go_wp2
    go_ret
    rw [hend.out]
    exact ⟨rfl, hall.trans (hb3.mono hall.size)⟩
  · have hend : Hid (fmt6 l = join6 (l.take at') ++ 58 :: 58 :: join6 (l.drop (at' + n))) := Lib.hid (by rw [hdef.out]; exact if_neg hn2)
    have g1 : decide ((n : Int) < 2) = false := decide_eq_false (by omega)
    obtain ⟨q, hq⟩ : ∃ q, q = at' + n := ⟨_, rfl⟩
    have hq8 : q ≤ 8 := by omega
    obtain ⟨sa, hsa, hsl⟩ := slice_from w.heap.size q hq8
    have hsh := slice_head w.heap.size at' (by omega)
    have hw : IntKind.i64.wrap ((at' : Int) + (n : Int)) = (q : Int) := by rw [IntKind.wrap_i64]; omega
    have hw2 : ((at' : Int) + (n : Int)) = (q : Int) := by omega
    have hp1 := grps_part hblk2 (some ⟨w.heap.size, 0, none⟩) 0 at' 8 (fun _ => rfl) (by omega) (by omega) (by decide)
    have hp2 := grps_part hblk2 (some sa) q (8 - q) (8 - q) (fun h => by rw [hsa.out (by omega)]) (by omega) (by omega) (by unfold maxLen; omega)
    rw [List.drop_zero] at hp1
    rw [List.take_of_length_le (by rw [List.length_drop]; omega)] at hp2
    rw [← hq] at hend
    have hl1 : ∀ x ∈ l.take at', x < 65536 := fun x hx => hl x (List.mem_of_mem_take hx)
    have hl2 : ∀ x ∈ l.drop q, x < 65536 := fun x hx => hl x (List.mem_of_mem_drop hx)
    have hn1 := join6_len _ hl1
    have hn2' := join6_len _ hl2
    rw [List.length_take] at hn1
    rw [List.length_drop] at hn2'
    have J1 := Lib.hid (fun x : Later w2 => i6_join _ (l.take at') x.1 (B2.below x.2) (hp1.below x.2) (by rw [List.length_take]; omega) hl1)
    have J2 := Lib.hid (fun x : Later w2 => i6_join _ (l.drop q) x.1 (B2.below x.2) (hp2.below x.2) (by rw [List.length_drop]; omega) hl2)
    obtain ⟨t1, ht1⟩ : ∃ t, t = join6 (l.take at') := ⟨_, rfl⟩
    obtain ⟨t2, ht2⟩ : ∃ t, t = join6 (l.drop q) := ⟨_, rfl⟩
    rw [← ht1] at hn1 J1 hend
    rw [← ht2] at hn2' J2 hend
    have k1 : t1.length ≤ 40 := by omega
    have k2 : t2.length ≤ 40 := by omega
    have HQ := Lib.hid hq
    clear ht1 ht2 hn1 hn2' hp1 hp2 hl1 hl2 hblk2 hdef hsa hl hq
    go_wp2_with fail
    all_goals (try (exfalso; omega))
    refine wp_region_later w2 (by kernel_rfl) (by kernel_rfl) (Below.refl _ _) ?_
    repeat (go_big_quiet_step (fail))
    go_big_quiet_step (exact Calls.later (J1.out _))
    repeat (go_big_quiet_step (fail))
    go_big_quiet_step (exact Calls.later (J2.out _))
    repeat (go_big_quiet_step (fail))
    refine wpQuiet_nil ?_
    intro _ hw'
    obtain ⟨⟨w5, hb5⟩, rfl⟩ := hw'
    go_wp2
    go_ret
    rw [hend.out]
    exact ⟨ret_str (by simp only [un_append, un_mk]; simp [un]), hall.trans (hb5.mono hall.size)⟩
end Go.Proofs.YtjbciamhhfcdoaaGreatDoor
namespace Go.Proofs.YtjbciamhhfcdoaaGreatDoor
open Go.RowKit Hs
set_option linter.unusedSimpArgs false
set_option linter.unusedVariables false
theorem hostT_no {h : HostP} (hv : hostOk h = false) : hostT h = [] := by unfold hostT; rw [if_neg (by rw [hv]; simp)]
theorem hostT_1 {n : Bs} {v : Nat} {x : List Nat} (hv : hostOk ⟨1, n, v, x⟩ = true) : hostT ⟨1, n, v, x⟩ = n := by unfold hostT; rw [if_pos hv]; rfl
theorem hostT_2 {n : Bs} {v : Nat} {x : List Nat} (hv : hostOk ⟨2, n, v, x⟩ = true) : hostT ⟨2, n, v, x⟩ = fmtV v := by unfold hostT; rw [if_pos hv]; rfl
theorem hostT_3 {n : Bs} {v : Nat} {x : List Nat} (hv : hostOk ⟨3, n, v, x⟩ = true) : hostT ⟨3, n, v, x⟩ = 91 :: (fmt6 x ++ [93]) := by unfold hostT; rw [if_pos hv]; rfl
theorem hostOk_kind {k : Nat} {n : Bs} {v : Nat} {x : List Nat} (hv : hostOk ⟨k, n, v, x⟩ = true) : k = 1 ∨ k = 2 ∨ k = 3 := by
  rw [hostOk_def] at hv
  split at hv
  · omega
  · split at hv
    · omega
    · split at hv
      · omega
      · cases hv
set_option maxRecDepth 20000 in
set_option maxHeartbeats 4000000 in
theorem h_format (h : HostP) (w : World) (hB : Base6 w) (hw : HostW h) (hn : h.name.length ≤ 100000) : Calls Tryz.prog 49 #[.agg (hcells h).toArray] w fun e w' => e = .returned (.string (mk (hostT h))) ∧ Below w.heap.size w w' := by
  obtain ⟨W0, hW0⟩ : ∃ W0, W0 = w.alloc (.cells (hcells h).toArray 60) := ⟨_, rfl⟩
  have hbA : Below w.heap.size w W0 := by rw [hW0]; exact (Below.refl _ w).alloc (Nat.le_refl _) _
  have hb0 : BlkL W0 w.heap.size 60 (hcells h) := by rw [hW0]; exact BlkL.new w _ _
  have HW0 : Hid (w.alloc (.cells (hcells h).toArray 60) = W0) := Lib.hid hW0.symm
  have hsz : W0.heap.size = w.heap.size + 1 := by rw [hW0]; simp
  have B0 := hB.below hbA
  have HV := Lib.hid (h_valid h W0 B0.1 hw hn)
  have HI := Lib.hid (infoHostOf hw.1)
  have HB0 := Lib.hid hb0
  clear hW0 hB
  go_enter Tryz.func49, Tryz.ntmps49
  go_upto_region 1 with fail
  rw [HW0.out]
  clear HW0
  go_wp2_with (refine wpList_load_row rfl 60 (.tmp 1) rfl w.heap.size rfl 60 _ _ _ HB0.out Tryz.underlying60 rfl HI.out ?_)
  refine HV.out.mono ?_; rintro e w1 ⟨rfl, hb1⟩
  have HALL := Lib.hid (hbA.trans (hb1.mono (by omega)))
  have B1 := B0.below hb1
  have hb2 := hb0.below (by omega) hb1
  clear hb1 HB0 hb0 HV hbA
  obtain ⟨ok, hok⟩ : ∃ ok, ok = hostOk h := ⟨_, rfl⟩
  rw [← hok]
  cases ok
  · have hfin := Lib.hid (hostT_no hok.symm)
    clear hok
    go_wp2
    go_ret
    rw [hfin.out]
    exact ⟨rfl, HALL.out⟩
  · obtain ⟨kind, name, v4, v6⟩ := h
    simp only at hn
    have c0 := hb2.c 0 _ (hc_get _).1
    have c1 := hb2.c 1 _ (hc_get _).2.1
    have c2 := hb2.c 2 _ (hc_get _).2.2.1
    simp only at c0 c1 c2
    rcases hostOk_kind hok.symm with rfl | rfl | rfl
    · have hfin := Lib.hid (hostT_1 hok.symm)
      clear hok hb2
      go_wp2
      go_ret
      rw [hfin.out]
      exact ⟨rfl, HALL.out⟩
    · have hfin := Lib.hid (hostT_2 hok.symm)
      have HF := Lib.hid (i4_format v4 w1 B1.1 hw.2.2)
      clear hok hb2
      go_wp2_with fail
      refine HF.out.mono ?_; rintro e w2 ⟨rfl, hb3⟩
      go_wp2
      go_ret
      rw [hfin.out]
      exact ⟨rfl, HALL.out.trans (hb3.mono (by have := HALL.out.size; omega))⟩
    · have hfin := Lib.hid (hostT_3 hok.symm)
      have HF := Lib.hid (i6_format v6 w1 B1 hw.1 hw.2.1)
      have hln := fmt6_len v6 ⟨hw.1, hw.2.1⟩
      have HR := Lib.hid (hb2.range 3 (gcells v6) (fun j v hj => by rw [(hc_get _).2.2.2 j]; exact hj))
      have HIA := Lib.hid (show (Tryz.prog.info? 58).map (·.size) = some (gcells v6).length by rw [infoArr8, length_gcells, hw.1])
      clear hok hb2
      go_wp2_with (refine wpList_load_mid rfl 58 (.tmp 20) rfl w.heap.size 3 rfl (gcells v6) _ HR.out Tryz.underlying58 rfl HIA.out ?_)
      refine HF.out.mono ?_; rintro e w2 ⟨rfl, hb3⟩
      have hs2 : (mk (fmt6 v6)).size ≤ 44 := by rw [size_mk]; exact hln
      go_wp2
      all_goals (try (exfalso; omega))
      go_ret
      rw [hfin.out]
      exact ⟨rfl, HALL.out.trans (hb3.mono (by have := HALL.out.size; omega))⟩
end Go.Proofs.YtjbciamhhfcdoaaGreatDoor
