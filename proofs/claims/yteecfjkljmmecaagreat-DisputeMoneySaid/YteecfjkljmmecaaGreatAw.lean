/- WALK: dispute.Award. -/
import Derived.Test.YteecfjkljmmecaaGreatAd
import Derived.Maps.AppendAt
namespace Go.Proofs.YteecfjkljmmecaaGreat
open Go.RowKit Go.Sort Go.Shelf
theorem sOps : KeyOps Tryz.prog 9 eStr := KeyOps.str Tryz.underlying9
theorem zero9 (w : World) : (zeroValue 9).run Tryz.prog w = .ok (.string ByteArray.empty) w := by kernel_rfl
def aEnc (p : ByteArray × ByteArray) : List Value := [.string p.1, .string p.2]
theorem aEnc_len (p : ByteArray × ByteArray) : (aEnc p).length = 2 := rfl
theorem info49 : (Tryz.prog.info? 49).map (fun i => (i.zero, i.size, i.bytes)) = some (some (.agg #[.string ByteArray.empty, .string ByteArray.empty]), 2, 32) := by kernel_rfl
theorem look_best {w : World} {b : Nat} {M : List (ByteArray × ByteArray)} (h : MapAt eStr eStr w b M) (k : ByteArray) (c : Bool) :
    (Instr.lookup 62 (.map (some b)) (.string k) c).run Tryz.prog w = .ok (if c then .tuple #[.string ((aget M k).getD ByteArray.empty), .bool (aget M k).isSome] else .string ((aget M k).getD ByteArray.empty)) w := by
  have := h.lookup sOps Tryz.underlying62 (zero9 w) k c
  have e : ((aget M k).map eStr).getD (.string ByteArray.empty) = .string ((aget M k).getD ByteArray.empty) := by cases aget M k <;> rfl
  rw [e] at this
  exact this
theorem news_at {W : World} {cs : Array Value} {t : TypeId} : ∀ j u, cs.toList[j]? = some u → (W.alloc (.cells cs t)).cell? ((⟨W.heap.size, 0, none⟩ : Addr).add j) = some u := by
  intro j u hj
  have e : (⟨W.heap.size, 0, none⟩ : Addr).add j = ⟨W.heap.size, j, none⟩ := by
    unfold Addr.add; split <;> simp_all
  rw [e]
  simpa using hj
theorem own_str {w : World} {base : Nat} {v : Value} {ks : List ByteArray} (h : w.ownsRow base 9 1 v ks.length (ks.map eStr)) : ∃ A c, v = .slice A ks.length c ∧ ∀ i k, ks[i]? = some k → ∃ b, A = some ⟨b, 0, none⟩ ∧ w.cell? ⟨b, i, none⟩ = some (.string k) := by
  rcases h.2 with ⟨rfl, h0⟩ | ⟨g, cap, cur, rfl, hb, hh, h1, h2, h3, h4⟩
  · exact ⟨none, 0, by rw [h0], fun i k hk => by have := (List.getElem?_eq_some_iff.1 hk).1; omega⟩
  · refine ⟨_, cap, rfl, fun i k hk => ⟨g, rfl, ?_⟩⟩
    have hj : (ks.map eStr)[i]? = some (.string k) := by rw [List.getElem?_map, hk]; rfl
    rw [← h4, List.getElem?_take] at hj
    split at hj
    · simp only [World.cell?, hh]
      simpa using hj
    · cases hj
theorem ownsRow_block {w : World} {base : Nat} {e : TypeId} {size n : Nat} {v : Value} {xs : List Value} (h : w.ownsRow base e size v n xs) {b : Nat} (hb : v.ownBlock = some b) : base ≤ b ∧ b < w.heap.size := h.lt b hb
theorem ownsRow_base {w : World} {base base' : Nat} {e : TypeId} {size n : Nat} {v : Value} {xs : List Value} (h : w.ownsRow base e size v n xs) (hb : base' ≤ base) : w.ownsRow base' e size v n xs := by
  refine ⟨h.1, ?_⟩
  rcases h.2 with h2 | ⟨g, cap, cur, hv, h1, h2⟩
  · exact .inl h2
  · exact .inr ⟨g, cap, cur, hv, Nat.le_trans hb h1, h2⟩
/-- Why Award says no. -/
def NoAward (n : Int) (w : World) (e : Ending) (w' : World) : Prop := e = .returned (.tuple #[.slice none 0 0, .int .i64 n]) ∧ Only (fun _ => False) w w'
def AwardPost (xs : List Clm) (w : World) (e : Ending) (w' : World) : Prop := ∃ v ga, e = .returned (.tuple #[v, .int .i64 0]) ∧ IsAward xs ga ∧ w'.ownsRow w.heap.size 49 2 v ga.length (ga.flatMap aEnc) ∧ Only (fun _ => False) w w'
set_option maxHeartbeats 2000000 in
theorem award_no (w : World) {v : Value} {xs : List Clm} (h : ReadsC w v xs) (hs : Short xs) (hl : xs.length ≤ 9223372036854775807) (he : allM xs ≠ 0) : Calls Tryz.prog 22 #[v] w (NoAward (allM xs) w) := by
  have hA := claims_any w h hs hl
  have hP : Hid (∀ n W, allM xs = n → Grows w W → NoAward (allM xs) w (.returned (.tuple #[.slice none 0 0, .int .i64 n])) W) := Lib.hid fun n W hn hg => ⟨by rw [hn], hg.only⟩
  unfold AllPost at hA
  generalize allM xs = m at *
  have hAl := Lib.hid hA
  have q1b : (m != 0) = true := by simpa using he
  have q2b : (m == 0) = false := by simpa using he
  clear hA he
  obtain ⟨A, c, rfl, _⟩ := h
  go_enter Tryz.func22, Tryz.ntmps22
  go_wp2_with (first | (go_at_call 29; refine hAl.out.mono ?_; clear hAl; rintro e w1 ⟨rfl, hg⟩))
  go_ret2
  exact hP.out _ _ rfl hg
set_option maxHeartbeats 8000000 in
set_option maxRecDepth 100000 in
theorem award_yes (w : World) {v : Value} {xs : List Clm} (h : ReadsC w v xs) (h0 : 0 < xs.length ∨ ∀ A n c, v = .slice A n c → ∀ a, A = some a → a.spot = none) (hs : Short xs) (hl : xs.length ≤ 4096) (he : allM xs = 0) (hth : ∀ x ∈ xs, x.thing.size ≤ 1000000) : Calls Tryz.prog 22 #[v] w (AwardPost xs w) := by
  have hA := claims_any w h hs (by omega)
  unfold AllPost at hA
  rw [he] at hA
  have hAl := Lib.hid hA
  have hX := Lib.hid h
  have hTH := Lib.hid hth
  have hRk := Lib.hid (fun W (ho : Only (fun _ => False) w W) => rank_any (h.quiet ho) h0 (by omega))
  clear hA he hth
  have hrl : Hid ((rankM xs).length = xs.length) := Lib.hid (rankM_length xs)
  have hrm : Hid (∀ x, x ∈ rankM xs → x.thing.size ≤ 1000000) := Lib.hid fun x hx => hTH.out x ((rankM_perm xs).mem_iff.1 hx)
  obtain ⟨i0, hI0, hz0, hz1, hz2⟩ := info_parts info49
  have hmm := @run_makeMap Tryz.prog
  obtain ⟨A, c, rfl, _⟩ := h
  go_enter Tryz.func22, Tryz.ntmps22
  go_wp2_with (first
    | (go_at_call 29; refine hAl.out.mono ?_; clear hAl; rintro e w1 ⟨rfl, hg⟩; have hO1 := Lib.hid hg.only)
    | (go_at_call 16; have hc := hRk.out _ (hO1.out.alloc (.map #[] 0)); refine hc.mono ?_; clear hc hRk; rintro e w2 ⟨v2, rfl, hrow, ho2⟩; have hR2 := Lib.hid (ReadsC.of_own (xs := rankM xs) (by rw [hrl.out]; exact hrow)); obtain ⟨vA, vc, rfl⟩ := own_sl hrow; have hRow := Lib.hid hrow; have hO2 := Lib.hid ho2; clear hrow ho2))
  have hM0 : Hid (MapAt eStr eStr w2 w1.heap.size (bestM ((rankM xs).take 0))) := Lib.hid ((MapAt.made w1).only hO2.out id)
  have hsz2 : w1.heap.size + 1 ≤ w2.heap.size := by have := hO2.out.size; simpa using this
  have hsz1 : w.heap.size ≤ w1.heap.size := hO1.out.size
  have hvb : ∀ b, (Value.slice vA xs.length vc).ownBlock = some b → w1.heap.size < b := fun b hb => by have := (hRow.out.lt b hb).1; simp at this; omega
  have hOw : Hid (Only (fun _ => False) w w2) := Lib.hid ((hO1.out.alloc _).trans hO2.out fun _ _ => id)
  clear hO1 hO2 hRow
  generalize w1.heap.size = mb at *
  generalize hrk : rankM xs = rs at *
  have hRK := Lib.hid hrk
  clear hrk
  go_loopg [22] (xs.length) (fun g v22 wr => ∃ i : Nat, v22 = .int .i64 (i : Int) ∧ i + g = xs.length ∧ Hid (MapAt eStr eStr wr mb (bestM (rs.take i))) ∧ Hid (Only (fun b => b = mb) w2 wr))
  case atStart => exact ⟨0, rfl, by omega, hM0, Lib.hid (Only.refl _ _)⟩
  case round =>
    obtain ⟨i, rfl, hg, hmi, how⟩ := hrel
    by_cases hi : i < xs.length
    · obtain ⟨x, hx⟩ : ∃ x, rs[i]? = some x := ⟨rs[i]'(by have := hrl.out; omega), List.getElem?_eq_getElem _⟩
      obtain ⟨A', c', hA', hr⟩ := ReadsC.cells wr (hR2.out.only how.out fun _ b hb e => by have := hvb b hb; omega)
      injection hA' with hA1 hA2 hA3
      subst hA1 hA3
      obtain ⟨b, off, rfl, k0, k1, k2, k3, k4⟩ := hr i x hx
      have hst := Lib.hid (bestM_step hx)
      clear hr hA2 hx
      obtain ⟨a1, a2, a3, a4, a5⟩ := x
      simp only at k0 k1 k2 k3 k4
      have hlk := look_best (hmi.out.only ((Only.refl (fun _ => False) wr).alloc (.cells #[.string a1, .string a2, .int .i64 a3, .int .i64 a4, .int .i64 a5] 23)) id) a2 true
      simp only [if_true] at hlk
      have hsb : Hid (∀ b : Bool, (aget (bestM (rs.take i)) a2).isSome = b → bStep (bestM (rs.take i)) ⟨a1, a2, a3, a4, a5⟩ = if b = true then bestM (rs.take i) else aput (bestM (rs.take i)) a2 a1) := Lib.hid fun b hb => by unfold bStep; rw [hb]
      generalize (aget (bestM (rs.take i)) a2).getD ByteArray.empty = gv at hlk
      generalize hs : (aget (bestM (rs.take i)) a2).isSome = sb at hlk
      have hS := Lib.hid (hsb.out _ hs)
      have hl2 : i + 1 ≤ 4096 := by omega
      clear hs hsb
      cases sb
      · go_wp2_with (at_mapUpdate; refine wpList_store_map rfl _ _ _ 62 9 rfl sOps Tryz.underlying62 mb _ (hmi.out.only ((Only.refl (fun _ => False) wr).alloc (.cells #[.string a1, .string a2, .int .i64 a3, .int .i64 a4, .int .i64 a5] 23)) id) rfl a2 a1 rfl rfl ?_; intro w7 hM7 ho7 hs7)
        go_roundg (xs.length - (i + 1))
        case measure => omega
        case rel => exact ⟨i + 1, by simp, by omega, Lib.hid (by rw [hst.out, hS.out]; simpa using hM7), Lib.hid ((how.out.alloc _).trans ho7 fun _ _ => id)⟩
      · go_wp2_with fail
        go_roundg (xs.length - (i + 1))
        case measure => omega
        case rel => exact ⟨i + 1, by simp, by omega, Lib.hid (by rw [hst.out, hS.out]; exact hmi.out.only ((Only.refl (fun _ => False) wr).alloc _) id), Lib.hid (how.out.alloc _)⟩
    · have hie : i = xs.length := by omega
      subst hie
      rw [← hrl.out, List.take_length] at hmi
      have hkb : ∀ k ∈ akeys (bestM rs), k.size ≤ 1000000 := fun k hk => by
        obtain ⟨x, hx, rfl⟩ := best_keys.1 hk
        exact hrm.out x hx
      have hbl := best_length rs
      have hrl' := hrl.out
      have hSK := Lib.hid (sortedKeys_any hmi.out hkb (by omega))
      have hOr : Hid (Only (fun _ => False) w wr) := Lib.hid (hOw.out.new how.out hsz1)
      have hAI := Lib.hid (fun ks hp hs => award_is (l := xs) (ks := ks) (by rw [hRK.out]; exact hp) hs)
      rw [hRK.out] at hAI
      have hmlt := hmi.out.lt
      have hkl : (akeys (bestM rs)).length ≤ 4096 := by simp [akeys]; omega
      clear hkb hbl hrl'
      generalize bestM rs = M at *
      go_wp2_with (first
        | (go_at_call 34; refine (keys_any _ _).mono ?_; rintro e w3 ⟨rfl, rfl⟩)
        | (go_at_call 33; refine (hSK.out).mono ?_; rintro e w4 ⟨v4, ks, rfl, hp, hpw, hrow4, ho4⟩; obtain ⟨sA, sc, rfl, hrs⟩ := own_str hrow4; have hPP := Lib.hid hp; have hPW := Lib.hid hpw; have hO4 := Lib.hid ho4; clear hrow4 ho4 hp hpw hSK))
      have hOk : Hid (Only (fun _ => False) w w4) := Lib.hid ((hOr.out.alloc _).trans hO4.out fun _ _ => id)
      have hM4 : Hid (MapAt eStr eStr w4 mb M) := Lib.hid ((hmi.out.only ((Only.refl (fun _ => False) wr).alloc _) id).only hO4.out id)
      have hks : ks.length ≤ 4096 := by rw [hPP.out.length_eq]; exact hkl
      clear hO4 hOr hmi how hM0
      go_loopg [10, 45] (ks.length) (fun g v10 v45 wr => ∃ i : Nat, v45 = .int .i64 (i : Int) ∧ i + g = ks.length ∧ Hid (Only (fun _ => False) w4 wr) ∧ Hid (wr.ownsRow w4.heap.size 49 2 v10 i (((ks.take i).map (pairOf M)).flatMap aEnc)))
      case atStart => exact ⟨0, rfl, by omega, Lib.hid (Only.refl _ _), Lib.hid ⟨by simp, .inl ⟨rfl, rfl⟩⟩⟩
      case round =>
        obtain ⟨i, rfl, hg, ho, hown⟩ := hrel
        by_cases hi' : i < ks.length
        · obtain ⟨k, hk'⟩ : ∃ k, ks[i]? = some k := ⟨ks[i], List.getElem?_eq_getElem hi'⟩
          obtain ⟨b, rfl, hcell⟩ := hrs i k hk'
          have hc0 := ho.out.cellF hcell
          have hlk := look_best (hM4.out.only ho.out id) k false
          simp only [Bool.false_eq_true, if_false] at hlk
          have htk := Lib.hid (pair_step M hk')
          have hpe : Hid (aEnc (pairOf M k) = [.string k, .string ((aget M k).getD ByteArray.empty)]) := Lib.hid rfl
          obtain ⟨tA, tc, rfl⟩ := own_sl hown.out
          have hge : w4.heap.size ≤ wr.heap.size := ho.out.size
          clear hk' hcell
          generalize (aget M k).getD ByteArray.empty = nm at hlk hpe
          go_wp2_with (at_builtin; refine wpList_append_own_at _ rfl _ _ 45 rfl w4.heap.size 49 i0 _ 2 32 Tryz.underlying45 hI0 hz0 hz1 hz2 rfl (by decide) _ i (((ks.take i).map (pairOf M)).flatMap aEnc) rfl (hown.out.alloc _) ⟨wr.heap.size, 0, none⟩ 1 1 [.string k, .string nm] rfl rfl (news_at (W := wr) (cs := #[.string k, .string nm]) (t := 49)) ?c2 ?c3 ?c4 ?c5 ?_
                       case c2 => intro u hu; simp at hu; rcases hu with rfl | rfl <;> rfl
                       case c3 => unfold maxLen; omega
                       case c4 => omega
                       case c5 => simp; omega
                       intro v1 w8 hown8 hg8 _ hat8)
          go_roundg (ks.length - (i + 1))
          case measure => omega
          case rel =>
            refine ⟨i + 1, by simp, by omega, Lib.hid ((ho.out.alloc _).grown hg8 fun k' hk' hlt' => by have := (hown.out.lt k' hk').1; omega), Lib.hid ?_⟩
            rw [htk.out, List.flatMap_append, List.flatMap_cons, hpe.out]
            simpa using hown8
        · have hie : i = ks.length := by omega
          subst hie
          rw [List.take_length] at hown
          go_wp2_with fail
          go_ret2
          exact ⟨_, _, rfl, hAI.out ks hPP.out hPW.out, by rw [List.length_map]; exact ownsRow_base hown.out hOk.out.size, hOk.out.trans ho.out fun _ _ => id⟩
end Go.Proofs.YteecfjkljmmecaaGreat
