/- The parts PmA, PmB, RefK, PpA, PpC, PpD, PpE, RpC, RpD of one proof, one behind the other. -/
import Derived.Test.YtjjkimjdmpeddaaGreatDoorJ28
import Derived.Test.YtjjkimjdmpeddaaGreatDoorJ29
import Derived.Test.YtjjkimjdmpeddaaGreatDoorJ03
import Derived.RegionTactic
import Derived.ChangeAlike
import Derived.Test.YtjjkimjdmpeddaaGreatDoorJ26
import Derived.Deep.RegionHeld3
import Derived.Test.YtjjkimjdmpeddaaGreatDoorJ16

/- Walks over policy.ParseMappings: its closures. -/
section
set_option linter.unusedSimpArgs false
set_option linter.unusedVariables false
namespace Go.Proofs.YtjjkimjdmpeddaaGreatDoor
open Go.RowKit Go.Cr

theorem en11 : ∀ args W, (callFunc 74 args).run Tryz.prog W = .ok (.enter 74 args) W := enters_of Tryz.func74 (by kernel_rfl) rfl
theorem en1 : ∀ args W, (callFunc 73 args).run Tryz.prog W = .ok (.enter 73 args) W := enters_of Tryz.func73 (by kernel_rfl) rfl
set_option maxRecDepth 100000 in
set_option maxHeartbeats 4000000 in
theorem pm11 (i : Nat) (v : Value) (y : List UInt8) (g : Nat) (s0 s1 : ByteArray) (w : World) (hG : Glo w) (hv : IsB w v y) (hL : y.length ≤ 90000) (hb : Blk w g 68 #[.string s0, .string s1]) :
    Calls Tryz.prog 74 #[.int .i64 (i : Int), v, .pointer (some ⟨g, 0, none⟩)] w (RetId y g (if i = 0 then 0 else 1) 68 #[.string s0, .string s1] w) := by
  have H0 := Lib.hid (polId v y g 0 _ _ s0 w hG hv hL hb rfl)
  have H1 := Lib.hid (polId v y g 1 _ _ s1 w hG hv hL hb rfl)
  obtain ⟨A, c, rfl⟩ := isB_slice hv
  clear hG hv hb hL
  by_cases hi : i = 0
  · rw [if_pos hi]
    have hi' : (i : Int) = 0 := by omega
    rw [hi']
    clear hi' hi
    go_enter Tryz.func74, Tryz.ntmps74
    go_wp2_with (((go_at_call 75); (with_reducible refine (H0.out).mono ?_); rintro e w1 ⟨s, rfl, h1, h2, h3⟩))
    go_ret
    exact ⟨s, rfl, h1, h2, h3⟩
  · rw [if_neg hi]
    have hn : ((i : Int) == 0) = false := beq_eq_false_iff_ne.2 (by omega)
    clear hi
    go_enter Tryz.func74, Tryz.ntmps74
    go_wp2_with (((go_at_call 75); (with_reducible refine (H1.out).mono ?_); rintro e w1 ⟨s, rfl, h1, h2, h3⟩))
    go_ret
    exact ⟨s, rfl, h1, h2, h3⟩

/-- What is kept of old: the globals and an octet string. -/
def GB (v : Value) (b : List UInt8) (w : World) : Prop := Glo w ∧ IsB w v b
theorem GB.below {v : Value} {b : List UInt8} {a w : World} (h : GB v b a) (hb : Below a.heap.size a w) : GB v b w := ⟨h.1.below hb, h.2.below hb⟩
theorem GB.old {B : Nat} {v : Value} {b : List UInt8} {w : World} (h : Old B (GB v b) w) : GB v b w := h.out fun _ _ h hb => h.below hb
/-- What each keeps in the pair. -/
def InvM1 (B g : Nat) (v : Value) (x : List UInt8) (ls : List (List UInt8)) (i : Nat) (w : World) : Prop :=
  Old B (GB v x) w ∧ ∃ s0 s1 : ByteArray, Blk w g 68 #[.string s0, .string s1] ∧ (0 < i → ∀ t, idL (ls.getD 0 []) = some t → s0 = bStr t) ∧ (1 < i → ∀ t, idL (ls.getD 1 []) = some t → s1 = bStr t)
theorem errNe : ¬ ((fun u => u = 68) 38) := by decide
theorem elNe : ¬ ((fun u => u = 68) 118) := by decide
theorem part_len {b : List UInt8} {least most : Nat} {ls : List (List UInt8)} (h : eachL least most b = some ls) {p : List UInt8} (hp : p ∈ ls) : p.length ≤ b.length := by
  have h1 := (eachL_ok h).1
  have h2 := seqB_len ls
  have h3 := mem_flat_len hp
  rw [← h1] at h2
  omega
/-- each over a pair. -/
def RetM1 (x : List UInt8) (g : Nat) (w : World) (e : Ending) (w' : World) : Prop :=
  ∃ (ec eo : Int) (s0 s1 : ByteArray), e = .returned (errV (ec, eo)) ∧ (ec == 0) = goodM x ∧ Blk w' g 68 #[.string s0, .string s1] ∧ (goodM x = true → rawM x = (s0, s1)) ∧ Far g (fun u => u = 68) w.heap.size w w'
theorem pm1_each (v : Value) (x : List UInt8) (B g : Nat) (s0 s1 : ByteArray) (w : World) (hO : Old B (GB v x) w) (hg : B ≤ g) (hL : x.length ≤ 90000) (hb : Blk w g 68 #[.string s0, .string s1]) :
    Calls Tryz.prog 58 #[v, .int .i64 2, .int .i64 2, .func (.func 74) #[] #[.pointer (some ⟨g, 0, none⟩)]] w (RetM1 x g w) := by
  have hv := (GB.old hO).2
  cases hls : eachL 2 2 x with
  | none =>
    have hgd : goodM x = false := by unfold goodM; rw [hls]
    refine (each_none v x 2 2 _ _ w hv (by omega) hls).mono fun e w' ⟨hb', ec, eo, h1, h2, h3, he⟩ => ⟨ec, eo, s0, s1, he, ?_, hb.call hb', fun h => ?_, Far.of_below hb'⟩
    · rw [hgd]; exact beq_eq_false_iff_ne.2 (by omega)
    · rw [hgd] at h; cases h
  | some ls =>
    obtain ⟨y0, y1, rfl⟩ : ∃ y0 y1, ls = [y0, y1] := by
      obtain ⟨_, h1, h2, _⟩ := eachL_ok hls
      match ls, h1, h2 with
      | [y0, y1], _, _ => exact ⟨y0, y1, rfl⟩
      | [], h, _ => simp at h
      | [_], h, _ => simp at h
      | _ :: _ :: _ :: _, _, h => simp at h
    have hgd : goodM x = ((idL y0).isSome && (idL y1).isSome) := by unfold goodM; rw [hls]
    have hrw : rawM x = (bStr ((idL y0).getD []), if (idL y0).isSome then bStr ((idL y1).getD []) else bStr []) := by unfold rawM; rw [hls]
    have hgd2 : (List.range [y0, y1].length).all (fun i => (idL ([y0, y1].getD i [])).isSome) = goodM x := by
      rw [hgd, show [y0, y1].length = 2 from rfl, show List.range 2 = [0, 1] from rfl]
      simp
    have hfin : ∀ W, InvM1 B g v x [y0, y1] 2 W → ∃ s0 s1 : ByteArray, Blk W g 68 #[.string s0, .string s1] ∧ (goodM x = true → rawM x = (s0, s1)) := fun W ⟨_, s0, s1, hk, h0, h1⟩ => ⟨s0, s1, hk, fun h => by
      rw [hgd, Bool.and_eq_true] at h
      obtain ⟨t0, e0⟩ := Option.isSome_iff_exists.1 h.1
      obtain ⟨t1, e1⟩ := Option.isSome_iff_exists.1 h.2
      rw [hrw, h0 (by decide) t0 e0, h1 (by decide) t1 e1]
      simp [e0, e1]⟩
    refine (each_some v x 2 2 74 #[.pointer (some ⟨g, 0, none⟩)] w [y0, y1] (fun i => (idL ([y0, y1].getD i [])).isSome) B g (fun u => u = 68) (InvM1 B g v x [y0, y1]) hv (by omega) hls en11 errNe elNe ?_ ?_ ?_ ?_).mono ?_
    · exact fun i W h => h.1.map fun _ h => h.2
    · exact fun W hW hs => ⟨hO.below hW, s0, s1, hb.call hW, fun h => absurd h (by decide), fun h => absurd h (by decide)⟩
    · rintro i W W' ⟨h1, t0, t1, hk, h2, h3⟩ hf
      have hlt := hb.lt
      exact ⟨h1.only hf (by omega), t0, t1, hk.only hf (by omega), h2, h3⟩
    · rintro i hi W u ⟨h1, t0, t1, hk, h2, h3⟩ hu
      have hi2 : i < 2 := hi
      refine (pm11 i u _ g t0 t1 W (GB.old h1).1 hu.now (by have := part_len hls (List.getElem_mem hi); omega) hk).mono ?_
      rintro e w' ⟨s, rfl, k1, k2, k3⟩
      have hgi : [y0, y1].getD i [] = [y0, y1][i] := by rcases (by omega : i = 0 ∨ i = 1) with rfl | rfl <;> rfl
      refine ⟨by show Ending.returned (.bool (idL [y0, y1][i]).isSome) = Ending.returned (.bool (idL ([y0, y1].getD i [])).isSome); rw [hgi], ⟨h1.far k3 hg, ?_⟩, k3⟩
      rcases (by omega : i = 0 ∨ i = 1) with rfl | rfl
      · exact ⟨s, t1, k2, fun _ => k1, fun h => absurd h (by decide)⟩
      · exact ⟨t0, s, k2, fun _ => h2 (by decide), fun _ => k1⟩
    · rintro e w' ⟨hf, ⟨hok, rfl, hfn⟩ | ⟨hok, ec, eo, h1, h2, h3, rfl, m, hm, _, t0, t1, hk, _, _⟩⟩
      · obtain ⟨t0, t1, hk, hr⟩ := hfin _ hfn
        exact ⟨0, 0, t0, t1, rfl, by rw [← hgd2, hok]; rfl, hk, hr, hf⟩
      · rw [hgd2] at hok
        exact ⟨ec, eo, t0, t1, rfl, by rw [hok]; exact beq_eq_false_iff_ne.2 (by omega), hk, fun h => (by rw [hok] at h; cases h), hf⟩
end Go.Proofs.YtjjkimjdmpeddaaGreatDoor
end

/- Walks over policy.ParseMappings: the outer closure and the function. -/
section
set_option linter.unusedSimpArgs false
set_option linter.unusedVariables false
namespace Go.Proofs.YtjjkimjdmpeddaaGreatDoor
open Go.RowKit Go.Cr

theorem ulMsP : Tryz.prog.underlying 48 = some (.slice 68) := by kernel_rfl
theorem infoMp : (Tryz.prog.info? 68).map (fun i => (i.zero, i.size, i.bytes)) = some (some (.agg #[.string ⟨#[]⟩, .string ⟨#[]⟩]), 2, 32) := by kernel_rfl
def TpM (t : TypeId) : Prop := t = 48 ∨ t = 68
/-- What the outer closure leaves: one mapping more. -/
def RetM2 (x : List UInt8) (g c : Nat) (ms : List Mp) (w : World) (e : Ending) (w' : World) : Prop :=
  ∃ (vo : Value) (m : Mp), e = .returned (.bool (goodM x)) ∧ (goodM x = true → m = rawM x) ∧ Blk w' g 48 #[vo] ∧ OwL repT (fun b => b ≠ c) w' (g + 1) 68 vo (ms ++ [m]) ∧ Far g TpM w.heap.size w w'
set_option maxRecDepth 100000 in
set_option maxHeartbeats 4000000 in
theorem pm1 (i : Nat) (v : Value) (x : List UInt8) (g c : Nat) (vo : Value) (ms : List Mp) (w : World) (hG : Glo w) (hv : IsB w v x) (hL : x.length ≤ 90000)
    (hb : Blk w g 48 #[vo]) (ho : OwL repT (fun b => b ≠ c) w (g + 1) 68 vo ms) (hn : ms.length ≤ 900000) (hc : c < w.heap.size) :
    Calls Tryz.prog 73 #[.int .i64 (i : Int), v, .pointer (some ⟨g, 0, none⟩)] w (RetM2 x g c ms w) := by
  have HE := Lib.hid (pm1_each v x w.heap.size w.heap.size ⟨#[]⟩ ⟨#[]⟩ (w.alloc (.cells #[.string ⟨#[]⟩, .string ⟨#[]⟩] 68)) ⟨w, ⟨hG, hv⟩, Nat.le_refl _, (Below.refl _ _).alloc (Nat.le_refl _) _⟩ (Nat.le_refl _) hL (Blk.new _ _ _))
  obtain ⟨A, k, rfl⟩ := isB_slice hv
  obtain ⟨Ao, ko, rfl⟩ := ho.slice
  have lg := hb.lt
  have HO := Lib.hid ho
  have HBK := Lib.hid hb
  have HN := Lib.hid hn
  obtain ⟨i0, hi0, hz0, hz1, hz2⟩ := info_parts infoMp
  unfold RetM1 at HE
  unfold RetM2
  generalize goodM x = B at *
  generalize rawM x = M at *
  clear hG hv hL hb ho hn
  go_enter Tryz.func73, Tryz.ntmps73
  go_wp2_with (first | ((go_at_call 58); (with_reducible refine (HE.out).mono ?_); rintro e w1 ⟨ec, eo, s0, s1, rfl, hgd, hk1, hrw, hf1⟩; have HB1 := Lib.hid (((Below.refl _ _).alloc (Nat.le_refl _) _).trans (hf1.below (B' := w.heap.size) (by simp) (Nat.le_refl _))); have JG := HBK.out.call HB1.out; have lG := JG.lt; have qG := JG.q; have fG := JG.fz; have lK := hk1.lt; have qK := hk1.q; have HRW := Lib.hid hrw; have HO1 := Lib.hid (HO.out.below HB1.out); have HK1 := Lib.hid hk1; have HG1 := Lib.hid JG; clear hrw hf1 hk1 JG) | (at_builtin; refine wpList_appL (r := repT) (X := fun b => b ≠ c) _ rfl _ _ 48 rfl (g + 1) 68 ulMsP hi0 hz0 hz1 hz2 rfl (by decide) _ ms rfl ((HO1.out.alloc _).alloc _) _ [.string s0, .string s1] (s0, s1) rfl (isR_at rfl (by simp)) rfl ?n1 ?b1 ?x1 ?_))
  case n1 => have := HN.out; omega
  case b1 => simp; omega
  case x1 => simp; omega
  intro v5 w5 ho5 hb5 hg5
  obtain ⟨A5, k5, hv5⟩ := ho5.slice
  generalize hL5 : (ms ++ [(s0, s1)]).length = L5 at hv5
  subst hv5
  have hne := HO1.out.notOld (g := g) (by omega)
  have J5 := Blk.grown ((HG1.out.alloc _).alloc _) hg5 hne
  have E5 := Blk.grown ((Blk.new w1 38 #[.int .i64 ec, .int .i64 eo]).alloc _) hg5 (HO1.out.notNew (Nat.le_refl _))
  have lJ5 := J5.lt
  have qJ5 := J5.q
  have fJ5 := J5.fz
  have lE5 := E5.lt
  have qE5 := E5.q
  have HJ5 := Lib.hid J5
  have HO5 := Lib.hid ho5
  have HG5 := Lib.hid hg5
  clear ho5 hb5 hg5 hne J5 E5
  go_wp2
  refine bodyPost_ret (v := .bool B) (by simp only [results, Tryz.results73]; go_simp) rfl ?_
  have z1 := HB1.out.size
  obtain ⟨xs, hrow, _⟩ := HO1.out
  have F1 : Far g TpM w.heap.size w ((w1.alloc (.cells #[.int .i64 ec, .int .i64 eo] 38)).alloc (.cells #[.string s0, .string s1] 68)) := ((Far.of_below HB1.out).alloc z1 _).alloc (by simp; omega) _
  have F2 := F1.grown HG5.out (by simp; omega) (ownsRow_below (ownsRow_below hrow ((Below.refl _ _).alloc (Nat.le_refl _) _)) ((Below.refl _ _).alloc (Nat.le_refl _) _)) (Nat.le_succ _) (.inr rfl)
  have F3 := F2.setRow (p := ⟨g, 0, none⟩) HJ5.out (Nat.le_refl _) (.inl rfl) (.slice A5 L5 k5)
  exact ⟨.slice A5 L5 k5, (s0, s1), rfl, fun h => (HRW.out h).symm, HJ5.out.set_ 0 _, HO5.out.setLow (Nat.lt_succ_self g) _, F3⟩

/-- What is kept while the outer closure runs over the elements. -/
def InvM2 (B g c : Nat) (v : Value) (b : List UInt8) (ls : List (List UInt8)) (i : Nat) (w : World) : Prop :=
  c < w.heap.size ∧ Old B (GB v b) w ∧ ∃ (vo : Value) (ms : List Mp), Blk w g 48 #[vo] ∧ OwL repT (fun b => b ≠ c) w (g + 1) 68 vo ms ∧ ms.length = i ∧ ∀ j (hj : j < ms.length), goodM (ls.getD j []) = true → ms[j] = rawM (ls.getD j [])
theorem errNe2 : ¬ TpM 38 := by unfold TpM; decide
theorem elNe2 : ¬ TpM 118 := by unfold TpM; decide
/-- each over the elements: the list that is kept. -/
def RetM3 (b : List UInt8) (g : Nat) (w : World) (e : Ending) (w' : World) : Prop :=
  ∃ (ec eo : Int) (vo : Value) (ms : List Mp), e = .returned (errV (ec, eo)) ∧ Blk w' g 48 #[vo] ∧ OwL repT (fun _ => True) w' (g + 1) 68 vo ms ∧ Far g TpM w.heap.size w w' ∧ (0 ≤ eo ∧ eo ≤ b.length) ∧
    ((ec = 0 ∧ eo = 0 ∧ ∃ ls, eachL 1 2147483647 b = some ls ∧ ls.all goodM = true ∧ ms = ls.map rawM) ∨ (0 < ec ∧ ∀ ls, eachL 1 2147483647 b = some ls → ls.all goodM = false))
theorem pm2_each (v : Value) (b : List UInt8) (B g : Nat) (w : World) (hO : Old B (GB v b) w) (hg : B ≤ g) (hL : b.length ≤ 90000) (hb : Blk w g 48 #[.slice none 0 0]) :
    Calls Tryz.prog 58 #[v, .int .i64 1, .int .i64 2147483647, .func (.func 73) #[] #[.pointer (some ⟨g, 0, none⟩)]] w (RetM3 b g w) := by
  have hv := (GB.old hO).2
  have hlt := hb.lt
  cases hls : eachL 1 2147483647 b with
  | none =>
    refine (each_none v b 1 2147483647 _ _ w hv (by omega) hls).mono fun e w' ⟨hb', ec, eo, h1, h2, h3, he⟩ => ⟨ec, eo, _, [], he, hb.call hb', OwL.nil_ _ _ _ _, Far.of_below hb', ⟨h2, h3⟩, .inr ⟨h1, fun ls h => ?_⟩⟩
    rw [hls] at h; cases h
  | some ls =>
    have hcnt : ls.length ≤ 90000 := by
      obtain ⟨h1, _, _, h4⟩ := eachL_ok hls
      have h2 := cnt_flat h4
      have h3 := seqB_len ls
      rw [← h1] at h3
      omega
    refine (each_some v b 1 2147483647 73 #[.pointer (some ⟨g, 0, none⟩)] w ls (fun i => goodM (ls.getD i [])) B g TpM (InvM2 B g w.heap.size v b ls) hv (by omega) hls en1 errNe2 elNe2 ?_ ?_ ?_ ?_).mono ?_
    · exact fun i W h => h.2.1.map fun _ h => h.2
    · exact fun W hW hs => ⟨hs, hO.below hW, _, [], hb.call hW, OwL.nil_ _ _ _ _, rfl, fun j hj => absurd hj (by simp)⟩
    · rintro i W W' ⟨h0, h1, vo, ms, hk, ho, hn, hr⟩ hf
      exact ⟨Nat.lt_of_lt_of_le h0 hf.size, h1.only hf (by omega), vo, ms, hk.only hf (by omega), ho.only hf (fun _ _ h => h), hn, hr⟩
    · rintro i hi W u ⟨h0, h1, vo, ms, hk, ho, hn, hr⟩ hu
      refine (pm1 i u _ g w.heap.size vo ms W (GB.old h1).1 hu.now (by have := part_len hls (List.getElem_mem hi); omega) hk ho (by omega) h0).mono ?_
      rintro e w' ⟨vo', m, rfl, k1, k2, k3, k4⟩
      have hgi : ls.getD i [] = ls[i] := by simp [hi]
      refine ⟨by show Ending.returned (.bool (goodM ls[i])) = Ending.returned (.bool (goodM (ls.getD i []))); rw [hgi], ⟨Nat.lt_of_lt_of_le h0 k4.size, h1.far k4 hg, vo', ms ++ [m], k2, k3, by simp [hn], fun j hj hgj => ?_⟩, k4⟩
      by_cases hjl : j < ms.length
      · rw [List.getElem_append_left hjl]; exact hr j hjl hgj
      · have hje : j = ms.length := by simp at hj; omega
        subst hje
        rw [List.getElem_append_right (Nat.le_refl _)]
        have e : ls.getD ms.length [] = ls[i] := by rw [hn]; exact hgi
        rw [e] at hgj ⊢
        simpa using k1 hgj
    · rintro e w' ⟨hf, ⟨hok, rfl, _, _, vo, ms, hk, ho, hn, hr⟩ | ⟨hok, ec, eo, h1, h2, h3, rfl, m, hm, _, _, vo, ms, hk, ho, hn, hr⟩⟩
      · have hall : ls.all goodM = true := by
          rw [List.all_eq_true] at hok ⊢
          intro p hp
          obtain ⟨j, hj, rfl⟩ := List.mem_iff_getElem.1 hp
          have := hok j (by simp [hj])
          simpa [hj] using this
        refine ⟨0, 0, vo, ms, rfl, hk, ho.weak (fun _ _ _ _ => trivial), hf, ⟨by omega, by omega⟩, .inl ⟨rfl, rfl, ls, hls, hall, ?_⟩⟩
        apply List.ext_getElem (by simp [hn])
        intro j hj hj'
        have hjl : j < ls.length := by omega
        have := hr j hj (by simpa [hjl] using List.all_eq_true.1 hall _ (List.getElem_mem hjl))
        rw [this]
        simp [hjl]
      · refine ⟨ec, eo, vo, ms, rfl, hk, ho.weak (fun _ _ _ _ => trivial), hf, ⟨h2, h3⟩, .inr ⟨h1, fun ls' h => ?_⟩⟩
        rw [hls] at h
        injection h with h
        subst h
        rw [Bool.eq_false_iff] at hok ⊢
        intro hall
        refine hok ?_
        rw [List.all_eq_true] at hall ⊢
        intro j hj
        have hjl : j < ls.length := by simpa using hj
        simpa [hjl] using hall _ (List.getElem_mem hjl)

/-- What ParseMappings leaves. -/
def RetPMs (r : Option (List Mp)) (L : Nat) (w : World) (e : Ending) (w' : World) : Prop := Below w.heap.size w w' ∧ match r with
  | none => ∃ ec eo : Int, 0 < ec ∧ 0 ≤ eo ∧ eo ≤ L ∧ e = .returned (.tuple #[.slice none 0 0, errV (ec, eo)])
  | some ms => ∃ A k, e = .returned (.tuple #[.slice A ms.length k, errV (0, 0)]) ∧ OwL repT (fun _ => True) w' w.heap.size 68 (.slice A ms.length k) ms
theorem rawM_size {x : List UInt8} (h : goodM x = true) : (rawM x).1.size ≤ 21 * (x.length + 1) ∧ (rawM x).2.size ≤ 21 * (x.length + 1) := by
  unfold goodM at h
  split at h
  · rename_i y0 y1 he
    rw [Bool.and_eq_true] at h
    obtain ⟨s0, h0⟩ := Option.isSome_iff_exists.1 h.1
    obtain ⟨s1, h1⟩ := Option.isSome_iff_exists.1 h.2
    have l0 := idL_len h0
    have l1 := idL_len h1
    have p0 := eachL_part he (p := y0) (by simp)
    have p1 := eachL_part he (p := y1) (by simp)
    have hr : rawM x = (bStr s0, bStr s1) := by unfold rawM; rw [he]; simp [h0, h1]
    rw [hr]
    have e0 : (bStr s0).size = s0.length := by show s0.toArray.size = _; simp
    have e1 : (bStr s1).size = s1.length := by show s1.toArray.size = _; simp
    simp only
    omega
  · cases h
theorem szM_raw {b : List UInt8} {ls : List (List UInt8)} (hL : b.length ≤ 4700) (h : eachL 1 2147483647 b = some ls) (hg : ls.all goodM = true) : SzM (ls.map rawM) := by
  have := eachL_cnt h
  refine ⟨by simp; omega, fun m hm => ?_⟩
  obtain ⟨x, hx, rfl⟩ := List.mem_map.1 hm
  have h1 := rawM_size (List.all_eq_true.1 hg x hx)
  have h2 := eachL_part h hx
  omega
set_option maxRecDepth 100000 in
set_option maxHeartbeats 8000000 in
theorem polParseM_no (v : Value) (b : List UInt8) (w : World) (hG : Glo w) (hv : IsB w v b) (hL : b.length ≤ 4700) (hbad : ∀ ls, eachL 1 2147483647 b = some ls → ls.all goodM = false) :
    Calls Tryz.prog 33 #[v] w (RetPMs none b.length w) := by
  have HE := Lib.hid (pm2_each v b w.heap.size (w.heap.size + 1) ((w.alloc (.cells #[.int .i64 0, .int .i64 0] 38)).alloc (.cells #[.slice none 0 0] 48)) ⟨w, ⟨hG, hv⟩, Nat.le_refl _, ((Below.refl _ _).alloc (Nat.le_refl _) _).alloc (by simp) _⟩ (Nat.le_succ _) (by omega) (blk_in (by simp)))
  obtain ⟨A, k, rfl⟩ := isB_slice hv
  unfold RetM3 at HE
  have HBAD := Lib.hid hbad
  clear hG hv hbad hL
  go_enter Tryz.func33, Tryz.ntmps33
  go_wp2_with (((go_at_call 58); (with_reducible refine (HE.out).mono ?_); rintro e w1 ⟨ec, eo, vo, ms, rfl, hk1, ho1, hf1, heo, hrest⟩; have HB1 := Lib.hid ((((Below.refl _ w).alloc (Nat.le_refl _) _).alloc (by simp) _).trans (hf1.below (B' := w.heap.size) (by simp; omega) (Nat.le_succ _))); have hec : 0 < ec := (by rcases hrest with ⟨_, _, ls, h1, h2, _⟩ | h; exact absurd (HBAD.out ls h1) (by rw [h2]; decide); exact h.1); have hn : (ec == 0) = false := beq_eq_false_iff_ne.2 (by omega); have hn' : (ec != 0) = true := (by simp; omega); have K1 := (((Blk.new w 38 #[.int .i64 0, .int .i64 0]).alloc (.cells #[.slice none 0 0] 48)).farR hf1 (by simp; omega) (.inl (Nat.lt_succ_self _))); have qK1 := K1.q; have fK1 := K1.fz; have lK1 := K1.lt; have HEO := Lib.hid heo; clear hrest hk1 ho1 hf1 K1 heo))
  go_region
  all_goals
    go_wp2
    refine bodyPost_ret (v := .tuple #[.slice none 0 0, errV (ec, eo)]) (by simp only [results, Tryz.results33]; go_simp) rfl ?_
    have s1 := HB1.out.size
    have b1 := HB1.out
    exact ⟨by ((repeat' (first | (with_reducible exact Below.refl _ _) | (with_reducible assumption) | (with_reducible refine Below.setCell ?_ ?_ _) | (with_reducible refine Below.alloc ?_ ?_ _) | (with_reducible refine Below.drew ?_) | (with_reducible refine below_drewN ?_ _) | (with_reducible refine Below.step (by with_reducible assumption) ?_ ?_))) <;> (first | omega | (simp; done) | (simp; omega))), ec, eo, hec, HEO.out.1, HEO.out.2, rfl⟩

/-- each over the elements of mappings. -/
def RetM3Y (g : Nat) (ms : List Mp) (w : World) (e : Ending) (w' : World) : Prop :=
  ∃ A k, e = .returned (errV (0, 0)) ∧ Blk w' g 48 #[.slice A ms.length k] ∧ OwL repT (fun _ => True) w' (g + 1) 68 (.slice A ms.length k) ms ∧ Far g TpM w.heap.size w w'
theorem RetM3.yes {b : List UInt8} {g : Nat} {w w' : World} {e : Ending} {ls : List (List UInt8)} (h : RetM3 b g w e w') (hls : eachL 1 2147483647 b = some ls) (hg : ls.all goodM = true) : RetM3Y g (ls.map rawM) w e w' := by
  obtain ⟨ec, eo, vo, ms, rfl, hk, ho, hf, _, ⟨h0, h0', ls', h1, h2, h3⟩ | ⟨_, h⟩⟩ := h
  · rw [hls] at h1
    injection h1 with h1
    subst h0 h0' h1 h3
    obtain ⟨A, k, rfl⟩ := ho.slice
    exact ⟨A, k, rfl, hk, ho, hf⟩
  · have := h ls hls
    rw [hg] at this
    cases this
set_option maxRecDepth 100000 in
set_option maxHeartbeats 8000000 in
theorem polParseM_bad (v : Value) (b : List UInt8) (w : World) (hG : Glo w) (hv : IsB w v b) (hL : b.length ≤ 4700) (ls : List (List UInt8)) (hls : eachL 1 2147483647 b = some ls) (hg : ls.all goodM = true) (hok : okM (ls.map rawM) = false) :
    Calls Tryz.prog 33 #[v] w (RetPMs none b.length w) := by
  have HE := Lib.hid ((pm2_each v b w.heap.size (w.heap.size + 1) ((w.alloc (.cells #[.int .i64 0, .int .i64 0] 38)).alloc (.cells #[.slice none 0 0] 48)) ⟨w, ⟨hG, hv⟩, Nat.le_refl _, ((Below.refl _ _).alloc (Nat.le_refl _) _).alloc (by simp) _⟩ (Nat.le_succ _) (by omega) (blk_in (by simp))).mono fun e w' h => h.yes hls hg)
  have hz := szM_raw hL hls hg
  clear hls hg
  generalize ls.map rawM = ms at *
  have HP : Hid (∀ W A k, Glo W → IsMs W (.slice A ms.length k) ms → Calls Tryz.prog 31 #[.slice A ms.length k] W (RetB (.bool false) W)) := fun W A k g h => by have := polValidM (.slice A ms.length k) ms W g h hz; rwa [hok] at this
  have HF := Lib.hid (polBad 0)
  have HG := Lib.hid hG
  obtain ⟨A, k, rfl⟩ := isB_slice hv
  unfold RetM3Y at HE
  simp only [errV] at HE HF
  have HBL := Lib.hid (show (0 : Int) ≤ b.length by omega)
  clear hG hv hL hz hok
  go_enter Tryz.func33, Tryz.ntmps33
  go_wp2_with (first | ((go_at_call 58); (with_reducible refine (HE.out).mono ?_); rintro e w1 ⟨A1, k1, rfl, hk1, ho1, hf1⟩; have HB1 := Lib.hid ((((Below.refl _ w).alloc (Nat.le_refl _) _).alloc (by simp) _).trans (hf1.below (B' := w.heap.size) (by simp; omega) (Nat.le_succ _))); have K1 := (((Blk.new w 38 #[.int .i64 0, .int .i64 0]).alloc (.cells #[.slice none 0 0] 48)).farR hf1 (by simp; omega) (.inl (Nat.lt_succ_self _))); have lK1 := K1.lt; have qk1 := hk1.q; have lk1 := hk1.lt; have HK1 := Lib.hid K1; have HO1 := Lib.hid ho1; clear hk1 ho1 hf1 K1) | ((go_at_call 31); (with_reducible refine (HP.out _ _ _ ((HG.out.below HB1.out).alloc _) ((isMs_of HO1.out.isL).alloc _)).mono ?_); rintro e w2 ⟨rfl, hbw2⟩; have HB2 := Lib.hid ((HB1.out.alloc HB1.out.size _).trans (hbw2.mono (by have := HB1.out.size; simp; omega))); have K2 := (HK1.out.alloc _).call hbw2; have HK2 := Lib.hid K2; clear hbw2 K2) | ((go_at_call 62); (with_reducible refine (HF.out _).mono ?_); rintro e w3 ⟨rfl, hbw3⟩; have K3 := HK2.out.call hbw3; have qK3 := K3.q; have fK3 := K3.fz; have lK3 := K3.lt; have HB3 := Lib.hid (HB2.out.trans (hbw3.mono HB2.out.size)); clear K3 hbw3))
  refine bodyPost_ret (v := .tuple #[.slice none 0 0, errV (6, 0)]) (by simp only [results, Tryz.results33]; go_simp) rfl ?_
  have s3 := HB3.out.size
  have b3 := HB3.out
  exact ⟨by ((repeat' (first | (with_reducible exact Below.refl _ _) | (with_reducible assumption) | (with_reducible refine Below.setCell ?_ ?_ _) | (with_reducible refine Below.alloc ?_ ?_ _) | (with_reducible refine Below.drew ?_) | (with_reducible refine below_drewN ?_ _) | (with_reducible refine Below.step (by with_reducible assumption) ?_ ?_))) <;> (first | omega | (simp; done) | (simp; omega))), 6, 0, by decide, by decide, HBL.out, rfl⟩
set_option maxRecDepth 100000 in
set_option maxHeartbeats 8000000 in
theorem polParseM_yes (v : Value) (b : List UInt8) (w : World) (hG : Glo w) (hv : IsB w v b) (hL : b.length ≤ 4700) (ls : List (List UInt8)) (hls : eachL 1 2147483647 b = some ls) (hg : ls.all goodM = true) (hok : okM (ls.map rawM) = true) :
    Calls Tryz.prog 33 #[v] w (RetPMs (some (ls.map rawM)) b.length w) := by
  have HE := Lib.hid ((pm2_each v b w.heap.size (w.heap.size + 1) ((w.alloc (.cells #[.int .i64 0, .int .i64 0] 38)).alloc (.cells #[.slice none 0 0] 48)) ⟨w, ⟨hG, hv⟩, Nat.le_refl _, ((Below.refl _ _).alloc (Nat.le_refl _) _).alloc (by simp) _⟩ (Nat.le_succ _) (by omega) (blk_in (by simp))).mono fun e w' h => h.yes hls hg)
  have hz := szM_raw hL hls hg
  clear hls hg
  generalize ls.map rawM = ms at *
  have HP : Hid (∀ W A k, Glo W → IsMs W (.slice A ms.length k) ms → Calls Tryz.prog 31 #[.slice A ms.length k] W (RetB (.bool true) W)) := fun W A k g h => by have := polValidM (.slice A ms.length k) ms W g h hz; rwa [hok] at this
  have HG := Lib.hid hG
  obtain ⟨A, k, rfl⟩ := isB_slice hv
  unfold RetM3Y at HE
  simp only [errV] at HE
  clear hG hv hL hz hok
  go_enter Tryz.func33, Tryz.ntmps33
  go_wp2_with (first | ((go_at_call 58); (with_reducible refine (HE.out).mono ?_); rintro e w1 ⟨A1, k1, rfl, hk1, ho1, hf1⟩; have HB1 := Lib.hid ((((Below.refl _ w).alloc (Nat.le_refl _) _).alloc (by simp) _).trans (hf1.below (B' := w.heap.size) (by simp; omega) (Nat.le_succ _))); have K1 := (((Blk.new w 38 #[.int .i64 0, .int .i64 0]).alloc (.cells #[.slice none 0 0] 48)).farR hf1 (by simp; omega) (.inl (Nat.lt_succ_self _))); have lK1 := K1.lt; have qk1 := hk1.q; have lk1 := hk1.lt; have HK1 := Lib.hid K1; have Hk1 := Lib.hid hk1; have HO1 := Lib.hid ho1; clear hk1 ho1 hf1 K1) | ((go_at_call 31); (with_reducible refine (HP.out _ _ _ ((HG.out.below HB1.out).alloc _) ((isMs_of HO1.out.isL).alloc _)).mono ?_); rintro e w2 ⟨rfl, hbw2⟩; have HB2 := Lib.hid ((HB1.out.alloc HB1.out.size _).trans (hbw2.mono (by have := HB1.out.size; simp; omega))); have K2 := (HK1.out.alloc _).call hbw2; have qK2 := K2.q; have fK2 := K2.fz; have lK2 := K2.lt; have k2 := (Hk1.out.alloc _).call hbw2; have qk2 := k2.q; have lk2 := k2.lt; have HO2 := Lib.hid ((HO1.out.alloc _).below hbw2); clear hbw2 K2 k2))
  refine bodyPost_ret (v := .tuple #[.slice A1 ms.length k1, errV (0, 0)]) (by simp only [results, Tryz.results33]; go_simp) rfl ?_
  have s2 := HB2.out.size
  have b2 := HB2.out
  refine ⟨by ((repeat' (first | (with_reducible exact Below.refl _ _) | (with_reducible assumption) | (with_reducible refine Below.setCell ?_ ?_ _) | (with_reducible refine Below.alloc ?_ ?_ _) | (with_reducible refine Below.drew ?_) | (with_reducible refine below_drewN ?_ _) | (with_reducible refine Below.step (by with_reducible assumption) ?_ ?_))) <;> (first | omega | (simp; done) | (simp; omega))), A1, k1, rfl, ?_⟩
  exact OwL.more (base := w.heap.size + 1 + 1) ((HO2.out.setLow (by simp; omega) _).setLow (by simp; omega) _) (by omega)
/-- ParseMappings, for any bytes. -/
theorem polParseM (v : Value) (b : List UInt8) (w : World) (hG : Glo w) (hv : IsB w v b) (hL : b.length ≤ 4700) : Calls Tryz.prog 33 #[v] w (RetPMs (parMs b) b.length w) := by
  cases hls : eachL 1 2147483647 b with
  | none =>
    have hp : parMs b = none := by unfold parMs; rw [hls]
    rw [hp]
    exact polParseM_no v b w hG hv hL fun ls h => by rw [hls] at h; cases h
  | some ls =>
    cases hg : ls.all goodM with
    | false =>
      have hp : parMs b = none := by unfold parMs; rw [hls]; simp [hg]
      rw [hp]
      exact polParseM_no v b w hG hv hL fun ls' h => by rw [hls] at h; injection h with h; subst h; exact hg
    | true =>
      cases hok : okM (ls.map rawM) with
      | false =>
        have hp : parMs b = none := by unfold parMs; rw [hls]; simp [hg, hok]
        rw [hp]
        exact polParseM_bad v b w hG hv hL ls hls hg hok
      | true =>
        have hp : parMs b = some (ls.map rawM) := by unfold parMs; rw [hls]; simp [hg, hok]
        rw [hp]
        exact polParseM_yes v b w hG hv hL ls hls hg hok
end Go.Proofs.YtjjkimjdmpeddaaGreatDoor
end

/- Walks over the reference's ReadMappings and ParseMappings. -/
section
set_option linter.unusedSimpArgs false
set_option linter.unusedVariables false
namespace Go.Proofs.YtjjkimjdmpeddaaGreatDoor
open Go.RowKit Go.Cr

theorem rdObj_len (k : List UInt8) : (rdObj k).length ≤ 21 * (k.length + 1) := by
  unfold rdObj
  have hc := kidC_len k
  cases h : oidD (kidC k) with
  | none => simp
  | some s => have := oidD_len h; simp only [Option.getD_some]; omega
def RrM (ks : List (List UInt8)) (w : World) (out ix : Value) (wr : World) : Prop := ∃ i : Nat, ix = .int .i64 (i : Int) ∧ i ≤ ks.length ∧ OwL repT (fun _ => True) wr w.heap.size 68 out ((ks.take i).map rdM) ∧ Below w.heap.size w wr
def RetRM (ms : List Mp) (w : World) (e : Ending) (w' : World) : Prop := ∃ A k, e = .returned (.slice A ms.length k) ∧ OwL repT (fun _ => True) w' w.heap.size 68 (.slice A ms.length k) ms ∧ Below w.heap.size w w'
set_option maxRecDepth 100000 in
set_option maxHeartbeats 8000000 in
theorem rReadM (nv : Value) (l : List UInt8) (w : World) (hn : NdV 60 w nv l) (hL : l.length ≤ 4000) : Calls Tryz.prog 76 #[nv] w (RetRM ((kidsT 59 l).map rdM) w) := by
  obtain ⟨c1, c2, c3, a4, a5, n4, k4, k5, rfl, ⟨xs, hrow⟩, hk⟩ := hn.row
  have hfl : ∀ i, ((kidsT 59 l).getD i []).length ≤ 4000 := fun i => by
    obtain ⟨_, _, _, _, _, _, _, _, _, _, _, _, _, _, _, _, hf⟩ := hn.open_
    have := getD_len (kidsT 59 l) i
    omega
  have hlen := hrow.len (P := Tryz.prog) ulNodes
  have hcl : (kidsT 59 l).length ≤ 4000 := by
    have := hrow.maxl
    obtain ⟨_, _, _, _, _, _, _, _, _, _, _, _, _, _, _, hkn, hf⟩ := hn.open_
    have h2 : ∀ (ks : List (List UInt8)), (∀ p ∈ ks, 1 ≤ p.length) → ks.length ≤ ks.flatten.length := fun ks => by
      induction ks with
      | nil => simp
      | cons x t ih => intro h; have h0 := h x (by simp); have h1 := ih fun p hp => h p (by simp [hp]); simp only [List.length_cons, List.flatten_cons, List.length_append]; omega
    have h3 := h2 (kidsT 59 l) fun p hp => by
      obtain ⟨j, hj, rfl⟩ := List.mem_iff_getElem.1 hp
      have ht := (hkn j hj).tree
      obtain ⟨x, hx⟩ := treeOK_one ht
      have := one_two hx
      omega
    omega
  have HK := Lib.hid hk
  have HFL := Lib.hid hfl
  clear hk hfl hn hrow hL
  generalize kidsT 59 l = ks at *
  have hnI : (ks.length : Int) ≤ 4000 := by omega
  go_enter Tryz.func76, Tryz.ntmps76
  go_wp2_with fail
  have HB0 := Lib.hid (Blk.new w 91 #[.int .i64 c1, .int .i64 c2, .bool c3, .slice a4 n4 k4, .slice a5 ks.length k5])
  have HW0 := Lib.hid ((Below.refl w.heap.size w).alloc (Nat.le_refl _) (.cells #[.int .i64 c1, .int .i64 c2, .bool c3, .slice a4 n4 k4, .slice a5 ks.length k5] 91))
  have lW0 := HB0.out.lt
  generalize w.alloc (.cells #[.int .i64 c1, .int .i64 c2, .bool c3, .slice a4 n4 k4, .slice a5 ks.length k5] 91) = w0 at *
  obtain ⟨i0, hi0, hz0, hz1, hz2⟩ := info_parts infoMp
  go_loopw [3, 4] (fun out ix wr => RrM ks w0 out ix wr) (fun _ ix _ => ks.length + 1 - (intOf ix).toNat)
  case atStart => exact ⟨0, rfl, Nat.zero_le _, OwL.nil_ _ _ _ _, Below.refl _ _⟩
  case round =>
    obtain ⟨i, rfl, hi, how, hbel⟩ := hrel
    have HOW := Lib.hid how
    have HBR := Lib.hid hbel
    have hszr := hbel.size
    have JB := HB0.out.below hbel lW0
    have qJ := JB.q
    have lJ := JB.lt
    clear how JB
    by_cases hlt : i < ks.length
    · obtain ⟨b, o, x1, x2, x3, y4, y5, m4, z4, m5, z5, hi2, hl2, d0, d1, d2, d3, d4, hkv⟩ := HK.out i hlt
      have hwr : Below w.heap.size w wr := HW0.out.trans (hbel.mono (Nat.le_of_lt lW0))
      have hlk : ks[i].length ≤ 4000 := by have := HFL.out i; rwa [show ks.getD i [] = ks[i] by simp [hlt]] at this
      obtain ⟨n0, hn0, hk0⟩ := rKid (hkv.below hwr) 0
      obtain ⟨n1, hn1, hk1⟩ := rKid (hkv.below hwr) 1
      have hl0 : ∀ j, ((kidsT 58 ks[i]).getD j []).length ≤ 4000 := fun j => by
        obtain ⟨_, _, _, _, _, _, _, _, _, _, _, _, _, _, _, _, hf⟩ := hkv.open_
        have := getD_len (kidsT 58 ks[i]) j
        omega
      have HR0 := Lib.hid (rRdObj hn0 (hl0 0))
      have HR1 := Lib.hid (rRdObj hn1 (hl0 1))
      have htk : (ks.take (i + 1)).map rdM = (ks.take i).map rdM ++ [rdM ks[i]] := by rw [List.take_succ_eq_append_getElem hlt, List.map_append]; rfl
      have hrd : rdM ks[i] = (bStr (rdObj ((kidsT 58 ks[i]).getD 0 [])), bStr (rdObj ((kidsT 58 ks[i]).getD 1 []))) := rfl
      rw [hrd] at htk
      generalize bStr (rdObj ((kidsT 58 ks[i]).getD 0 [])) = s0 at *
      generalize bStr (rdObj ((kidsT 58 ks[i]).getD 1 [])) = s1 at *
      have HK0 : Hid (∀ W, Below wr.heap.size wr W → Calls Tryz.prog 102 #[.agg #[.int .i64 x1, .int .i64 x2, .bool x3, .slice y4 m4 z4, .slice y5 m5 z5], .int .i64 0] W (RetB n0 W)) := hk0
      have HK1 : Hid (∀ W, Below wr.heap.size wr W → Calls Tryz.prog 102 #[.agg #[.int .i64 x1, .int .i64 x2, .bool x3, .slice y4 m4 z4, .slice y5 m5 z5], .int .i64 1] W (RetB n1 W)) := hk1
      have HTK := Lib.hid htk
      have hltI : (i : Int) < ks.length := by omega
      have hll : ((ks.take i).map rdM).length ≤ 4000 := by rw [List.length_map, List.length_take]; omega
      have HLL := Lib.hid hll
      have HSS : Hid (∀ W, Below w0.heap.size w0 W → W.cell? ⟨w.heap.size, 4, none⟩ = some (.slice a5 ks.length k5) ∧ W.cell? ⟨b, o, none⟩ = some (.int .i64 x1) ∧ W.cell? ⟨b, o + 1, none⟩ = some (.int .i64 x2) ∧ W.cell? ⟨b, o + 2, none⟩ = some (.bool x3) ∧ W.cell? ⟨b, o + 3, none⟩ = some (.slice y4 m4 z4) ∧ W.cell? ⟨b, o + 4, none⟩ = some (.slice y5 m5 z5)) := fun W hW => by
        have hb : Below w.heap.size w W := HW0.out.trans (hW.mono (Nat.le_of_lt lW0))
        exact ⟨((HB0.out.below hW lW0).q 4).trans rfl, (hb.cell (p := ⟨b, o, none⟩) hl2).trans d0, (hb.cell (p := ⟨b, o + 1, none⟩) hl2).trans d1, (hb.cell (p := ⟨b, o + 2, none⟩) hl2).trans d2, (hb.cell (p := ⟨b, o + 3, none⟩) hl2).trans d3, (hb.cell (p := ⟨b, o + 4, none⟩) hl2).trans d4⟩
      obtain ⟨g0, g1, g2, g3, g4, g5⟩ := HSS.out wr hbel
      have hlb : b < wr.heap.size := Nat.lt_of_lt_of_le hl2 hwr.size
      obtain ⟨u1, u2, u3, u4, u5, u6, u7, u8, u9, hsh0⟩ := hn0.shape
      obtain ⟨v1, v2, v3, v4, v5, v6, v7, v8, v9, hsh1⟩ := hn1.shape
      subst hsh0 hsh1
      clear hk0 hk1 hn0 hn1 hkv d0 d1 d2 d3 d4 hbel htk hrd hll hl0 hlk hwr
      generalize (ks.take i).map rdM = LL at *
      go_wp2_with fail
      have hcur := Lib.hid ((Below.refl wr.heap.size wr).drew)
      go_region_held3 (fun W' => W'.cell? ⟨w.heap.size, 4, none⟩ = some (.slice a5 ks.length k5) ∧ W'.cell? ⟨b, o, none⟩ = some (.int .i64 x1) ∧ W'.cell? ⟨b, o + 1, none⟩ = some (.int .i64 x2) ∧ W'.cell? ⟨b, o + 2, none⟩ = some (.bool x3) ∧ W'.cell? ⟨b, o + 3, none⟩ = some (.slice y4 m4 z4) ∧ W'.cell? ⟨b, o + 4, none⟩ = some (.slice y5 m5 z5))
        (first | go_keep | exact HSS.out _ HBD.out | exact HSS.out _ (HBR.out.trans (hcur.out.mono hszr)) | exact HSS.out _ (HBR.out.trans ((hcur.out.alloc hcur.out.size _).mono hszr)))
        (first
          | ((go_at_call 102); (with_reducible refine (HK0.out _ hcur.out).mono ?_); rintro e wz ⟨rfl, hbz⟩; have hcur := Lib.hid (hcur.out.trans (hbz.mono hcur.out.size)))
          | ((go_at_call 102); (with_reducible refine (HK1.out _ hcur.out).mono ?_); rintro e wz ⟨rfl, hbz⟩; have hcur := Lib.hid (hcur.out.trans (hbz.mono hcur.out.size)))
          | ((go_at_call 112); (with_reducible refine (HR0.out _ hcur.out).mono ?_); rintro e wz ⟨rfl, hbz⟩; have hcur := Lib.hid (hcur.out.trans (hbz.mono hcur.out.size)))
          | ((go_at_call 112); (with_reducible refine (HR1.out _ hcur.out).mono ?_); rintro e wz ⟨rfl, hbz⟩; have hcur := Lib.hid (hcur.out.trans (hbz.mono hcur.out.size)))
          | (rw [if_pos (by rfl)]; obtain ⟨vd, wd, hrd, hod, hbd, hgd, _⟩ := run_appL (r := repT) (X := fun _ => True) (P := Tryz.prog) (wz.alloc (.cells #[.string s0, .string s1] 68)) w0.heap.size 48 48 68 ulMsP hi0 hz0 hz1 hz2 rfl (by decide) _ LL (HOW.out.below (hcur.out.alloc hcur.out.size _)) _ [.string s0, .string s1] (s0, s1) (isR_at rfl rfl) rfl (by have := HLL.out; omega) (by have := hcur.out.size; simp; omega) trivial; have HOD := Lib.hid hod; have HBD := Lib.hid ((HBR.out.trans ((hcur.out.alloc hcur.out.size (.cells #[.string s0, .string s1] 68)).mono hszr)).trans hbd); refine wp_appR _ _ _ _ rfl _ _ _ _ rfl rfl hrd ?_))
      all_goals
        go_wp2_with fail
        go_roundw
        case rel => exact ⟨i + 1, by go_num, by omega, by rw [HTK.out]; exact HOD.out, HBD.out⟩
        case measure => simp [intOf]; omega
    · have hie : i = ks.length := by omega
      have how := HOW.out
      rw [hie, List.take_length] at how
      have HO := Lib.hid how
      have hge : (ks.length : Int) ≤ i := by omega
      obtain ⟨Ao, ko, hoe⟩ := how.slice
      rw [List.length_map] at hoe
      subst hoe
      clear how hie hlt hi hbel
      go_wp2_with fail
      go_ret
      have s0 := HW0.out.size
      refine ⟨Ao, ko, (by rw [List.length_map]; first | rfl | simp), ?_, HW0.out.trans (HBR.out.mono s0)⟩
      rw [List.length_map]
      exact HO.out.more s0

/-- What the reference's Parse leaves. -/
def RetRP (r : Option (List Mp)) (w : World) (e : Ending) (w' : World) : Prop := Below w.heap.size w w' ∧ match r with
  | none => e = .returned (.tuple #[.slice none 0 0, .bool false])
  | some ms => ∃ A k, e = .returned (.tuple #[.slice A ms.length k, .bool true]) ∧ IsMs w' (.slice A ms.length k) ms
theorem szM_rd (b : List UInt8) (hL : b.length ≤ 4000) : SzM (rdMs b) := by
  have hk := kidsA_cnt b
  refine ⟨by unfold rdMs; rw [List.length_map]; omega, fun m hm => ?_⟩
  obtain ⟨x, hx, rfl⟩ := List.mem_map.1 hm
  have h1 := mem_flat_len hx
  have h3 := rdObj_len ((kidsT 58 x).getD 0 [])
  have h4 := rdObj_len ((kidsT 58 x).getD 1 [])
  have h5 := getD_len (kidsT 58 x) 0
  have h6 := getD_len (kidsT 58 x) 1
  have h7 := kidsT_cnt 58 x
  have e0 : ∀ s : List UInt8, (bStr s).size = s.length := fun s => by show s.toArray.size = _; simp
  unfold rdM
  simp only [e0]
  omega
theorem parM_le (m : Mp) : (parM m).length ≤ m.1.size + m.2.size + 30 := by
  have h1 := seqB_le [objB m.1.data.toList, objB m.2.data.toList]
  have h2 := objB_le m.1.data.toList
  have h3 := objB_le m.2.data.toList
  have e1 : m.1.data.toList.length = m.1.size := rfl
  have e2 : m.2.data.toList.length = m.2.size := rfl
  have e : parM m = seqB [objB m.1.data.toList, objB m.2.data.toList] := rfl
  rw [e]
  simp only [List.flatten_cons, List.flatten_nil, List.append_nil, List.length_append] at h1
  omega
theorem flat_le (f : List UInt8 → List UInt8) (a c : Nat) (ks : List (List UInt8)) (h : ∀ x ∈ ks, (f x).length ≤ a * x.length + c) : (ks.map f).flatten.length ≤ a * ks.flatten.length + c * ks.length := by
  induction ks with
  | nil => simp
  | cons x t ih =>
    have h0 := h x (by simp)
    have h1 := ih fun p hp => h p (by simp [hp])
    simp only [List.map_cons, List.flatten_cons, List.length_append, List.length_cons, Nat.mul_add] at h0 h1 ⊢
    omega
theorem rdM_flat (b : List UInt8) (hL : b.length ≤ 4000) : ((rdMs b).map parM).flatten.length ≤ 900000 := by
  have hk := kidsA_cnt b
  have h := flat_le (parM ∘ rdM) 21 72 (kidsA b) fun x hx => by
    have h1 := parM_le (rdM x)
    have h3 := rdObj_len ((kidsT 58 x).getD 0 [])
    have h4 := rdObj_len ((kidsT 58 x).getD 1 [])
    have h7 := kidsT_cnt 58 x
    have h8 : ((kidsT 58 x).getD 0 []).length + ((kidsT 58 x).getD 1 []).length ≤ (kidsT 58 x).flatten.length := by
      match kidsT 58 x with
      | [] => simp
      | [a] => simp
      | a :: b :: t => simp
    have e0 : ∀ s : List UInt8, (bStr s).size = s.length := fun s => by show s.toArray.size = _; simp
    have e1 : (rdM x).1.size = (rdObj ((kidsT 58 x).getD 0 [])).length := e0 _
    have e2 : (rdM x).2.size = (rdObj ((kidsT 58 x).getD 1 [])).length := e0 _
    simp only [Function.comp_apply]
    omega
  unfold rdMs
  rw [List.map_map]
  omega
/-- Deep, then what is read of it. -/
def RetDM (ms : List Mp) (w : World) (e : Ending) (w' : World) : Prop := Below w.heap.size w w' ∧ ∃ (c1 c2 : Int) (c3 : Bool) (a4 a5 : Option Addr) (n4 k4 n5 k5 : Nat) (t : Bool),
  e = .returned (.tuple #[.agg #[.int .i64 c1, .int .i64 c2, .bool c3, .slice a4 n4 k4, .slice a5 n5 k5], .bool t]) ∧
    ∀ W, Below w'.heap.size w' W → Calls Tryz.prog 76 #[.agg #[.int .i64 c1, .int .i64 c2, .bool c3, .slice a4 n4 k4, .slice a5 n5 k5]] W (RetRM ms W)
theorem rDeepM (v : Value) (b : List UInt8) (w : World) (hv : IsB w v b) (hL : b.length ≤ 4000) : Calls Tryz.prog 64 #[v] w (RetDM (rdMs b) w) := by
  refine (rDeepV v b w hv (by omega)).mono fun e w' ⟨nv, t, he, hn, hb⟩ => ?_
  obtain ⟨c1, c2, c3, a4, a5, n4, k4, n5, k5, hs⟩ := hn.shape
  subst hs
  refine ⟨hb, c1, c2, c3, a4, a5, n4, k4, n5, k5, t, he, fun W hW => ?_⟩
  have := rReadM _ _ W (hn.below hW) (by split; exact hL; simp)
  rw [kidsA_eq] at this
  exact this
set_option maxRecDepth 100000 in
set_option maxHeartbeats 8000000 in
theorem rParM (v : Value) (b : List UInt8) (w : World) (hv : IsB w v b) (hL : b.length ≤ 4000) : Calls Tryz.prog 35 #[v] w (RetRP (rparMs b) w) := by
  have HD := Lib.hid (fun W (h : IsB W v b) => rDeepM v b W h hL)
  have HV := Lib.hid hv
  have hz := szM_rd b hL
  have hp : rparMs b = if marM (rdMs b) = some b then some (rdMs b) else none := rfl
  rw [hp]
  have HBy := Lib.hid (fun W u x (h : IsB W u x) (h2 : IsB W v b) => bytes_any u v x b W h h2)
  have hfl := rdM_flat b hL
  generalize rdMs b = ms at *
  cases ho : okM ms with
  | false =>
    have hm : marM ms = none := by unfold marM; simp [ho]
    rw [hm, if_neg (by simp)]
    have HM : Hid (∀ W u, IsMs W u ms → Calls Tryz.prog 30 #[u] W (RetB (.tuple #[.slice none 0 0, .int .i64 8]) W)) := fun W u h => rMarM_no u ms W h hz ho
    obtain ⟨A, k, rfl⟩ := isB_slice hv
    clear hv hL hz hp hm ho hfl HBy
    go_enter Tryz.func35, Tryz.ntmps35
    go_wp2_with (first | ((go_at_call 64); (with_reducible refine (HD.out _ HV.out).mono ?_); rintro e w1 ⟨hbw1, c1, c2, c3, a4, a5, n4, k4, n5, k5, t, rfl, hrd⟩; have HRD := Lib.hid hrd; have HB1 := Lib.hid hbw1; clear hrd hbw1) | ((go_at_call 76); (with_reducible refine (HRD.out _ ((Below.refl _ w1).alloc (Nat.le_refl _) _)).mono ?_); rintro e w2 ⟨A2, k2, rfl, ho2, hbw2⟩; have HB2 := Lib.hid ((HB1.out.alloc HB1.out.size _).trans (hbw2.mono (by have := HB1.out.size; simp; omega))); have HO2 := Lib.hid (isMs_of ho2.isL); clear ho2 hbw2) | ((go_at_call 30); (with_reducible refine (HM.out _ _ HO2.out).mono ?_); rintro e w3 ⟨rfl, hbw3⟩; have HB3 := Lib.hid (HB2.out.trans (hbw3.mono HB2.out.size)); clear hbw3))
    go_ret2
    exact ⟨HB3.out, rfl⟩
  | true =>
    have hm : marM ms = some (seqL (ms.map parM)) := by unfold marM; simp [ho]
    rw [hm]
    have HM : Hid (∀ W u, IsMs W u ms → Calls Tryz.prog 30 #[u] W (RetOidY (seqL (ms.map parM)) W)) := fun W u h => rMarM_yes u ms W h hz hfl ho
    generalize seqL (ms.map parM) = c at *
    by_cases hcb : c = b
    · rw [if_pos (by rw [hcb])]
      have HBt : Hid (∀ W u, IsB W u c → IsB W v b → Calls Tryz.prog 21 #[u, v] W (RetB (.bool true) W)) := fun W u h h2 => by
        have := HBy.out W u c h h2
        rwa [decide_eq_true hcb] at this
      obtain ⟨A, k, rfl⟩ := isB_slice hv
      clear hv hL hz hp hm ho hfl HBy hcb
      go_enter Tryz.func35, Tryz.ntmps35
      go_wp2_with (first | ((go_at_call 64); (with_reducible refine (HD.out _ HV.out).mono ?_); rintro e w1 ⟨hbw1, c1, c2, c3, a4, a5, n4, k4, n5, k5, t, rfl, hrd⟩; have HRD := Lib.hid hrd; have HB1 := Lib.hid hbw1; clear hrd hbw1) | ((go_at_call 76); (with_reducible refine (HRD.out _ ((Below.refl _ w1).alloc (Nat.le_refl _) _)).mono ?_); rintro e w2 ⟨A2, k2, rfl, ho2, hbw2⟩; have HB2 := Lib.hid ((HB1.out.alloc HB1.out.size _).trans (hbw2.mono (by have := HB1.out.size; simp; omega))); have HO2 := Lib.hid (isMs_of ho2.isL); clear ho2 hbw2) | ((go_at_call 30); (with_reducible refine (HM.out _ _ HO2.out).mono ?_); rintro e w3 ⟨v3, rfl, ho3, hbw3⟩; obtain ⟨A3, k3, rfl⟩ := isB_slice ho3.isB; have HB3 := Lib.hid (HB2.out.trans (hbw3.mono HB2.out.size)); have HV3 := Lib.hid ho3.isB; have HO3 := Lib.hid (HO2.out.below hbw3); clear hbw3 ho3) | ((go_at_call 21); (with_reducible refine (HBt.out _ _ HV3.out (HV.out.below HB3.out)).mono ?_); rintro e w4 ⟨rfl, hbw4⟩; have HB4 := Lib.hid (HB3.out.trans (hbw4.mono HB3.out.size)); have HO4 := Lib.hid (HO3.out.below hbw4); clear hbw4))
      go_ret2
      exact ⟨HB4.out, A2, k2, rfl, HO4.out⟩
    · rw [if_neg (fun h => hcb (Option.some.inj h))]
      have HBf : Hid (∀ W u, IsB W u c → IsB W v b → Calls Tryz.prog 21 #[u, v] W (RetB (.bool false) W)) := fun W u h h2 => by
        have := HBy.out W u c h h2
        rwa [decide_eq_false hcb] at this
      obtain ⟨A, k, rfl⟩ := isB_slice hv
      clear hv hL hz hp hm ho hfl HBy hcb
      go_enter Tryz.func35, Tryz.ntmps35
      go_wp2_with (first | ((go_at_call 64); (with_reducible refine (HD.out _ HV.out).mono ?_); rintro e w1 ⟨hbw1, c1, c2, c3, a4, a5, n4, k4, n5, k5, t, rfl, hrd⟩; have HRD := Lib.hid hrd; have HB1 := Lib.hid hbw1; clear hrd hbw1) | ((go_at_call 76); (with_reducible refine (HRD.out _ ((Below.refl _ w1).alloc (Nat.le_refl _) _)).mono ?_); rintro e w2 ⟨A2, k2, rfl, ho2, hbw2⟩; have HB2 := Lib.hid ((HB1.out.alloc HB1.out.size _).trans (hbw2.mono (by have := HB1.out.size; simp; omega))); have HO2 := Lib.hid (isMs_of ho2.isL); clear ho2 hbw2) | ((go_at_call 30); (with_reducible refine (HM.out _ _ HO2.out).mono ?_); rintro e w3 ⟨v3, rfl, ho3, hbw3⟩; obtain ⟨A3, k3, rfl⟩ := isB_slice ho3.isB; have HB3 := Lib.hid (HB2.out.trans (hbw3.mono HB2.out.size)); have HV3 := Lib.hid ho3.isB; have HO3 := Lib.hid (HO2.out.below hbw3); clear hbw3 ho3) | ((go_at_call 21); (with_reducible refine (HBf.out _ _ HV3.out (HV.out.below HB3.out)).mono ?_); rintro e w4 ⟨rfl, hbw4⟩; have HB4 := Lib.hid (HB3.out.trans (hbw4.mono HB3.out.size)); clear hbw4))
      go_ret2
      exact ⟨HB4.out, rfl⟩
end Go.Proofs.YtjjkimjdmpeddaaGreatDoor
end

/- Walks over policy.Parse: qualifier and its closure. -/
section
set_option linter.unusedSimpArgs false
set_option linter.unusedVariables false
namespace Go.Cr
open Go.RowKit
/-- Bytes stay where a cell is written that is none of them. -/
theorem IsB.set_ne {w : World} {v : Value} {l : List UInt8} (h : IsB w v l) {p : Addr} (hp : ∀ x, w.cell? p ≠ some (.int .u8 x)) (u : Value) : IsB (w.setCell p u) v l := by
  obtain ⟨A, c, rfl, h1, h2, h3⟩ := h
  refine ⟨A, c, rfl, h1, h2, fun hn => ?_⟩
  obtain ⟨b, off, rfl, hb, hc⟩ := h3 hn
  refine ⟨b, off, rfl, by simpa [World.setCell] using hb, fun j hj => ?_⟩
  rw [World.cell?_setCell_other w p ⟨b, off + j, none⟩ u (fun e => hp _ (by rw [e]; exact hc j hj))]
  exact hc j hj
end Go.Cr
namespace Go.Proofs.YtjjkimjdmpeddaaGreatDoor
open Go.RowKit Go.Cr

set_option maxRecDepth 100000 in
theorem fieldE (a b : Int) (W : World) : (Instr.field 38 (.agg #[.int .i64 a, .int .i64 b]) 0).run Tryz.prog W = .ok (.int .i64 a) W := by rfl
theorem enQ11 : ∀ args W, (callFunc 116 args).run Tryz.prog W = .ok (.enter 116 args) W := enters_of Tryz.func116 (by kernel_rfl) rfl
theorem enP1 : ∀ args W, (callFunc 81 args).run Tryz.prog W = .ok (.enter 81 args) W := enters_of Tryz.func81 (by kernel_rfl) rfl
theorem enP11 : ∀ args W, (callFunc 82 args).run Tryz.prog W = .ok (.enter 82 args) W := enters_of Tryz.func82 (by kernel_rfl) rfl
theorem enP111 : ∀ args W, (callFunc 83 args).run Tryz.prog W = .ok (.enter 83 args) W := enters_of Tryz.func83 (by kernel_rfl) rfl

/-- What the closure leaves where it reads the value. -/
def RetQv (y : List UInt8) (g : Nat) (s : ByteArray) (w : World) (e : Ending) (w' : World) : Prop :=
  ∃ A k, e = .returned (.bool (decide (treeOK 16 y))) ∧ Blk w' g 70 #[.string s, .slice A y.length k] ∧ OwB w' w.heap.size 5 (.slice A y.length k) y ∧ Far g (fun u => u = 70) w.heap.size w w'
set_option maxRecDepth 100000 in
set_option maxHeartbeats 4000000 in
theorem pq1_id (v : Value) (y : List UInt8) (gb g : Nat) (s : ByteArray) (u : Value) (w : World) (hG : Glo w) (hv : IsB w v y) (hL : y.length ≤ 90000) (hp : Blk w gb 106 #[.pointer (some ⟨g, 0, none⟩)]) (hb : Blk w g 70 #[.string s, u]) :
    Calls Tryz.prog 116 #[.int .i64 0, v, .pointer (some ⟨gb, 0, none⟩)] w (RetId y g 0 70 #[.string s, u] w) := by
  have H0 := Lib.hid (polId v y g 0 _ _ s w hG hv hL hb rfl)
  obtain ⟨A, c, rfl⟩ := isB_slice hv
  have qp := hp.q
  have lp := hp.lt
  clear hG hv hb hL hp
  go_enter Tryz.func116, Tryz.ntmps116
  go_wp2_with (((go_at_call 75); (with_reducible refine (H0.out).mono ?_); rintro e w1 ⟨s, rfl, h1, h2, h3⟩))
  go_ret
  exact ⟨s, rfl, h1, h2, h3⟩
set_option maxRecDepth 100000 in
set_option maxHeartbeats 8000000 in
theorem pq1_val (i : Nat) (hi : i ≠ 0) (v : Value) (y : List UInt8) (gb g : Nat) (s : ByteArray) (Au : Option Addr) (nu ku : Nat) (w : World) (hv : IsB w v y) (hL : y.length ≤ 90000) (hp : Blk w gb 106 #[.pointer (some ⟨g, 0, none⟩)]) (hb : Blk w g 70 #[.string s, .slice Au nu ku]) (hgb : gb ≠ g) :
    Calls Tryz.prog 116 #[.int .i64 (i : Int), v, .pointer (some ⟨gb, 0, none⟩)] w (RetQv y g s w) := by
  have HC := Lib.hid (fun W (h : IsB W v y) => clone_any v y W h (by omega))
  have HO := Lib.hid (fun W (h : IsB W v y) => polOpen v y W h (by omega))
  have HV := Lib.hid hv
  have HP := Lib.hid hp
  have HB := Lib.hid hb
  obtain ⟨A, c, rfl⟩ := isB_slice hv
  have hn : ((i : Int) == 0) = false := beq_eq_false_iff_ne.2 (by omega)
  have qp := hp.q
  have lp := hp.lt
  have lb := hb.lt
  unfold RetQv
  generalize decide (treeOK 16 y) = B at *
  clear hv hb hL hp hi
  go_enter Tryz.func116, Tryz.ntmps116
  go_wp2_with fail
  have hcur := Lib.hid ((Below.refl w.heap.size w).drew)
  go_region_held3 (fun W' => W'.cell? ⟨gb, 0, none⟩ = some (.pointer (some ⟨g, 0, none⟩)))
    (first | go_keep | exact (JP.q 0).trans rfl | exact (World.cell?_setCell_far _ _ _ _ (Ne.symm hgb)).trans ((JP.q 0).trans rfl))
    (first | ((go_at_call 117); (with_reducible refine (HC.out _ HV.out.drew).mono ?_); rintro e wz ⟨v1, rfl, ho1, hbz⟩; obtain ⟨A1, k1, rfl⟩ := isB_slice ho1.isB; have JP := HP.out.drew.call hbz; have JB := HB.out.drew.call hbz; have qJB := JB.q; have fJB := JB.fz; have lJB := JB.lt; have HJB := Lib.hid JB; have HO1 := Lib.hid ho1; have HBZ := Lib.hid hbz; clear ho1 JB))
  have HV3 := Lib.hid ((HV.out.drew.below HBZ.out).set_ne (p := ⟨g, 1, none⟩) (fun x => by rw [qJB 1]; simp) (.slice A1 y.length k1))
  have HB3 := Lib.hid (HJB.out.set_ 1 (.slice A1 y.length k1))
  have HF3 := Lib.hid ((Far.of_below (base := g) (Tp := fun u => u = 70) ((Below.refl w.heap.size w).drew.trans HBZ.out)).setRow (p := ⟨g, 1, none⟩) HJB.out (Nat.le_refl _) rfl (.slice A1 y.length k1))
  have hlg : g < w.drew.heap.size := lb
  have HO3 := Lib.hid (ownsRow_setCell_below (a := ⟨g, 1, none⟩) HO1.out hlg (.slice A1 y.length k1))
  clear hbz JP qJB fJB lJB
  generalize wz.setCell ⟨g, 1, none⟩ (.slice A1 y.length k1) = w3 at *
  go_wp2_with (((go_at_call 79); (with_reducible refine (HO.out _ HV3.out).mono ?_); rintro e w4 ⟨rfl, hb4⟩; have HB4 := Lib.hid hb4; clear hb4))
  go_ret
  exact ⟨A1, k1, rfl, HB3.out.call HB4.out, OwB.below HO3.out HB4.out, HF3.out.step HB4.out HF3.out.size⟩

/-- What is kept in a qualifier while the closure runs. -/
def InvQ (B gb g c : Nat) (v : Value) (x : List UInt8) (ls : List (List UInt8)) (i : Nat) (w : World) : Prop :=
  c < w.heap.size ∧ Old B (GB v x) w ∧ Blk w gb 106 #[.pointer (some ⟨g, 0, none⟩)] ∧ ∃ (s : ByteArray) (A : Option Addr) (k : Nat) (l : List UInt8), Blk w g 70 #[.string s, .slice A l.length k] ∧
    IsRS (fun b => gb < b ∧ b ≠ c) w (.slice A l.length k) 1 l.length (bCells l) ∧ (i ≤ 1 → A = none ∧ k = 0 ∧ l = []) ∧ (0 < i → ∀ t, idL (ls.getD 0 []) = some t → s = bStr t) ∧ (1 < i → l = ls.getD 1 [])
theorem errNeQ : ¬ ((fun u => u = 70) 38) := by decide
theorem elNeQ : ¬ ((fun u => u = 70) 118) := by decide
/-- each over the parts of a qualifier. -/
def RetQe (z : List UInt8) (gb g : Nat) (w : World) (e : Ending) (w' : World) : Prop :=
  ∃ (ec eo : Int) (s : ByteArray) (A : Option Addr) (k : Nat) (l : List UInt8), e = .returned (errV (ec, eo)) ∧ (ec == 0) = goodQ z ∧ Blk w' g 70 #[.string s, .slice A l.length k] ∧
    IsRS (fun b => gb < b) w' (.slice A l.length k) 1 l.length (bCells l) ∧ (goodQ z = true → rawQ z = (s, l)) ∧ Far g (fun u => u = 70) w.heap.size w w'
theorem pq_each (v : Value) (z : List UInt8) (B gb g : Nat) (w : World) (hO : Old B (GB v z) w) (hg : B ≤ g) (hgb : g < gb) (hgw : gb < w.heap.size) (hL : z.length ≤ 90000) (hp : Blk w gb 106 #[.pointer (some ⟨g, 0, none⟩)]) (hb : Blk w g 70 #[.string ⟨#[]⟩, .slice none 0 0]) :
    Calls Tryz.prog 58 #[v, .int .i64 2, .int .i64 2, .func (.func 116) #[] #[.pointer (some ⟨gb, 0, none⟩)]] w (RetQe z gb g w) := by
  have hv := (GB.old hO).2
  cases hls : eachL 2 2 z with
  | none =>
    have hgd : goodQ z = false := by unfold goodQ; rw [hls]
    refine (each_none v z 2 2 _ _ w hv (by omega) hls).mono fun e w' ⟨hb', ec, eo, h1, h2, h3, he⟩ => ⟨ec, eo, _, none, 0, [], he, ?_, hb.call hb', IsRS.nil_ _ _ _, fun h => ?_, Far.of_below hb'⟩
    · rw [hgd]; exact beq_eq_false_iff_ne.2 (by omega)
    · rw [hgd] at h; cases h
  | some ls =>
    obtain ⟨y0, y1, rfl⟩ : ∃ y0 y1, ls = [y0, y1] := by
      obtain ⟨_, h1, h2, _⟩ := eachL_ok hls
      match ls, h1, h2 with
      | [y0, y1], _, _ => exact ⟨y0, y1, rfl⟩
      | [], h, _ => simp at h
      | [_], h, _ => simp at h
      | _ :: _ :: _ :: _, _, h => simp at h
    have hgd : goodQ z = ((idL y0).isSome && decide (treeOK 16 y1)) := by unfold goodQ; rw [hls]
    have hrw : rawQ z = (bStr ((idL y0).getD []), y1) := by unfold rawQ; rw [hls]
    have hgd2 : (List.range [y0, y1].length).all (fun i => if i = 0 then (idL y0).isSome else decide (treeOK 16 y1)) = goodQ z := by
      rw [hgd, show [y0, y1].length = 2 from rfl, show List.range 2 = [0, 1] from rfl]
      simp
    refine (each_some v z 2 2 116 #[.pointer (some ⟨gb, 0, none⟩)] w [y0, y1] (fun i => if i = 0 then (idL y0).isSome else decide (treeOK 16 y1)) B g (fun u => u = 70) (InvQ B gb g w.heap.size v z [y0, y1]) hv (by omega) hls enQ11 errNeQ elNeQ ?_ ?_ ?_ ?_).mono ?_
    · exact fun i W h => h.2.1.map fun _ h => h.2
    · exact fun W hW hs => ⟨hs, hO.below hW, hp.call hW, ⟨#[]⟩, none, 0, [], hb.call hW, IsRS.nil_ _ _ _, fun _ => ⟨rfl, rfl, rfl⟩, fun h => absurd h (by decide), fun h => absurd h (by decide)⟩
    · rintro i W W' ⟨h0, h1, h2, s, A, k, l, hk, hr, h3, h4, h5⟩ hf
      refine ⟨Nat.lt_of_lt_of_le h0 hf.size, h1.only hf (by omega), h2.only hf (by omega), s, A, k, l, hk.only hf (by omega), hr.keep hf.size (fun b hb hS => hf.block b hb hS.2), h3, h4, h5⟩
    · rintro i hi W u ⟨h0, h1, h2, s, A, k, l, hk, hr, h3, h4, h5⟩ hu
      have hi2 : i < 2 := hi
      have hul : ([y0, y1][i]).length ≤ 90000 := by have := eachL_part hls (List.getElem_mem hi); omega
      rcases (by omega : i = 0 ∨ i = 1) with rfl | rfl
      · obtain ⟨rfl, rfl, rfl⟩ := h3 (by decide)
        refine (pq1_id u y0 gb g s _ W (GB.old h1).1 hu.now hul h2 hk).mono ?_
        rintro e w' ⟨s', rfl, k1, k2, k3⟩
        exact ⟨rfl, ⟨Nat.lt_of_lt_of_le h0 k3.size, h1.far k3 hg, h2.farR k3 h2.lt (.inr (by decide)), s', none, 0, [], k2, IsRS.nil_ _ _ _, fun _ => ⟨rfl, rfl, rfl⟩, fun _ => k1, fun h => absurd h (by decide)⟩, k3⟩
      · refine (pq1_val 1 (by decide) u y1 gb g s A l.length k W hu.now hul h2 hk (by omega)).mono ?_
        rintro e w' ⟨A', k', rfl, k1, k2, k3⟩
        exact ⟨rfl, ⟨Nat.lt_of_lt_of_le h0 k3.size, h1.far k3 hg, h2.farR k3 h2.lt (.inr (by decide)), s, A', k', y1, k1, (IsRS.of_own k2).weak (fun b _ hS => ⟨by omega, by omega⟩), fun h => absurd h (by decide), fun _ => h4 (by decide), fun _ => rfl⟩, k3⟩
    · rintro e w' ⟨hf, ⟨hok, rfl, h0, _, _, s, A, k, l, hk, hr, _, h4, h5⟩ | ⟨hok, ec, eo, h1, h2, h3, rfl, m, hm, h0, _, _, s, A, k, l, hk, hr, _, _, _⟩⟩
      · refine ⟨0, 0, s, A, k, l, rfl, by rw [← hgd2, hok]; rfl, hk, hr.weak (fun b _ hS => hS.1), fun h => ?_, hf⟩
        rw [hgd, Bool.and_eq_true] at h
        obtain ⟨t0, e0⟩ := Option.isSome_iff_exists.1 h.1
        rw [hrw, h4 (by simp) t0 e0, h5 (by simp), e0]
        rfl
      · rw [hgd2] at hok
        exact ⟨ec, eo, s, A, k, l, rfl, by rw [hok]; exact beq_eq_false_iff_ne.2 (by omega), hk, hr.weak (fun b _ hS => hS.1), fun h => (by rw [hok] at h; cases h), hf⟩
/-- What qualifier leaves. -/
def RetQ (z : List UInt8) (g : Nat) (w : World) (e : Ending) (w' : World) : Prop :=
  ∃ (s : ByteArray) (A : Option Addr) (k : Nat) (l : List UInt8), e = .returned (.bool (goodQ z)) ∧ Blk w' g 70 #[.string s, .slice A l.length k] ∧ IsRS (fun b => w.heap.size ≤ b) w' (.slice A l.length k) 1 l.length (bCells l) ∧ (goodQ z = true → rawQ z = (s, l)) ∧ Far g (fun u => u = 70) w.heap.size w w'
set_option maxRecDepth 100000 in
set_option maxHeartbeats 4000000 in
theorem pqual (v : Value) (z : List UInt8) (B g : Nat) (w : World) (hO : Old B (GB v z) w) (hg : B ≤ g) (hL : z.length ≤ 90000) (hb : Blk w g 70 #[.string ⟨#[]⟩, .slice none 0 0]) :
    Calls Tryz.prog 84 #[v, .pointer (some ⟨g, 0, none⟩)] w (RetQ z g w) := by
  have hv := (GB.old hO).2
  have HE := Lib.hid (pq_each v z B w.heap.size g (w.alloc (.cells #[.pointer (some ⟨g, 0, none⟩)] 106)) (hO.below ((Below.refl _ _).alloc (Nat.le_refl _) _)) hg hb.lt (by simp) hL (Blk.new _ _ _) (hb.alloc _))
  obtain ⟨A, k, rfl⟩ := isB_slice hv
  unfold RetQe at HE
  simp only [errV] at HE
  unfold RetQ
  generalize goodQ z = G at *
  generalize rawQ z = R at *
  clear hO hg hL hb hv
  go_enter Tryz.func84, Tryz.ntmps84
  go_wp2_with (((go_at_call 58); (with_reducible refine (HE.out).mono ?_); rintro e w1 ⟨ec, eo, s, A1, k1, l, rfl, hgd, hk1, hr1, hrw, hf1⟩; have hfd := fieldE ec eo; have HK1 := Lib.hid hk1; have HR1 := Lib.hid hr1; have HRW := Lib.hid hrw; have HF1 := Lib.hid hf1; clear hk1 hr1 hrw hf1))
  refine bodyPost_ret (v := .bool G) (by simp only [results, Tryz.results84]; go_simp) rfl ?_
  refine ⟨s, A1, k1, l, rfl, HK1.out, HR1.out.weak (fun b _ hS => Nat.le_of_lt hS), HRW.out, ?_⟩
  exact (Far.of_below ((Below.refl w.heap.size w).alloc (Nat.le_refl _) _)).far HF1.out (by simp)
end Go.Proofs.YtjjkimjdmpeddaaGreatDoor
end

/- Walks over policy.Parse: the closures that read a policy. -/
section
set_option linter.unusedSimpArgs false
set_option linter.unusedVariables false
namespace Go.Proofs.YtjjkimjdmpeddaaGreatDoor
open Go.RowKit Go.Cr

theorem ulQsP : Tryz.prog.underlying 64 = some (.slice 70) := by kernel_rfl
theorem infoQual : (Tryz.prog.info? 70).map (fun i => (i.zero, i.size, i.bytes)) = some (some (.agg #[.string ⟨#[]⟩, .slice none 0 0]), 2, 40) := by kernel_rfl
def TpQ (t : TypeId) : Prop := t = 66 ∨ t = 70
/-- One qualifier more. -/
def RetP3 (X : Nat → Prop) (z : List UInt8) (g : Nat) (s : ByteArray) (qs : List Qual) (w : World) (e : Ending) (w' : World) : Prop :=
  ∃ (vq : Value) (q : Qual), e = .returned (.bool (goodQ z)) ∧ (goodQ z = true → q = rawQ z) ∧ Blk w' g 66 #[.string s, vq] ∧ OwL repA X w' (g + 1) 70 vq (qs ++ [q]) ∧ Far g TpQ w.heap.size w w'
set_option maxRecDepth 100000 in
set_option maxHeartbeats 4000000 in
theorem pp3 (i : Nat) (v : Value) (z : List UInt8) (g : Nat) (X : Nat → Prop) (s : ByteArray) (vo : Value) (qs : List Qual) (w : World) (hG : Glo w) (hv : IsB w v z) (hL : z.length ≤ 90000)
    (hb : Blk w g 66 #[.string s, vo]) (ho : OwL repA X w (g + 1) 70 vo qs) (hn : qs.length ≤ 900000) (hX : ∀ b, w.heap.size ≤ b → X b) :
    Calls Tryz.prog 83 #[.int .i64 (i : Int), v, .pointer (some ⟨g, 0, none⟩)] w (RetP3 X z g s qs w) := by
  have HE := Lib.hid (pqual v z w.heap.size w.heap.size (w.alloc (.cells #[.string ⟨#[]⟩, .slice none 0 0] 70)) ⟨w, ⟨hG, hv⟩, Nat.le_refl _, (Below.refl _ _).alloc (Nat.le_refl _) _⟩ (Nat.le_refl _) hL (Blk.new _ _ _))
  obtain ⟨A, k, rfl⟩ := isB_slice hv
  obtain ⟨Ao, ko, rfl⟩ := ho.slice
  have lg := hb.lt
  have HO := Lib.hid ho
  have HBK := Lib.hid hb
  have HN := Lib.hid hn
  have HX := Lib.hid hX
  obtain ⟨i0, hi0, hz0, hz1, hz2⟩ := info_parts infoQual
  unfold RetQ at HE
  unfold RetP3
  generalize goodQ z = B at *
  generalize rawQ z = M at *
  clear hG hv hL hb ho hn hX
  go_enter Tryz.func83, Tryz.ntmps83
  go_wp2_with (first | ((go_at_call 84); (with_reducible refine (HE.out).mono ?_); rintro e w1 ⟨s1, A1, k1, l1, rfl, hk1, hr1, hrw, hf1⟩; have HB1 := Lib.hid (((Below.refl _ _).alloc (Nat.le_refl _) _).trans (hf1.below (B' := w.heap.size) (by simp) (Nat.le_refl _))); have JG := HBK.out.call HB1.out; have lG := JG.lt; have qG := JG.q; have fG := JG.fz; have lK := hk1.lt; have qK := hk1.q; have HRW := Lib.hid hrw; have HO1 := Lib.hid (HO.out.below HB1.out); have HR1 := Lib.hid hr1; have HK1 := Lib.hid hk1; have HG1 := Lib.hid JG; clear hrw hf1 hk1 hr1 JG) | (at_builtin; refine wpList_appL (r := repA) (X := X) _ rfl _ _ 64 rfl (g + 1) 70 ulQsP hi0 hz0 hz1 hz2 rfl (by decide) _ qs rfl (HO1.out.alloc _) _ [.string s1, .slice A1 l1.length k1] (s1, l1) rfl (isR_at rfl (by simp)) ⟨_, rfl, ?e1⟩ ?n1 ?b1 ?x1 ?_))
  case e1 =>
    refine (HR1.out.weak fun b hb hS => ?_).keep (by simp) fun b hb _ => Below.heap_alloc _ _ _ hb
    have hS' : w.heap.size + 1 ≤ b := by simpa using hS
    exact ⟨⟨by omega, HO.out.notNew (by omega)⟩, HX.out b (by omega)⟩
  case n1 => have := HN.out; omega
  case b1 => simp; omega
  case x1 => exact HX.out _ (by have := HB1.out.size; simp; omega)
  intro v5 w5 ho5 hb5 hg5
  obtain ⟨A5, k5, hv5⟩ := ho5.slice
  generalize hL5 : (qs ++ [(s1, l1)]).length = L5 at hv5
  subst hv5
  have hne := HO1.out.notOld (g := g) (by omega)
  have J5 := Blk.grown (HG1.out.alloc _) hg5 hne
  have lJ5 := J5.lt
  have qJ5 := J5.q
  have fJ5 := J5.fz
  have HJ5 := Lib.hid J5
  have HO5 := Lib.hid ho5
  have HG5 := Lib.hid hg5
  clear ho5 hb5 hg5 hne J5
  go_wp2
  refine bodyPost_ret (v := .bool B) (by simp only [results, Tryz.results83]; go_simp) rfl ?_
  have z1 := HB1.out.size
  obtain ⟨xs, hrow, _⟩ := HO1.out
  have F1 : Far g TpQ w.heap.size w (w1.alloc (.cells #[.string s1, .slice A1 l1.length k1] 70)) := (Far.of_below HB1.out).alloc z1 _
  have F2 := F1.grown HG5.out (by simp; omega) (ownsRow_below hrow ((Below.refl _ _).alloc (Nat.le_refl _) _)) (Nat.le_succ _) (.inr rfl)
  have F3 := F2.setRow (p := ⟨g, 1, none⟩) HJ5.out (Nat.le_refl _) (.inl rfl) (.slice A5 L5 k5)
  exact ⟨.slice A5 L5 k5, (s1, l1), rfl, fun h => (HRW.out h).symm, HJ5.out.set_ 1 _, HO5.out.setLow (Nat.lt_succ_self g) _, F3⟩

/-- What is kept of the qualifiers. -/
def InvP3 (X : Nat → Prop) (B g c : Nat) (s : ByteArray) (v : Value) (y : List UInt8) (ls : List (List UInt8)) (i : Nat) (w : World) : Prop :=
  c < w.heap.size ∧ Old B (GB v y) w ∧ (∀ b, w.heap.size ≤ b → X b) ∧ ∃ (vo : Value) (qs : List Qual), Blk w g 66 #[.string s, vo] ∧ OwL repA (fun b => X b ∧ b ≠ c) w (g + 1) 70 vo qs ∧ qs.length = i ∧ ∀ j (hj : j < qs.length), goodQ (ls.getD j []) = true → qs[j] = rawQ (ls.getD j [])
theorem errNeP : ¬ TpQ 38 := by unfold TpQ; decide
theorem elNeP : ¬ TpQ 118 := by unfold TpQ; decide
def RetP2e (X : Nat → Prop) (y : List UInt8) (g : Nat) (s : ByteArray) (w : World) (e : Ending) (w' : World) : Prop :=
  ∃ (ec eo : Int) (vo : Value) (qs : List Qual), e = .returned (errV (ec, eo)) ∧ (ec == 0) = goodQs y ∧ Blk w' g 66 #[.string s, vo] ∧ OwL repA X w' (g + 1) 70 vo qs ∧ (goodQs y = true → qs = rawQs y) ∧ Far g TpQ w.heap.size w w'
theorem pp3_each (v : Value) (y : List UInt8) (X : Nat → Prop) (B g : Nat) (s : ByteArray) (w : World) (hO : Old B (GB v y) w) (hg : B ≤ g) (hL : y.length ≤ 90000) (hb : Blk w g 66 #[.string s, .slice none 0 0]) (hX : ∀ b, w.heap.size ≤ b → X b) :
    Calls Tryz.prog 58 #[v, .int .i64 1, .int .i64 2147483647, .func (.func 83) #[] #[.pointer (some ⟨g, 0, none⟩)]] w (RetP2e X y g s w) := by
  have hv := (GB.old hO).2
  have hlt := hb.lt
  cases hls : eachL 1 2147483647 y with
  | none =>
    have hgd : goodQs y = false := by unfold goodQs; rw [hls]
    refine (each_none v y 1 2147483647 _ _ w hv (by omega) hls).mono fun e w' ⟨hb', ec, eo, h1, h2, h3, he⟩ => ⟨ec, eo, _, [], he, ?_, hb.call hb', OwL.nil_ _ _ _ _, fun h => ?_, Far.of_below hb'⟩
    · rw [hgd]; exact beq_eq_false_iff_ne.2 (by omega)
    · rw [hgd] at h; cases h
  | some ls =>
    have hgd : goodQs y = ls.all goodQ := by unfold goodQs; rw [hls]
    have hrw : rawQs y = ls.map rawQ := by unfold rawQs; rw [hls]; rfl
    have hcnt : ls.length ≤ 90000 := by have := eachL_cnt hls; omega
    have hall : (List.range ls.length).all (fun i => goodQ (ls.getD i [])) = ls.all goodQ := by
      rw [Bool.eq_iff_iff, List.all_eq_true, List.all_eq_true]
      constructor
      · intro h p hp
        obtain ⟨j, hj, rfl⟩ := List.mem_iff_getElem.1 hp
        have := h j (by simp [hj])
        simpa [hj] using this
      · intro h j hj
        have hjl : j < ls.length := by simpa using hj
        simpa [hjl] using h _ (List.getElem_mem hjl)
    refine (each_some v y 1 2147483647 83 #[.pointer (some ⟨g, 0, none⟩)] w ls (fun i => goodQ (ls.getD i [])) B g TpQ (InvP3 X B g w.heap.size s v y ls) hv (by omega) hls enP111 errNeP elNeP ?_ ?_ ?_ ?_).mono ?_
    · exact fun i W h => h.2.1.map fun _ h => h.2
    · exact fun W hW hs => ⟨hs, hO.below hW, fun b hb => hX b (by omega), _, [], hb.call hW, OwL.nil_ _ _ _ _, rfl, fun j hj => absurd hj (by simp)⟩
    · rintro i W W' ⟨h0, h1, h2, vo, qs, hk, ho, hn, hr⟩ hf
      exact ⟨Nat.lt_of_lt_of_le h0 hf.size, h1.only hf (by omega), fun b hb => h2 b (Nat.le_trans hf.size hb), vo, qs, hk.only hf (by omega), ho.only hf (fun _ _ h => h.2), hn, hr⟩
    · rintro i hi W u ⟨h0, h1, h2, vo, qs, hk, ho, hn, hr⟩ hu
      refine (pp3 i u _ g (fun b => X b ∧ b ≠ w.heap.size) s vo qs W (GB.old h1).1 hu.now (by have := eachL_part hls (List.getElem_mem hi); omega) hk ho (by omega) (fun b hb => ⟨h2 b hb, by omega⟩)).mono ?_
      rintro e w' ⟨vo', q, rfl, k1, k2, k3, k4⟩
      have hgi : ls.getD i [] = ls[i] := by simp [hi]
      refine ⟨by show Ending.returned (.bool (goodQ ls[i])) = Ending.returned (.bool (goodQ (ls.getD i []))); rw [hgi], ⟨Nat.lt_of_lt_of_le h0 k4.size, h1.far k4 hg, fun b hb => h2 b (Nat.le_trans k4.size hb), vo', qs ++ [q], k2, k3, by simp [hn], fun j hj hgj => ?_⟩, k4⟩
      by_cases hjl : j < qs.length
      · rw [List.getElem_append_left hjl]; exact hr j hjl hgj
      · have hje : j = qs.length := by simp at hj; omega
        subst hje
        rw [List.getElem_append_right (Nat.le_refl _)]
        have e : ls.getD qs.length [] = ls[i] := by rw [hn]; exact hgi
        rw [e] at hgj ⊢
        simpa using k1 hgj
    · rintro e w' ⟨hf, ⟨hok, rfl, _, _, _, vo, qs, hk, ho, hn, hr⟩ | ⟨hok, ec, eo, h1, h2, h3, rfl, m, hm, _, _, _, vo, qs, hk, ho, hn, hr⟩⟩
      · rw [hall] at hok
        refine ⟨0, 0, vo, qs, rfl, by rw [hgd, hok]; rfl, hk, ho.weak (fun _ _ _ h => h.1), fun _ => ?_, hf⟩
        rw [hrw]
        apply List.ext_getElem (by simp [hn])
        intro j hj hj'
        have hjl : j < ls.length := by omega
        have := hr j hj (by simpa [hjl] using List.all_eq_true.1 hok _ (List.getElem_mem hjl))
        rw [this]
        simp [hjl]
      · rw [hall] at hok
        exact ⟨ec, eo, vo, qs, rfl, by rw [hgd, hok]; exact beq_eq_false_iff_ne.2 (by omega), hk, ho.weak (fun _ _ _ h => h.1), fun h => (by rw [hgd, hok] at h; cases h), hf⟩

/-- What the closure leaves: the text; the qualifiers. -/
def RetP2a (y : List UInt8) (g : Nat) (u : Value) (w : World) (e : Ending) (w' : World) : Prop :=
  ∃ s : ByteArray, e = .returned (.bool (idL y).isSome) ∧ (∀ x, idL y = some x → s = bStr x) ∧ Blk w' g 66 #[.string s, u] ∧ Far g TpQ w.heap.size w w'
def RetP2b (X : Nat → Prop) (y : List UInt8) (g : Nat) (s : ByteArray) (w : World) (e : Ending) (w' : World) : Prop :=
  ∃ (vo : Value) (qs : List Qual), e = .returned (.bool (goodQs y)) ∧ Blk w' g 66 #[.string s, vo] ∧ OwL repA X w' (g + 1) 70 vo qs ∧ (goodQs y = true → qs = rawQs y) ∧ Far g TpQ w.heap.size w w'
set_option maxRecDepth 100000 in
set_option maxHeartbeats 4000000 in
theorem pp2_id (v : Value) (y : List UInt8) (g : Nat) (s : ByteArray) (u : Value) (w : World) (hG : Glo w) (hv : IsB w v y) (hL : y.length ≤ 90000) (hb : Blk w g 66 #[.string s, u]) :
    Calls Tryz.prog 82 #[.int .i64 0, v, .pointer (some ⟨g, 0, none⟩)] w (RetP2a y g u w) := by
  have H0 := Lib.hid (polId v y g 0 _ _ s w hG hv hL hb rfl)
  obtain ⟨A, c, rfl⟩ := isB_slice hv
  clear hG hv hb hL
  go_enter Tryz.func82, Tryz.ntmps82
  go_wp2_with (((go_at_call 75); (with_reducible refine (H0.out).mono ?_); rintro e w1 ⟨s, rfl, h1, h2, h3⟩))
  go_ret
  exact ⟨s, rfl, h1, h2, h3.widen (Nat.le_refl _) fun t h => .inl h⟩
set_option maxRecDepth 100000 in
set_option maxHeartbeats 4000000 in
theorem pp2_qs (i : Nat) (hi : i ≠ 0) (v : Value) (y : List UInt8) (X : Nat → Prop) (B g : Nat) (s : ByteArray) (w : World) (hO : Old B (GB v y) w) (hg : B ≤ g) (hL : y.length ≤ 90000) (hb : Blk w g 66 #[.string s, .slice none 0 0]) (hX : ∀ b, w.heap.size ≤ b → X b) :
    Calls Tryz.prog 82 #[.int .i64 (i : Int), v, .pointer (some ⟨g, 0, none⟩)] w (RetP2b X y g s w) := by
  have hv := (GB.old hO).2
  have HE := Lib.hid (pp3_each v y X B g s w hO hg hL hb hX)
  obtain ⟨A, c, rfl⟩ := isB_slice hv
  have hn : ((i : Int) == 0) = false := beq_eq_false_iff_ne.2 (by omega)
  unfold RetP2e at HE
  simp only [errV] at HE
  unfold RetP2b
  generalize goodQs y = G at *
  generalize rawQs y = R at *
  clear hO hv hL hb hX hi hg
  go_enter Tryz.func82, Tryz.ntmps82
  go_wp2_with (((go_at_call 58); (with_reducible refine (HE.out).mono ?_); rintro e w1 ⟨ec, eo, vo, qs, rfl, hgd, hk, ho, hr, hf⟩; have hfd := fieldE ec eo; have HK := Lib.hid hk; have HO := Lib.hid ho; have HR := Lib.hid hr; have HF := Lib.hid hf; clear hk ho hr hf))
  go_ret
  exact ⟨vo, qs, rfl, HK.out, HO.out, HR.out, HF.out⟩
end Go.Proofs.YtjjkimjdmpeddaaGreatDoor
end

/- Walks over policy.Parse: the outer closure and the function. -/
section
set_option linter.unusedSimpArgs false
set_option linter.unusedVariables false
namespace Go.Proofs.YtjjkimjdmpeddaaGreatDoor
open Go.RowKit Go.Cr

theorem len_two {α : Type} {l : List α} (h : l.length = 2) : ∃ a b, l = [a, b] := by
  match l, h with
  | [a, b], _ => exact ⟨a, b, rfl⟩
theorem ulPsP : Tryz.prog.underlying 22 = some (.slice 66) := by kernel_rfl
theorem infoPol : (Tryz.prog.info? 66).map (fun i => (i.zero, i.size, i.bytes)) = some (some (.agg #[.string ⟨#[]⟩, .slice none 0 0]), 2, 40) := by kernel_rfl
def goodAt (ls : List (List UInt8)) (i : Nat) : Bool := if i = 0 then (idL (ls.getD 0 [])).isSome else goodQs (ls.getD i [])
/-- What is kept of a policy. -/
def InvP2 (B g c : Nat) (v : Value) (x : List UInt8) (ls : List (List UInt8)) (i : Nat) (w : World) : Prop :=
  c < w.heap.size ∧ Old B (GB v x) w ∧ ∃ (s : ByteArray) (vo : Value) (qs : List Qual), Blk w g 66 #[.string s, vo] ∧ OwL repA (fun b => b ≠ c) w (g + 1) 70 vo qs ∧ (i ≤ 1 → vo = .slice none 0 0 ∧ qs = []) ∧ (0 < i → ∀ t, idL (ls.getD 0 []) = some t → s = bStr t) ∧ (1 < i → goodQs (ls.getD 1 []) = true → qs = rawQs (ls.getD 1 []))
/-- each over the parts of a policy. -/
def RetP1e (x : List UInt8) (g : Nat) (w : World) (e : Ending) (w' : World) : Prop :=
  ∃ (ec eo : Int) (s : ByteArray) (A : Option Addr) (k : Nat) (qs : List Qual), e = .returned (errV (ec, eo)) ∧ (ec == 0) = goodP x ∧ Blk w' g 66 #[.string s, .slice A qs.length k] ∧ OwL repA (fun _ => True) w' (g + 1) 70 (.slice A qs.length k) qs ∧ (goodP x = true → rawP x = (s, qs)) ∧ Far g TpQ w.heap.size w w'
theorem pp2_each (v : Value) (x : List UInt8) (B g : Nat) (w : World) (hO : Old B (GB v x) w) (hg : B ≤ g) (hL : x.length ≤ 90000) (hb : Blk w g 66 #[.string ⟨#[]⟩, .slice none 0 0]) :
    Calls Tryz.prog 58 #[v, .int .i64 1, .int .i64 2, .func (.func 82) #[] #[.pointer (some ⟨g, 0, none⟩)]] w (RetP1e x g w) := by
  have hv := (GB.old hO).2
  have hlt := hb.lt
  cases hls : eachL 1 2 x with
  | none =>
    have hgd : goodP x = false := by unfold goodP; rw [hls]
    refine (each_none v x 1 2 _ _ w hv (by omega) hls).mono fun e w' ⟨hb', ec, eo, h1, h2, h3, he⟩ => ⟨ec, eo, _, none, 0, [], he, ?_, hb.call hb', OwL.nil_ _ _ _ _, fun h => ?_, Far.of_below hb'⟩
    · rw [hgd]; exact beq_eq_false_iff_ne.2 (by omega)
    · rw [hgd] at h; cases h
  | some ls =>
    have hn12 : ls.length = 1 ∨ ls.length = 2 := by obtain ⟨_, h1, h2, _⟩ := eachL_ok hls; omega
    have hgd : (List.range ls.length).all (goodAt ls) = goodP x := by
      rcases hn12 with h | h
      · obtain ⟨y0, rfl⟩ := List.length_eq_one_iff.1 h
        unfold goodP
        rw [hls, show [y0].length = 1 from rfl, show List.range 1 = [0] from rfl]
        simp [goodAt]
      · obtain ⟨y0, y1, rfl⟩ := len_two h
        unfold goodP
        rw [hls, show [y0, y1].length = 2 from rfl, show List.range 2 = [0, 1] from rfl]
        simp [goodAt]
    refine (each_some v x 1 2 82 #[.pointer (some ⟨g, 0, none⟩)] w ls (goodAt ls) B g TpQ (InvP2 B g w.heap.size v x ls) hv (by omega) hls enP11 errNeP elNeP ?_ ?_ ?_ ?_).mono ?_
    · exact fun i W h => h.2.1.map fun _ h => h.2
    · exact fun W hW hs => ⟨hs, hO.below hW, ⟨#[]⟩, _, [], hb.call hW, OwL.nil_ _ _ _ _, fun _ => ⟨rfl, rfl⟩, fun h => absurd h (by decide), fun h => absurd h (by decide)⟩
    · rintro i W W' ⟨h0, h1, s, vo, qs, hk, ho, h3, h4, h5⟩ hf
      exact ⟨Nat.lt_of_lt_of_le h0 hf.size, h1.only hf (by omega), s, vo, qs, hk.only hf (by omega), ho.only hf (fun _ _ h => h), h3, h4, h5⟩
    · rintro i hi W u ⟨h0, h1, s, vo, qs, hk, ho, h3, h4, h5⟩ hu
      have hul : ls[i].length ≤ 90000 := by have := eachL_part hls (List.getElem_mem hi); omega
      have hgi : ls.getD i [] = ls[i] := by simp [hi]
      rcases (by omega : i = 0 ∨ i = 1) with rfl | rfl
      · obtain ⟨rfl, rfl⟩ := h3 (by decide)
        refine (pp2_id u _ g s _ W (GB.old h1).1 hu.now hul hk).mono ?_
        rintro e w' ⟨s', rfl, k1, k2, k3⟩
        refine ⟨by show Ending.returned (.bool (idL ls[0]).isSome) = Ending.returned (.bool (idL (ls.getD 0 [])).isSome); rw [hgi], ⟨Nat.lt_of_lt_of_le h0 k3.size, h1.far k3 hg, s', _, [], k2, OwL.nil_ _ _ _ _, fun _ => ⟨rfl, rfl⟩, fun _ => ?_, fun h => absurd h (by decide)⟩, k3⟩
        rw [hgi]
        exact k1
      · obtain ⟨rfl, rfl⟩ := h3 (by decide)
        refine (pp2_qs 1 (by decide) u _ (fun b => b ≠ w.heap.size) B g s W ((h1.and hu (fun _ _ h hb => h.below hb) (fun _ _ h hb => h.below hb)).map fun _ h => ⟨h.1.1, h.2⟩) hg hul hk (fun b hb => by omega)).mono ?_
        rintro e w' ⟨vo', qs', rfl, k1, k2, k3, k4⟩
        refine ⟨by show Ending.returned (.bool (goodQs ls[1])) = Ending.returned (.bool (goodQs (ls.getD 1 []))); rw [hgi], ⟨Nat.lt_of_lt_of_le h0 k4.size, h1.far k4 hg, s, vo', qs', k1, k2, fun h => absurd h (by decide), fun _ => h4 (by decide), fun _ => ?_⟩, k4⟩
        rw [hgi]
        exact k3
    · rintro e w' ⟨hf, ⟨hok, rfl, h0, _, s, vo, qs, hk, ho, h3, h4, h5⟩ | ⟨hok, ec, eo, h1, h2, h3, rfl, m, hm, h0, _, s, vo, qs, hk, ho, _, _, _⟩⟩
      · obtain ⟨A, k, rfl⟩ := ho.slice
        refine ⟨0, 0, s, A, k, qs, rfl, by rw [← hgd, hok]; rfl, hk, ho.weak (fun _ _ _ _ => trivial), fun h => ?_, hf⟩
        rcases hn12 with hl | hl
        · obtain ⟨y0, rfl⟩ := List.length_eq_one_iff.1 hl
          unfold goodP at h
          rw [hls] at h
          obtain ⟨t0, e0⟩ := Option.isSome_iff_exists.1 h
          unfold rawP
          rw [hls]
          simp only [e0, Option.getD_some]
          rw [h4 (by simp) t0 (by simpa using e0), (h3 (by simp)).2]
        · obtain ⟨y0, y1, rfl⟩ := len_two hl
          unfold goodP at h
          rw [hls] at h
          simp only [Bool.and_eq_true] at h
          obtain ⟨t0, e0⟩ := Option.isSome_iff_exists.1 h.1
          unfold rawP
          rw [hls]
          simp only [e0, Option.getD_some]
          rw [h4 (by simp) t0 (by simpa using e0), h5 (by simp) (by simpa using h.2)]
          rfl
      · obtain ⟨A, k, rfl⟩ := ho.slice
        rw [hgd] at hok
        exact ⟨ec, eo, s, A, k, qs, rfl, by rw [hok]; exact beq_eq_false_iff_ne.2 (by omega), hk, ho.weak (fun _ _ _ _ => trivial), fun h => (by rw [hok] at h; cases h), hf⟩
end Go.Proofs.YtjjkimjdmpeddaaGreatDoor
end

/- Walks over policy.Parse: the outer closure and the function. -/
section
set_option linter.unusedSimpArgs false
set_option linter.unusedVariables false
namespace Go.Proofs.YtjjkimjdmpeddaaGreatDoor
open Go.RowKit Go.Cr

def TpP (t : TypeId) : Prop := t = 22 ∨ t = 66 ∨ t = 70
/-- What the outer closure leaves: one policy more. -/
def RetP1 (x : List UInt8) (g c : Nat) (ms : List Pol) (w : World) (e : Ending) (w' : World) : Prop :=
  ∃ (vo : Value) (m : Pol), e = .returned (.bool (goodP x)) ∧ (goodP x = true → m = rawP x) ∧ Blk w' g 22 #[vo] ∧ OwL (repS repA) (fun b => b ≠ c) w' (g + 1) 66 vo (ms ++ [m]) ∧ Far g TpP w.heap.size w w'
set_option maxRecDepth 100000 in
set_option maxHeartbeats 4000000 in
theorem pp1 (i : Nat) (v : Value) (x : List UInt8) (g c : Nat) (vo : Value) (ms : List Pol) (w : World) (hG : Glo w) (hv : IsB w v x) (hL : x.length ≤ 90000)
    (hb : Blk w g 22 #[vo]) (ho : OwL (repS repA) (fun b => b ≠ c) w (g + 1) 66 vo ms) (hn : ms.length ≤ 900000) (hc : c < w.heap.size) :
    Calls Tryz.prog 81 #[.int .i64 (i : Int), v, .pointer (some ⟨g, 0, none⟩)] w (RetP1 x g c ms w) := by
  have HE := Lib.hid (pp2_each v x w.heap.size w.heap.size (w.alloc (.cells #[.string ⟨#[]⟩, .slice none 0 0] 66)) ⟨w, ⟨hG, hv⟩, Nat.le_refl _, (Below.refl _ _).alloc (Nat.le_refl _) _⟩ (Nat.le_refl _) hL (Blk.new _ _ _))
  obtain ⟨A, k, rfl⟩ := isB_slice hv
  obtain ⟨Ao, ko, rfl⟩ := ho.slice
  have lg := hb.lt
  have HO := Lib.hid ho
  have HBK := Lib.hid hb
  have HN := Lib.hid hn
  obtain ⟨i0, hi0, hz0, hz1, hz2⟩ := info_parts infoPol
  unfold RetP1e at HE
  unfold RetP1
  generalize goodP x = B at *
  generalize rawP x = M at *
  clear hG hv hL hb ho hn
  go_enter Tryz.func81, Tryz.ntmps81
  go_wp2_with (first | ((go_at_call 58); (with_reducible refine (HE.out).mono ?_); rintro e w1 ⟨ec, eo, s0, A1, k1, q1, rfl, hgd, hk1, hoq1, hrw, hf1⟩; have HQ1 := Lib.hid hoq1; clear hoq1; have HB1 := Lib.hid (((Below.refl _ _).alloc (Nat.le_refl _) _).trans (hf1.below (B' := w.heap.size) (by simp) (Nat.le_refl _))); have JG := HBK.out.call HB1.out; have lG := JG.lt; have qG := JG.q; have fG := JG.fz; have lK := hk1.lt; have qK := hk1.q; have HRW := Lib.hid hrw; have HO1 := Lib.hid (HO.out.below HB1.out); have HK1 := Lib.hid hk1; have HG1 := Lib.hid JG; clear hrw hf1 hk1 JG) | (at_builtin; refine wpList_appL (r := (repS repA)) (X := fun b => b ≠ c) _ rfl _ _ 22 rfl (g + 1) 66 ulPsP hi0 hz0 hz1 hz2 rfl (by decide) _ ms rfl ((HO1.out.alloc _).alloc _) _ [.string s0, .slice A1 q1.length k1] (s0, q1) rfl (isR_at rfl (by simp)) ⟨_, rfl, ?e1⟩ ?n1 ?b1 ?x1 ?_))
  case e1 =>
    refine ((HQ1.out.isL.weak fun b hb hS => ?_).alloc _).alloc _
    have hS1 : w.heap.size + 1 ≤ b := hS.1
    exact ⟨⟨by omega, HO.out.notNew (by omega)⟩, by omega⟩
  case n1 => have := HN.out; omega
  case b1 => simp; omega
  case x1 => simp; omega
  intro v5 w5 ho5 hb5 hg5
  obtain ⟨A5, k5, hv5⟩ := ho5.slice
  generalize hL5 : (ms ++ [(s0, q1)]).length = L5 at hv5
  subst hv5
  have hne := HO1.out.notOld (g := g) (by omega)
  have J5 := Blk.grown ((HG1.out.alloc _).alloc _) hg5 hne
  have E5 := Blk.grown ((Blk.new w1 38 #[.int .i64 ec, .int .i64 eo]).alloc _) hg5 (HO1.out.notNew (Nat.le_refl _))
  have lJ5 := J5.lt
  have qJ5 := J5.q
  have fJ5 := J5.fz
  have lE5 := E5.lt
  have qE5 := E5.q
  have HJ5 := Lib.hid J5
  have HO5 := Lib.hid ho5
  have HG5 := Lib.hid hg5
  clear ho5 hb5 hg5 hne J5 E5
  go_wp2
  refine bodyPost_ret (v := .bool B) (by simp only [results, Tryz.results81]; go_simp) rfl ?_
  have z1 := HB1.out.size
  obtain ⟨xs, hrow, _⟩ := HO1.out
  have F1 : Far g TpP w.heap.size w ((w1.alloc (.cells #[.int .i64 ec, .int .i64 eo] 38)).alloc (.cells #[.string s0, .slice A1 q1.length k1] 66)) := ((Far.of_below HB1.out).alloc z1 _).alloc (by simp; omega) _
  have F2 := F1.grown HG5.out (by simp; omega) (ownsRow_below (ownsRow_below hrow ((Below.refl _ _).alloc (Nat.le_refl _) _)) ((Below.refl _ _).alloc (Nat.le_refl _) _)) (Nat.le_succ _) (.inr (.inl rfl))
  have F3 := F2.setRow (p := ⟨g, 0, none⟩) HJ5.out (Nat.le_refl _) (.inl rfl) (.slice A5 L5 k5)
  exact ⟨.slice A5 L5 k5, (s0, q1), rfl, fun h => (HRW.out h).symm, HJ5.out.set_ 0 _, HO5.out.setLow (Nat.lt_succ_self g) _, F3⟩

/-- What is kept while the outer closure runs over the elements. -/
def InvP1 (B g c : Nat) (v : Value) (b : List UInt8) (ls : List (List UInt8)) (i : Nat) (w : World) : Prop :=
  c < w.heap.size ∧ Old B (GB v b) w ∧ ∃ (vo : Value) (ms : List Pol), Blk w g 22 #[vo] ∧ OwL (repS repA) (fun b => b ≠ c) w (g + 1) 66 vo ms ∧ ms.length = i ∧ ∀ j (hj : j < ms.length), goodP (ls.getD j []) = true → ms[j] = rawP (ls.getD j [])
theorem errNe3 : ¬ TpP 38 := by unfold TpP; decide
theorem elNe3 : ¬ TpP 118 := by unfold TpP; decide
/-- each over the elements: the list that is kept. -/
def RetP1x (b : List UInt8) (g : Nat) (w : World) (e : Ending) (w' : World) : Prop :=
  ∃ (ec eo : Int) (vo : Value) (ms : List Pol), e = .returned (errV (ec, eo)) ∧ Blk w' g 22 #[vo] ∧ OwL (repS repA) (fun _ => True) w' (g + 1) 66 vo ms ∧ Far g TpP w.heap.size w w' ∧ (0 ≤ eo ∧ eo ≤ b.length) ∧
    ((ec = 0 ∧ eo = 0 ∧ ∃ ls, eachL 1 2147483647 b = some ls ∧ ls.all goodP = true ∧ ms = ls.map rawP) ∨ (0 < ec ∧ ∀ ls, eachL 1 2147483647 b = some ls → ls.all goodP = false))
theorem pp1_each (v : Value) (b : List UInt8) (B g : Nat) (w : World) (hO : Old B (GB v b) w) (hg : B ≤ g) (hL : b.length ≤ 90000) (hb : Blk w g 22 #[.slice none 0 0]) :
    Calls Tryz.prog 58 #[v, .int .i64 1, .int .i64 2147483647, .func (.func 81) #[] #[.pointer (some ⟨g, 0, none⟩)]] w (RetP1x b g w) := by
  have hv := (GB.old hO).2
  have hlt := hb.lt
  cases hls : eachL 1 2147483647 b with
  | none =>
    refine (each_none v b 1 2147483647 _ _ w hv (by omega) hls).mono fun e w' ⟨hb', ec, eo, h1, h2, h3, he⟩ => ⟨ec, eo, _, [], he, hb.call hb', OwL.nil_ _ _ _ _, Far.of_below hb', ⟨h2, h3⟩, .inr ⟨h1, fun ls h => ?_⟩⟩
    rw [hls] at h; cases h
  | some ls =>
    have hcnt : ls.length ≤ 90000 := by
      obtain ⟨h1, _, _, h4⟩ := eachL_ok hls
      have h2 := cnt_flat h4
      have h3 := seqB_len ls
      rw [← h1] at h3
      omega
    refine (each_some v b 1 2147483647 81 #[.pointer (some ⟨g, 0, none⟩)] w ls (fun i => goodP (ls.getD i [])) B g TpP (InvP1 B g w.heap.size v b ls) hv (by omega) hls enP1 errNe3 elNe3 ?_ ?_ ?_ ?_).mono ?_
    · exact fun i W h => h.2.1.map fun _ h => h.2
    · exact fun W hW hs => ⟨hs, hO.below hW, _, [], hb.call hW, OwL.nil_ _ _ _ _, rfl, fun j hj => absurd hj (by simp)⟩
    · rintro i W W' ⟨h0, h1, vo, ms, hk, ho, hn, hr⟩ hf
      exact ⟨Nat.lt_of_lt_of_le h0 hf.size, h1.only hf (by omega), vo, ms, hk.only hf (by omega), ho.only hf (fun _ _ h => h), hn, hr⟩
    · rintro i hi W u ⟨h0, h1, vo, ms, hk, ho, hn, hr⟩ hu
      refine (pp1 i u _ g w.heap.size vo ms W (GB.old h1).1 hu.now (by have := part_len hls (List.getElem_mem hi); omega) hk ho (by omega) h0).mono ?_
      rintro e w' ⟨vo', m, rfl, k1, k2, k3, k4⟩
      have hgi : ls.getD i [] = ls[i] := by simp [hi]
      refine ⟨by show Ending.returned (.bool (goodP ls[i])) = Ending.returned (.bool (goodP (ls.getD i []))); rw [hgi], ⟨Nat.lt_of_lt_of_le h0 k4.size, h1.far k4 hg, vo', ms ++ [m], k2, k3, by simp [hn], fun j hj hgj => ?_⟩, k4⟩
      by_cases hjl : j < ms.length
      · rw [List.getElem_append_left hjl]; exact hr j hjl hgj
      · have hje : j = ms.length := by simp at hj; omega
        subst hje
        rw [List.getElem_append_right (Nat.le_refl _)]
        have e : ls.getD ms.length [] = ls[i] := by rw [hn]; exact hgi
        rw [e] at hgj ⊢
        simpa using k1 hgj
    · rintro e w' ⟨hf, ⟨hok, rfl, _, _, vo, ms, hk, ho, hn, hr⟩ | ⟨hok, ec, eo, h1, h2, h3, rfl, m, hm, _, _, vo, ms, hk, ho, hn, hr⟩⟩
      · have hall : ls.all goodP = true := by
          rw [List.all_eq_true] at hok ⊢
          intro p hp
          obtain ⟨j, hj, rfl⟩ := List.mem_iff_getElem.1 hp
          have := hok j (by simp [hj])
          simpa [hj] using this
        refine ⟨0, 0, vo, ms, rfl, hk, ho.weak (fun _ _ _ _ => trivial), hf, ⟨by omega, by omega⟩, .inl ⟨rfl, rfl, ls, hls, hall, ?_⟩⟩
        apply List.ext_getElem (by simp [hn])
        intro j hj hj'
        have hjl : j < ls.length := by omega
        have := hr j hj (by simpa [hjl] using List.all_eq_true.1 hall _ (List.getElem_mem hjl))
        rw [this]
        simp [hjl]
      · refine ⟨ec, eo, vo, ms, rfl, hk, ho.weak (fun _ _ _ _ => trivial), hf, ⟨h2, h3⟩, .inr ⟨h1, fun ls' h => ?_⟩⟩
        rw [hls] at h
        injection h with h
        subst h
        rw [Bool.eq_false_iff] at hok ⊢
        intro hall
        refine hok ?_
        rw [List.all_eq_true] at hall ⊢
        intro j hj
        have hjl : j < ls.length := by simpa using hj
        simpa [hjl] using hall _ (List.getElem_mem hjl)

/-- What ParseMappings leaves. -/
def RetPPs (r : Option (List Pol)) (L : Nat) (w : World) (e : Ending) (w' : World) : Prop := Below w.heap.size w w' ∧ match r with
  | none => ∃ ec eo : Int, 0 < ec ∧ 0 ≤ eo ∧ eo ≤ L ∧ e = .returned (.tuple #[.slice none 0 0, errV (ec, eo)])
  | some ms => ∃ A k, e = .returned (.tuple #[.slice A ms.length k, errV (0, 0)]) ∧ OwL (repS repA) (fun _ => True) w' w.heap.size 66 (.slice A ms.length k) ms
theorem bStr_size (s : List UInt8) : (bStr s).size = s.length := by show s.toArray.size = _; simp
theorem rawQ_sz {z : List UInt8} (hL : z.length ≤ 4700) (h : goodQ z = true) : SzQ (rawQ z) := by
  unfold goodQ at h
  split at h
  · rename_i y0 y1 he
    rw [Bool.and_eq_true] at h
    obtain ⟨s0, h0⟩ := Option.isSome_iff_exists.1 h.1
    have l0 := idL_len h0
    have p0 := eachL_part he (p := y0) (by simp)
    have p1 := eachL_part he (p := y1) (by simp)
    have hr : rawQ z = (bStr s0, y1) := by unfold rawQ; rw [he]; simp [h0]
    rw [hr]
    have e0 := bStr_size s0
    unfold SzQ
    simp only
    omega
  · cases h
theorem rawQs_sz {y : List UInt8} (hL : y.length ≤ 4700) (h : goodQs y = true) : (rawQs y).length ≤ 10000 ∧ ∀ q ∈ rawQs y, SzQ q := by
  unfold goodQs at h
  unfold rawQs
  split at h
  · cases h
  · rename_i zs he
    rw [he]
    have hc := eachL_cnt he
    simp only [Option.getD_some, List.length_map]
    refine ⟨by omega, fun q hq => ?_⟩
    obtain ⟨z, hz, rfl⟩ := List.mem_map.1 hq
    exact rawQ_sz (by have := eachL_part he hz; omega) (List.all_eq_true.1 h z hz)
theorem rawP_sz {x : List UInt8} (hL : x.length ≤ 4700) (h : goodP x = true) : (rawP x).1.size ≤ 100000 ∧ (rawP x).2.length ≤ 10000 ∧ ∀ q ∈ (rawP x).2, SzQ q := by
  unfold goodP at h
  unfold rawP
  split at h
  · rename_i y0 he
    obtain ⟨s0, h0⟩ := Option.isSome_iff_exists.1 h
    have l0 := idL_len h0
    have p0 := eachL_part he (p := y0) (by simp)
    have e0 := bStr_size s0
    simp only [h0, Option.getD_some]
    exact ⟨by omega, by simp, fun q hq => by cases hq⟩
  · rename_i y0 y1 he
    rw [Bool.and_eq_true] at h
    obtain ⟨s0, h0⟩ := Option.isSome_iff_exists.1 h.1
    have l0 := idL_len h0
    have p0 := eachL_part he (p := y0) (by simp)
    have p1 := eachL_part he (p := y1) (by simp)
    have e0 := bStr_size s0
    have h2 := rawQs_sz (y := y1) (by omega) h.2
    simp only [h0, Option.getD_some]
    exact ⟨by omega, h2.1, h2.2⟩
  · cases h
theorem szP_raw {b : List UInt8} {ls : List (List UInt8)} (hL : b.length ≤ 4700) (h : eachL 1 2147483647 b = some ls) (hg : ls.all goodP = true) : SzP (ls.map rawP) := by
  have := eachL_cnt h
  refine ⟨by simp; omega, fun m hm => ?_⟩
  obtain ⟨x, hx, rfl⟩ := List.mem_map.1 hm
  exact rawP_sz (by have := eachL_part h hx; omega) (List.all_eq_true.1 hg x hx)
set_option maxRecDepth 100000 in
set_option maxHeartbeats 8000000 in
theorem polParse_no (v : Value) (b : List UInt8) (w : World) (hG : Glo w) (hv : IsB w v b) (hL : b.length ≤ 4700) (hbad : ∀ ls, eachL 1 2147483647 b = some ls → ls.all goodP = false) :
    Calls Tryz.prog 40 #[v] w (RetPPs none b.length w) := by
  have HE := Lib.hid (pp1_each v b w.heap.size (w.heap.size + 1) ((w.alloc (.cells #[.int .i64 0, .int .i64 0] 38)).alloc (.cells #[.slice none 0 0] 22)) ⟨w, ⟨hG, hv⟩, Nat.le_refl _, ((Below.refl _ _).alloc (Nat.le_refl _) _).alloc (by simp) _⟩ (Nat.le_succ _) (by omega) (blk_in (by simp)))
  obtain ⟨A, k, rfl⟩ := isB_slice hv
  unfold RetP1x at HE
  have HBAD := Lib.hid hbad
  clear hG hv hbad hL
  go_enter Tryz.func40, Tryz.ntmps40
  go_wp2_with (((go_at_call 58); (with_reducible refine (HE.out).mono ?_); rintro e w1 ⟨ec, eo, vo, ms, rfl, hk1, ho1, hf1, heo, hrest⟩; have HB1 := Lib.hid ((((Below.refl _ w).alloc (Nat.le_refl _) _).alloc (by simp) _).trans (hf1.below (B' := w.heap.size) (by simp; omega) (Nat.le_succ _))); have hec : 0 < ec := (by rcases hrest with ⟨_, _, ls, h1, h2, _⟩ | h; exact absurd (HBAD.out ls h1) (by rw [h2]; decide); exact h.1); have hn : (ec == 0) = false := beq_eq_false_iff_ne.2 (by omega); have hn' : (ec != 0) = true := (by simp; omega); have K1 := (((Blk.new w 38 #[.int .i64 0, .int .i64 0]).alloc (.cells #[.slice none 0 0] 22)).farR hf1 (by simp; omega) (.inl (Nat.lt_succ_self _))); have qK1 := K1.q; have fK1 := K1.fz; have lK1 := K1.lt; have HEO := Lib.hid heo; clear hrest hk1 ho1 hf1 K1 heo))
  go_region
  all_goals
    go_wp2
    refine bodyPost_ret (v := .tuple #[.slice none 0 0, errV (ec, eo)]) (by simp only [results, Tryz.results40]; go_simp) rfl ?_
    have s1 := HB1.out.size
    have b1 := HB1.out
    exact ⟨by ((repeat' (first | (with_reducible exact Below.refl _ _) | (with_reducible assumption) | (with_reducible refine Below.setCell ?_ ?_ _) | (with_reducible refine Below.alloc ?_ ?_ _) | (with_reducible refine Below.drew ?_) | (with_reducible refine below_drewN ?_ _) | (with_reducible refine Below.step (by with_reducible assumption) ?_ ?_))) <;> (first | omega | (simp; done) | (simp; omega))), ec, eo, hec, HEO.out.1, HEO.out.2, rfl⟩

/-- each over the elements of mappings. -/
def RetP1y (g : Nat) (ms : List Pol) (w : World) (e : Ending) (w' : World) : Prop :=
  ∃ A k, e = .returned (errV (0, 0)) ∧ Blk w' g 22 #[.slice A ms.length k] ∧ OwL (repS repA) (fun _ => True) w' (g + 1) 66 (.slice A ms.length k) ms ∧ Far g TpP w.heap.size w w'
theorem RetP1x.yes {b : List UInt8} {g : Nat} {w w' : World} {e : Ending} {ls : List (List UInt8)} (h : RetP1x b g w e w') (hls : eachL 1 2147483647 b = some ls) (hg : ls.all goodP = true) : RetP1y g (ls.map rawP) w e w' := by
  obtain ⟨ec, eo, vo, ms, rfl, hk, ho, hf, _, ⟨h0, h0', ls', h1, h2, h3⟩ | ⟨_, h⟩⟩ := h
  · rw [hls] at h1
    injection h1 with h1
    subst h0 h0' h1 h3
    obtain ⟨A, k, rfl⟩ := ho.slice
    exact ⟨A, k, rfl, hk, ho, hf⟩
  · have := h ls hls
    rw [hg] at this
    cases this
set_option maxRecDepth 100000 in
set_option maxHeartbeats 8000000 in
theorem polParse_bad (v : Value) (b : List UInt8) (w : World) (hG : Glo w) (hv : IsB w v b) (hL : b.length ≤ 4700) (ls : List (List UInt8)) (hls : eachL 1 2147483647 b = some ls) (hg : ls.all goodP = true) (hok : okP (ls.map rawP) = false) :
    Calls Tryz.prog 40 #[v] w (RetPPs none b.length w) := by
  have HE := Lib.hid ((pp1_each v b w.heap.size (w.heap.size + 1) ((w.alloc (.cells #[.int .i64 0, .int .i64 0] 38)).alloc (.cells #[.slice none 0 0] 22)) ⟨w, ⟨hG, hv⟩, Nat.le_refl _, ((Below.refl _ _).alloc (Nat.le_refl _) _).alloc (by simp) _⟩ (Nat.le_succ _) (by omega) (blk_in (by simp))).mono fun e w' h => h.yes hls hg)
  have hz := szP_raw hL hls hg
  clear hls hg
  generalize ls.map rawP = ms at *
  have HP : Hid (∀ W A k, Glo W → IsPs W (.slice A ms.length k) ms → Calls Tryz.prog 38 #[.slice A ms.length k] W (RetB (.bool false) W)) := fun W A k g h => by have := polValid (.slice A ms.length k) ms W g h hz; rwa [hok] at this
  have HF := Lib.hid (polBad 0)
  have HG := Lib.hid hG
  obtain ⟨A, k, rfl⟩ := isB_slice hv
  unfold RetP1y at HE
  simp only [errV] at HE HF
  have HBL := Lib.hid (show (0 : Int) ≤ b.length by omega)
  clear hG hv hL hz hok
  go_enter Tryz.func40, Tryz.ntmps40
  go_wp2_with (first | ((go_at_call 58); (with_reducible refine (HE.out).mono ?_); rintro e w1 ⟨A1, k1, rfl, hk1, ho1, hf1⟩; have HB1 := Lib.hid ((((Below.refl _ w).alloc (Nat.le_refl _) _).alloc (by simp) _).trans (hf1.below (B' := w.heap.size) (by simp; omega) (Nat.le_succ _))); have K1 := (((Blk.new w 38 #[.int .i64 0, .int .i64 0]).alloc (.cells #[.slice none 0 0] 22)).farR hf1 (by simp; omega) (.inl (Nat.lt_succ_self _))); have lK1 := K1.lt; have qk1 := hk1.q; have lk1 := hk1.lt; have HK1 := Lib.hid K1; have HO1 := Lib.hid ho1; clear hk1 ho1 hf1 K1) | ((go_at_call 38); (with_reducible refine (HP.out _ _ _ ((HG.out.below HB1.out).alloc _) ((isPs_of HO1.out.isL).alloc _)).mono ?_); rintro e w2 ⟨rfl, hbw2⟩; have HB2 := Lib.hid ((HB1.out.alloc HB1.out.size _).trans (hbw2.mono (by have := HB1.out.size; simp; omega))); have K2 := (HK1.out.alloc _).call hbw2; have HK2 := Lib.hid K2; clear hbw2 K2) | ((go_at_call 62); (with_reducible refine (HF.out _).mono ?_); rintro e w3 ⟨rfl, hbw3⟩; have K3 := HK2.out.call hbw3; have qK3 := K3.q; have fK3 := K3.fz; have lK3 := K3.lt; have HB3 := Lib.hid (HB2.out.trans (hbw3.mono HB2.out.size)); clear K3 hbw3))
  refine bodyPost_ret (v := .tuple #[.slice none 0 0, errV (6, 0)]) (by simp only [results, Tryz.results40]; go_simp) rfl ?_
  have s3 := HB3.out.size
  have b3 := HB3.out
  exact ⟨by ((repeat' (first | (with_reducible exact Below.refl _ _) | (with_reducible assumption) | (with_reducible refine Below.setCell ?_ ?_ _) | (with_reducible refine Below.alloc ?_ ?_ _) | (with_reducible refine Below.drew ?_) | (with_reducible refine below_drewN ?_ _) | (with_reducible refine Below.step (by with_reducible assumption) ?_ ?_))) <;> (first | omega | (simp; done) | (simp; omega))), 6, 0, by decide, by decide, HBL.out, rfl⟩
set_option maxRecDepth 100000 in
set_option maxHeartbeats 8000000 in
theorem polParse_yes (v : Value) (b : List UInt8) (w : World) (hG : Glo w) (hv : IsB w v b) (hL : b.length ≤ 4700) (ls : List (List UInt8)) (hls : eachL 1 2147483647 b = some ls) (hg : ls.all goodP = true) (hok : okP (ls.map rawP) = true) :
    Calls Tryz.prog 40 #[v] w (RetPPs (some (ls.map rawP)) b.length w) := by
  have HE := Lib.hid ((pp1_each v b w.heap.size (w.heap.size + 1) ((w.alloc (.cells #[.int .i64 0, .int .i64 0] 38)).alloc (.cells #[.slice none 0 0] 22)) ⟨w, ⟨hG, hv⟩, Nat.le_refl _, ((Below.refl _ _).alloc (Nat.le_refl _) _).alloc (by simp) _⟩ (Nat.le_succ _) (by omega) (blk_in (by simp))).mono fun e w' h => h.yes hls hg)
  have hz := szP_raw hL hls hg
  clear hls hg
  generalize ls.map rawP = ms at *
  have HP : Hid (∀ W A k, Glo W → IsPs W (.slice A ms.length k) ms → Calls Tryz.prog 38 #[.slice A ms.length k] W (RetB (.bool true) W)) := fun W A k g h => by have := polValid (.slice A ms.length k) ms W g h hz; rwa [hok] at this
  have HG := Lib.hid hG
  obtain ⟨A, k, rfl⟩ := isB_slice hv
  unfold RetP1y at HE
  simp only [errV] at HE
  clear hG hv hL hz hok
  go_enter Tryz.func40, Tryz.ntmps40
  go_wp2_with (first | ((go_at_call 58); (with_reducible refine (HE.out).mono ?_); rintro e w1 ⟨A1, k1, rfl, hk1, ho1, hf1⟩; have HB1 := Lib.hid ((((Below.refl _ w).alloc (Nat.le_refl _) _).alloc (by simp) _).trans (hf1.below (B' := w.heap.size) (by simp; omega) (Nat.le_succ _))); have K1 := (((Blk.new w 38 #[.int .i64 0, .int .i64 0]).alloc (.cells #[.slice none 0 0] 22)).farR hf1 (by simp; omega) (.inl (Nat.lt_succ_self _))); have lK1 := K1.lt; have qk1 := hk1.q; have lk1 := hk1.lt; have HK1 := Lib.hid K1; have Hk1 := Lib.hid hk1; have HO1 := Lib.hid ho1; clear hk1 ho1 hf1 K1) | ((go_at_call 38); (with_reducible refine (HP.out _ _ _ ((HG.out.below HB1.out).alloc _) ((isPs_of HO1.out.isL).alloc _)).mono ?_); rintro e w2 ⟨rfl, hbw2⟩; have HB2 := Lib.hid ((HB1.out.alloc HB1.out.size _).trans (hbw2.mono (by have := HB1.out.size; simp; omega))); have K2 := (HK1.out.alloc _).call hbw2; have qK2 := K2.q; have fK2 := K2.fz; have lK2 := K2.lt; have k2 := (Hk1.out.alloc _).call hbw2; have qk2 := k2.q; have lk2 := k2.lt; have HO2 := Lib.hid ((HO1.out.alloc _).below hbw2); clear hbw2 K2 k2))
  refine bodyPost_ret (v := .tuple #[.slice A1 ms.length k1, errV (0, 0)]) (by simp only [results, Tryz.results40]; go_simp) rfl ?_
  have s2 := HB2.out.size
  have b2 := HB2.out
  refine ⟨by ((repeat' (first | (with_reducible exact Below.refl _ _) | (with_reducible assumption) | (with_reducible refine Below.setCell ?_ ?_ _) | (with_reducible refine Below.alloc ?_ ?_ _) | (with_reducible refine Below.drew ?_) | (with_reducible refine below_drewN ?_ _) | (with_reducible refine Below.step (by with_reducible assumption) ?_ ?_))) <;> (first | omega | (simp; done) | (simp; omega))), A1, k1, rfl, ?_⟩
  exact OwL.more (base := w.heap.size + 1 + 1) ((HO2.out.setLow (by simp; omega) _).setLow (by simp; omega) _) (by omega)
/-- ParseMappings, for any bytes. -/
theorem polParse (v : Value) (b : List UInt8) (w : World) (hG : Glo w) (hv : IsB w v b) (hL : b.length ≤ 4700) : Calls Tryz.prog 40 #[v] w (RetPPs (parPs b) b.length w) := by
  cases hls : eachL 1 2147483647 b with
  | none =>
    have hp : parPs b = none := by unfold parPs; rw [hls]
    rw [hp]
    exact polParse_no v b w hG hv hL fun ls h => by rw [hls] at h; cases h
  | some ls =>
    cases hg : ls.all goodP with
    | false =>
      have hp : parPs b = none := by unfold parPs; rw [hls]; simp [hg]
      rw [hp]
      exact polParse_no v b w hG hv hL fun ls' h => by rw [hls] at h; injection h with h; subst h; exact hg
    | true =>
      cases hok : okP (ls.map rawP) with
      | false =>
        have hp : parPs b = none := by unfold parPs; rw [hls]; simp [hg, hok]
        rw [hp]
        exact polParse_bad v b w hG hv hL ls hls hg hok
      | true =>
        have hp : parPs b = some (ls.map rawP) := by unfold parPs; rw [hls]; simp [hg, hok]
        rw [hp]
        exact polParse_yes v b w hG hv hL ls hls hg hok
end Go.Proofs.YtjjkimjdmpeddaaGreatDoor
end

/- Walks over the reference's Read and Parse of policies. -/
section
set_option linter.unusedSimpArgs false
set_option linter.unusedVariables false
namespace Go.Proofs.YtjjkimjdmpeddaaGreatDoor
open Go.RowKit Go.Cr

def RrP (ks : List (List UInt8)) (w : World) (out ix : Value) (wr : World) : Prop := ∃ i : Nat, ix = .int .i64 (i : Int) ∧ i ≤ ks.length ∧ OwL (repS repA) (fun _ => True) wr w.heap.size 66 out ((ks.take i).map rdP) ∧ Below w.heap.size w wr
def RrQ (kk : List (List UInt8)) (s0 : ByteArray) (gp : Nat) (w : World) (ix : Value) (wr : World) : Prop := ∃ (k : Nat) (A : Option Addr) (c : Nat), ix = .int .i64 (k : Int) ∧ k ≤ kk.length ∧ Blk wr gp 66 #[.string s0, .slice A k c] ∧ OwL repA (fun _ => True) wr w.heap.size 70 (.slice A k c) ((kk.take k).map rdQ) ∧ Only gp w.heap.size w wr
def RetRPo (ps : List Pol) (w : World) (e : Ending) (w' : World) : Prop := ∃ A k, e = .returned (.slice A ps.length k) ∧ OwL (repS repA) (fun _ => True) w' w.heap.size 66 (.slice A ps.length k) ps ∧ Below w.heap.size w w'
theorem ndV_len {d : Nat} {nv : Value} {l : List UInt8} {w : World} (h : NdV (d + 1) w nv l) : (kidsT d l).length ≤ l.length ∧ ∀ i, ((kidsT d l).getD i []).length ≤ l.length := by
  have h1 := kidsT_cnt d l
  exact ⟨h1.1, fun i => by have := getD_len (kidsT d l) i; omega⟩
set_option maxRecDepth 100000 in
set_option maxHeartbeats 16000000 in
theorem rReadP (nv : Value) (l : List UInt8) (w : World) (hn : NdV 60 w nv l) (hL : l.length ≤ 4000) : Calls Tryz.prog 85 #[nv] w (RetRPo ((kidsT 59 l).map rdP) w) := by
  obtain ⟨c1, c2, c3, a4, a5, n4, k4, k5, rfl, ⟨xs, hrow⟩, hk⟩ := hn.row
  have hcl : (kidsT 59 l).length ≤ 4000 := by have := (ndV_len hn).1; omega
  have hfl : ∀ i, ((kidsT 59 l).getD i []).length ≤ 4000 := fun i => by have := (ndV_len hn).2 i; omega
  have hlen := hrow.len (P := Tryz.prog) ulNodes
  have HK := Lib.hid hk
  have HFL := Lib.hid hfl
  clear hk hfl hn hrow hL
  generalize kidsT 59 l = ks at *
  have hnI : (ks.length : Int) ≤ 4000 := by omega
  go_enter Tryz.func85, Tryz.ntmps85
  go_wp2_with fail
  have HB0 := Lib.hid (Blk.new w 91 #[.int .i64 c1, .int .i64 c2, .bool c3, .slice a4 n4 k4, .slice a5 ks.length k5])
  have HW0 := Lib.hid ((Below.refl w.heap.size w).alloc (Nat.le_refl _) (.cells #[.int .i64 c1, .int .i64 c2, .bool c3, .slice a4 n4 k4, .slice a5 ks.length k5] 91))
  have lW0 := HB0.out.lt
  generalize w.alloc (.cells #[.int .i64 c1, .int .i64 c2, .bool c3, .slice a4 n4 k4, .slice a5 ks.length k5] 91) = w0 at *
  obtain ⟨i0, hi0, hz0, hz1, hz2⟩ := info_parts infoPol
  obtain ⟨j0, hj0, hy0, hy1, hy2⟩ := info_parts infoQual
  go_loopw [3, 4] (fun out ix wr => RrP ks w0 out ix wr) (fun _ ix _ => ks.length + 1 - (intOf ix).toNat)
  case atStart => exact ⟨0, rfl, Nat.zero_le _, OwL.nil_ _ _ _ _, Below.refl _ _⟩
  case round =>
    obtain ⟨i, rfl, hi, how, hbel⟩ := hrel
    obtain ⟨wo, rfl⟩ : ∃ wo, wo = wr := ⟨_, rfl⟩
    have HOW := Lib.hid how
    have HBR := Lib.hid hbel
    have hszr := hbel.size
    have JB := HB0.out.below hbel lW0
    have qB := JB.q
    have lB := JB.lt
    clear how JB
    by_cases hlt : i < ks.length
    · obtain ⟨b, o, x1, x2, x3, y4, y5, m4, z4, m5, z5, hi2, hl2, d0, d1, d2, d3, d4, hkv⟩ := HK.out i hlt
      have hwr : Below w.heap.size w wo := HW0.out.trans (hbel.mono (Nat.le_of_lt lW0))
      have hlk : ks[i].length ≤ 4000 := by have := HFL.out i; rwa [show ks.getD i [] = ks[i] by simp [hlt]] at this
      obtain ⟨n0, hn0, hk0⟩ := rKid (hkv.below hwr) 0
      obtain ⟨n1, hn1, hk1⟩ := rKid (hkv.below hwr) 1
      have hl0 : ∀ j, ((kidsT 58 ks[i]).getD j []).length ≤ 4000 := fun j => by have := (ndV_len hkv).2 j; omega
      have HR0 := Lib.hid (rRdObj hn0 (hl0 0))
      have hl1 := hl0 1
      have htk : (ks.take (i + 1)).map rdP = (ks.take i).map rdP ++ [rdP ks[i]] := by rw [List.take_succ_eq_append_getElem hlt, List.map_append]; rfl
      have hrd : rdP ks[i] = (bStr (rdObj ((kidsT 58 ks[i]).getD 0 [])), (kidsT 57 ((kidsT 58 ks[i]).getD 1 [])).map rdQ) := rfl
      rw [hrd] at htk
      generalize bStr (rdObj ((kidsT 58 ks[i]).getD 0 [])) = s0 at *
      generalize (kidsT 58 ks[i]).getD 1 [] = l1 at *
      obtain ⟨u1, u2, u3, u4, u5, u6, u7, u9, hsh1, ⟨xs1, hrow1⟩, hkq⟩ := hn1.row
      have hcq : (kidsT 57 l1).length ≤ 4000 := by have := (ndV_len hn1).1; omega
      have hfq : ∀ j, ((kidsT 57 l1).getD j []).length ≤ 4000 := fun j => by have := (ndV_len hn1).2 j; omega
      have hlenq := hrow1.len (P := Tryz.prog) ulNodes
      generalize kidsT 57 l1 = kk at *
      have HKQ := Lib.hid hkq
      have HFQ := Lib.hid hfq
      obtain ⟨v1, v2, v3, v4, v5, v6, v7, v8, v9, hsh0⟩ := hn0.shape
      subst hsh0 hsh1
      have HK0 : Hid (∀ W, Below wo.heap.size wo W → Calls Tryz.prog 102 #[.agg #[.int .i64 x1, .int .i64 x2, .bool x3, .slice y4 m4 z4, .slice y5 m5 z5], .int .i64 0] W (RetB (.agg #[.int .i64 v1, .int .i64 v2, .bool v3, .slice v4 v6 v7, .slice v5 v8 v9]) W)) := hk0
      have HK1 : Hid (∀ W, Below wo.heap.size wo W → Calls Tryz.prog 102 #[.agg #[.int .i64 x1, .int .i64 x2, .bool x3, .slice y4 m4 z4, .slice y5 m5 z5], .int .i64 1] W (RetB (.agg #[.int .i64 u1, .int .i64 u2, .bool u3, .slice u4 u6 u7, .slice u5 kk.length u9]) W)) := hk1
      have HTK := Lib.hid htk
      have hltI : (i : Int) < ks.length := by omega
      have hkkI : (kk.length : Int) ≤ 4000 := by omega
      have hll : ((ks.take i).map rdP).length ≤ 4000 := by rw [List.length_map, List.length_take]; omega
      have HLL := Lib.hid hll
      have HSS : Hid (∀ W, Below wo.heap.size wo W → W.cell? ⟨w.heap.size, 4, none⟩ = some (.slice a5 ks.length k5) ∧ W.cell? ⟨b, o, none⟩ = some (.int .i64 x1) ∧ W.cell? ⟨b, o + 1, none⟩ = some (.int .i64 x2) ∧ W.cell? ⟨b, o + 2, none⟩ = some (.bool x3) ∧ W.cell? ⟨b, o + 3, none⟩ = some (.slice y4 m4 z4) ∧ W.cell? ⟨b, o + 4, none⟩ = some (.slice y5 m5 z5) ∧ b < W.heap.size ∧ w.heap.size < W.heap.size) := fun W hW => by
        have hb : Below w.heap.size w W := hwr.trans (hW.mono hwr.size)
        exact ⟨((HB0.out.below (hbel.trans (hW.mono hszr)) lW0).q 4).trans rfl, (hb.cell (p := ⟨b, o, none⟩) hl2).trans d0, (hb.cell (p := ⟨b, o + 1, none⟩) hl2).trans d1, (hb.cell (p := ⟨b, o + 2, none⟩) hl2).trans d2, (hb.cell (p := ⟨b, o + 3, none⟩) hl2).trans d3, (hb.cell (p := ⟨b, o + 4, none⟩) hl2).trans d4, Nat.lt_of_lt_of_le hl2 hb.size, Nat.lt_of_lt_of_le lB hW.size⟩
      obtain ⟨g0, g1, g2, g3, g4, g5, g6, g7⟩ := HSS.out wo (Below.refl _ _)
      have hcur := Lib.hid (Below.refl wo.heap.size wo)
      clear hk0 hk1 hn0 hn1 hkv d0 d1 d2 d3 d4 hbel htk hrd hll hl0 hl1 hlk hwr hkq hfq hrow1
      generalize (ks.take i).map rdP = LL at *
      go_wp2_with (first
        | ((go_at_call 102); (with_reducible refine (HK0.out _ hcur.out).mono ?_); rintro e wz ⟨rfl, hbz⟩; have hcur := Lib.hid (hcur.out.trans (hbz.mono hcur.out.size)); obtain ⟨g0, g1, g2, g3, g4, g5, g6, g7⟩ := HSS.out _ hcur.out; clear hbz)
        | ((go_at_call 112); (with_reducible refine (HR0.out _ hcur.out).mono ?_); rintro e wz ⟨rfl, hbz⟩; have hcur := Lib.hid (hcur.out.trans (hbz.mono hcur.out.size)); obtain ⟨g0, g1, g2, g3, g4, g5, g6, g7⟩ := HSS.out _ hcur.out; clear hbz)
        | ((go_at_call 102); (with_reducible refine (HK1.out _ (hcur.out.alloc hcur.out.size _)).mono ?_); rintro e wy ⟨rfl, hbz⟩; have J := Lib.hid ((Blk.new wz 66 #[.string s0, .slice none 0 0]).call hbz); have hcur2 := Lib.hid ((hcur.out.alloc hcur.out.size _).trans (hbz.mono (by have := hcur.out.size; simp; omega))); clear hbz))
      have hgz : wo.heap.size ≤ wz.heap.size := hcur.out.size
      have hgy : wz.heap.size < wy.heap.size := J.out.lt
      obtain ⟨w2, hw2⟩ : ∃ w2, wy.alloc (.cells #[.int .i64 u1, .int .i64 u2, .bool u3, .slice u4 u6 u7, .slice u5 kk.length u9] 91) = w2 := ⟨_, rfl⟩
      have J2 : Hid (Blk w2 wz.heap.size 66 #[.string s0, .slice none 0 0]) := by rw [← hw2]; exact J.out.alloc _
      have L2 : Hid (Blk w2 wy.heap.size 91 #[.int .i64 u1, .int .i64 u2, .bool u3, .slice u4 u6 u7, .slice u5 kk.length u9]) := by rw [← hw2]; exact Blk.new _ _ _
      have HC2 : Hid (Below wo.heap.size wo w2) := by rw [← hw2]; exact hcur2.out.alloc hcur2.out.size _
      have hw2s : w2.heap.size = wy.heap.size + 1 := by rw [← hw2]; simp
      rw [hw2]
      clear hw2 hcur hcur2 J HK0 HK1 HR0 g0 g1 g2 g3 g4 g5 g6 g7 HSS
      go_loopw [7] (fun ix wq => RrQ kk s0 wz.heap.size w2 ix wq) (fun ix _ => kk.length + 1 - (intOf ix).toNat)
      case atStart => exact ⟨0, none, 0, rfl, Nat.zero_le _, J2.out, OwL.nil_ _ _ _ _, Only.refl _ _ _⟩
      case round =>
        obtain ⟨k, A8, c8, rfl, hkn, hj, howq, hon⟩ := hrel
        have HJ := Lib.hid hj
        have HO := Lib.hid howq
        have HON := Lib.hid hon
        have hsz := hon.size
        have qj := hj.q
        have lj := hj.lt
        have fj := hj.fz
        have hLL := L2.out.only hon (by omega)
        have qL := hLL.q
        have lL := hLL.lt
        have hwr' : Below wo.heap.size wo wr := HC2.out.trans (hon.below (B' := wo.heap.size) (by omega) hgz)
        have HWR := Lib.hid hwr'
        clear hLL
        by_cases hkl : k < kk.length
        · obtain ⟨b', o', p1, p2, p3, q4, q5, r4, s4, r5, s5, hia, hbl, e0, e1, e2, e3, e4, hkv⟩ := HKQ.out k hkl
          have hlk : kk[k].length ≤ 4000 := by have := HFQ.out k; rwa [show kk.getD k [] = kk[k] by simp [hkl]] at this
          obtain ⟨m0, hm0, hkc⟩ := rKid (hkv.below hwr') 0
          have hl0 : ((kidsT 56 kk[k]).getD 0 []).length ≤ 4000 := by have := (ndV_len hkv).2 0; omega
          have hl9 : ((kidsT 56 kk[k]).getD 1 []).length ≤ 4000 := by have := (ndV_len hkv).2 1; omega
          have HR := Lib.hid (rRdObj hm0 hl0)
          have HOC := Lib.hid (rOcts (hkv.below hwr') (by omega))
          have htq : (kk.take (k + 1)).map rdQ = (kk.take k).map rdQ ++ [rdQ kk[k]] := by rw [List.take_succ_eq_append_getElem hkl, List.map_append]; rfl
          have hrq : rdQ kk[k] = (bStr (rdObj ((kidsT 56 kk[k]).getD 0 [])), (kidsT 56 kk[k]).getD 1 []) := rfl
          rw [hrq] at htq
          generalize bStr (rdObj ((kidsT 56 kk[k]).getD 0 [])) = t0 at *
          generalize (kidsT 56 kk[k]).getD 1 [] = l9 at *
          obtain ⟨v1, v2, v3, v4, v5, v6, v7, v8, v9, hsh0⟩ := hm0.shape
          subst hsh0
          have HKC : Hid (∀ W, Below wr.heap.size wr W → Calls Tryz.prog 102 #[.agg #[.int .i64 p1, .int .i64 p2, .bool p3, .slice q4 r4 s4, .slice q5 r5 s5], .int .i64 0] W (RetB (.agg #[.int .i64 v1, .int .i64 v2, .bool v3, .slice v4 v6 v7, .slice v5 v8 v9]) W)) := hkc
          have HTQ := Lib.hid htq
          have hkI : (k : Int) < kk.length := by omega
          have hlq : ((kk.take k).map rdQ).length = k := by rw [List.length_map, List.length_take]; omega
          have HLQ := Lib.hid hlq
          have HT : Hid (∀ W, Only wz.heap.size w2.heap.size w2 W → W.cell? ⟨wy.heap.size, 4, none⟩ = some (.slice u5 kk.length u9) ∧ W.cell? ⟨b', o', none⟩ = some (.int .i64 p1) ∧ W.cell? ⟨b', o' + 1, none⟩ = some (.int .i64 p2) ∧ W.cell? ⟨b', o' + 2, none⟩ = some (.bool p3) ∧ W.cell? ⟨b', o' + 3, none⟩ = some (.slice q4 r4 s4) ∧ W.cell? ⟨b', o' + 4, none⟩ = some (.slice q5 r5 s5)) := fun W hW => by
            have hb : Below wo.heap.size wo W := HC2.out.trans (hW.below (B' := wo.heap.size) (by omega) hgz)
            exact ⟨((L2.out.only hW (by omega)).q 4).trans rfl, (hb.cell (p := ⟨b', o', none⟩) hbl).trans e0, (hb.cell (p := ⟨b', o' + 1, none⟩) hbl).trans e1, (hb.cell (p := ⟨b', o' + 2, none⟩) hbl).trans e2, (hb.cell (p := ⟨b', o' + 3, none⟩) hbl).trans e3, (hb.cell (p := ⟨b', o' + 4, none⟩) hbl).trans e4⟩
          obtain ⟨g0, g1, g2, g3, g4, g5⟩ := HT.out wr hon
          have hlb : b' < wr.heap.size := Nat.lt_of_lt_of_le hbl hwr'.size
          clear hkc hm0 hkv e0 e1 e2 e3 e4 htq hrq hlq hl0 hl9 hlk hwr' howq hon hj
          generalize (kk.take k).map rdQ = LQ at *
          go_wp2_with fail
          have hcur := Lib.hid ((Below.refl wr.heap.size wr).drew)
          have HS7 : Hid (∀ W', Below wr.heap.size wr W' → W'.cell? ⟨wz.heap.size, 1, none⟩ = some (.slice A8 k c8) ∧ W'.cell? ⟨wy.heap.size, 4, none⟩ = some (.slice u5 kk.length u9) ∧ W'.cell? ⟨b', o', none⟩ = some (.int .i64 p1) ∧ W'.cell? ⟨b', o' + 1, none⟩ = some (.int .i64 p2) ∧ W'.cell? ⟨b', o' + 2, none⟩ = some (.bool p3) ∧ W'.cell? ⟨b', o' + 3, none⟩ = some (.slice q4 r4 s4) ∧ W'.cell? ⟨b', o' + 4, none⟩ = some (.slice q5 r5 s5)) := fun W hW => ⟨((HJ.out.call hW).q 1).trans rfl, HT.out W (HON.out.thenB (hW.mono hsz))⟩
          refine wp_region_lastP (fun W' => W'.cell? ⟨wz.heap.size, 1, none⟩ = some (.slice A8 k c8) ∧ W'.cell? ⟨wy.heap.size, 4, none⟩ = some (.slice u5 kk.length u9) ∧ W'.cell? ⟨b', o', none⟩ = some (.int .i64 p1) ∧ W'.cell? ⟨b', o' + 1, none⟩ = some (.int .i64 p2) ∧ W'.cell? ⟨b', o' + 2, none⟩ = some (.bool p3) ∧ W'.cell? ⟨b', o' + 3, none⟩ = some (.slice q4 r4 s4) ∧ W'.cell? ⟨b', o' + 4, none⟩ = some (.slice q5 r5 s5)) rfl (by kernel_rfl) (by kernel_rfl) (HS7.out _ hcur.out) (fun hHeld => ?_)
          simp only [List.pop_toArray, List.dropLast_cons_cons, List.dropLast_singleton]
          (refine take_want (i := 0) (d := some 36) ?_ (by kernel_rfl) (by kernel_rfl) (by kernel_rfl) (fun _ _ _ h => h) (by assumption) ?_ (by kernel_rfl) ?_; rotate_left; (· (intro o ho; simp only [List.getElem?_toArray, List.getElem?_cons_succ, List.getElem?_cons_zero, Option.some.injEq] at ho; subst ho; refine ⟨rfl, by rfl, fun w hSw => ?_⟩; (try dsimp only at hSw); go_simp; (first | done | with_reducible rfl))); simp only [Act.put, List.setIfInBounds_toArray, List.set_cons_zero, List.set_cons_succ])
          (refine take_want (i := 1) (d := some 37) ?_ (by kernel_rfl) (by kernel_rfl) (by kernel_rfl) (fun _ _ _ h => h) (by assumption) ?_ (by kernel_rfl) ?_; rotate_left; (· (intro o ho; simp only [List.getElem?_toArray, List.getElem?_cons_succ, List.getElem?_cons_zero, Option.some.injEq] at ho; subst ho; refine ⟨rfl, by rfl, fun w hSw => ?_⟩; (try dsimp only at hSw); go_split_ands; go_simp; (first | done | with_reducible rfl))); simp only [Act.put, List.setIfInBounds_toArray, List.set_cons_zero, List.set_cons_succ])
          (refine take_want (i := 2) (d := some 38) ?_ (by kernel_rfl) (by kernel_rfl) (by kernel_rfl) (fun _ _ _ h => h) (by assumption) ?_ (by kernel_rfl) ?_; rotate_left; (· (intro o ho; simp only [List.getElem?_toArray, List.getElem?_cons_succ, List.getElem?_cons_zero, Option.some.injEq] at ho; subst ho; refine ⟨rfl, by rfl, fun w hSw => ?_⟩; (try dsimp only at hSw); go_simp; (first | done | with_reducible rfl))); simp only [Act.put, List.setIfInBounds_toArray, List.set_cons_zero, List.set_cons_succ])
          (refine take_want (i := 3) (d := some 39) ?_ (by kernel_rfl) (by kernel_rfl) (by kernel_rfl) (fun _ _ _ h => h) (by assumption) ?_ (by kernel_rfl) ?_; rotate_left; (· (intro o ho; simp only [List.getElem?_toArray, List.getElem?_cons_succ, List.getElem?_cons_zero, Option.some.injEq] at ho; subst ho; refine ⟨rfl, by rfl, fun w hSw => ?_⟩; (try dsimp only at hSw); go_split_ands; go_simp; (first | done | with_reducible rfl))); simp only [Act.put, List.setIfInBounds_toArray, List.set_cons_zero, List.set_cons_succ])
          (refine take_want (i := 4) (d := some 40) ?_ (by kernel_rfl) (by kernel_rfl) (by kernel_rfl) (fun _ _ _ h => h) (by assumption) ?_ (by kernel_rfl) ?_; rotate_left; (· (intro o ho; simp only [List.getElem?_toArray, List.getElem?_cons_succ, List.getElem?_cons_zero, Option.some.injEq] at ho; subst ho; refine ⟨rfl, by rfl, fun w hSw => ?_⟩; (try dsimp only at hSw); go_simp; (first | done | with_reducible rfl))); simp only [Act.put, List.setIfInBounds_toArray, List.set_cons_zero, List.set_cons_succ])
          (refine take_want (i := 5) (d := some 41) ?_ (by kernel_rfl) (by kernel_rfl) (by kernel_rfl) (fun _ _ _ h => h) (by assumption) ?_ (by kernel_rfl) ?_; rotate_left; (· (intro o ho; simp only [List.getElem?_toArray, List.getElem?_cons_succ, List.getElem?_cons_zero, Option.some.injEq] at ho; subst ho; refine ⟨rfl, by rfl, fun w hSw => ?_⟩; (try dsimp only at hSw); go_split_ands; go_simp; (first | done | with_reducible rfl))); simp only [Act.put, List.setIfInBounds_toArray, List.set_cons_zero, List.set_cons_succ])
          (refine take_want (i := 6) (d := some 42) ?_ (by kernel_rfl) (by kernel_rfl) (by kernel_rfl) (fun _ _ _ h => h) (by assumption) ?_ (by kernel_rfl) ?_; rotate_left; (· (intro o ho; simp only [List.getElem?_toArray, List.getElem?_cons_succ, List.getElem?_cons_zero, Option.some.injEq] at ho; subst ho; refine ⟨rfl, by rfl, fun w hSw => ?_⟩; (try dsimp only at hSw); go_split_ands; go_simp; (first | done | with_reducible rfl))); simp only [Act.put, List.setIfInBounds_toArray, List.set_cons_zero, List.set_cons_succ])
          (refine take_want (i := 9) (d := some 45) ?_ (by kernel_rfl) (by kernel_rfl) (by kernel_rfl) (fun _ _ _ h => h) (by assumption) ?_ (by kernel_rfl) ?_; rotate_left; (· (intro o ho; simp only [List.getElem?_toArray, List.getElem?_cons_succ, List.getElem?_cons_zero, Option.some.injEq] at ho; subst ho; refine ⟨rfl, by rfl, fun w hSw => ?_⟩; (try dsimp only at hSw); go_simp; (first | done | with_reducible rfl))); simp only [Act.put, List.setIfInBounds_toArray, List.set_cons_zero, List.set_cons_succ])
          (refine take_want (i := 10) (d := some 46) ?_ (by kernel_rfl) (by kernel_rfl) (by kernel_rfl) (fun _ _ _ h => h) (by assumption) ?_ (by kernel_rfl) ?_; rotate_left; (· (intro o ho; simp only [List.getElem?_toArray, List.getElem?_cons_succ, List.getElem?_cons_zero, Option.some.injEq] at ho; subst ho; refine ⟨rfl, by rfl, fun w hSw => ?_⟩; (try dsimp only at hSw); go_split_ands; go_simp; (first | done | with_reducible rfl))); simp only [Act.put, List.setIfInBounds_toArray, List.set_cons_zero, List.set_cons_succ])
          (refine take_want (i := 11) (d := some 47) ?_ (by kernel_rfl) (by kernel_rfl) (by kernel_rfl) (fun _ _ _ h => h) (by assumption) ?_ (by kernel_rfl) ?_; rotate_left; (· (intro o ho; simp only [List.getElem?_toArray, List.getElem?_cons_succ, List.getElem?_cons_zero, Option.some.injEq] at ho; subst ho; refine ⟨rfl, by rfl, fun w hSw => ?_⟩; (try dsimp only at hSw); go_simp; (first | done | with_reducible rfl))); simp only [Act.put, List.setIfInBounds_toArray, List.set_cons_zero, List.set_cons_succ])
          (refine take_want (i := 12) (d := some 48) ?_ (by kernel_rfl) (by kernel_rfl) (by kernel_rfl) (fun _ _ _ h => h) (by assumption) ?_ (by kernel_rfl) ?_; rotate_left; (· (intro o ho; simp only [List.getElem?_toArray, List.getElem?_cons_succ, List.getElem?_cons_zero, Option.some.injEq] at ho; subst ho; refine ⟨rfl, by rfl, fun w hSw => ?_⟩; (try dsimp only at hSw); go_split_ands; go_simp; (first | done | with_reducible rfl))); simp only [Act.put, List.setIfInBounds_toArray, List.set_cons_zero, List.set_cons_succ])
          (refine take_want (i := 13) (d := some 49) ?_ (by kernel_rfl) (by kernel_rfl) (by kernel_rfl) (fun _ _ _ h => h) (by assumption) ?_ (by kernel_rfl) ?_; rotate_left; (· (intro o ho; simp only [List.getElem?_toArray, List.getElem?_cons_succ, List.getElem?_cons_zero, Option.some.injEq] at ho; subst ho; refine ⟨rfl, by rfl, fun w hSw => ?_⟩; (try dsimp only at hSw); go_split_ands; go_simp; (first | done | with_reducible rfl))); simp only [Act.put, List.setIfInBounds_toArray, List.set_cons_zero, List.set_cons_succ])
          (refine take_run (i := 7) (by kernel_rfl) (by kernel_rfl) ?_; intro o ho K hK; simp only [List.getElem?_toArray, List.getElem?_cons_succ, List.getElem?_cons_zero, Option.some.injEq] at ho; subst ho)
          go_simp
          go_at_call 102
          (with_reducible refine (HKC.out _ hcur.out).mono ?_)
          rintro e wx ⟨rfl, hbz⟩
          have hcur := Lib.hid (hcur.out.trans (hbz.mono hcur.out.size))
          (refine hK.out _ _ (HS7.out _ hcur.out) (fun hHeld => ?_); clear hK K; (try simp only [Act.put, List.setIfInBounds_toArray, List.set_cons_zero, List.set_cons_succ]))
          (refine take_run (i := 8) (by kernel_rfl) (by kernel_rfl) ?_; intro o ho K hK; simp only [List.getElem?_toArray, List.getElem?_cons_succ, List.getElem?_cons_zero, Option.some.injEq] at ho; subst ho)
          go_simp
          go_at_call 112
          (with_reducible refine (HR.out _ hcur.out).mono ?_)
          rintro e wx ⟨rfl, hbz⟩
          have hcur := Lib.hid (hcur.out.trans (hbz.mono hcur.out.size))
          (refine hK.out _ _ (HS7.out _ hcur.out) (fun hHeld => ?_); clear hK K; (try simp only [Act.put, List.setIfInBounds_toArray, List.set_cons_zero, List.set_cons_succ]))
          (refine take_run (i := 14) (by kernel_rfl) (by kernel_rfl) ?_; intro o ho K hK; simp only [List.getElem?_toArray, List.getElem?_cons_succ, List.getElem?_cons_zero, Option.some.injEq] at ho; subst ho)
          go_simp
          go_at_call 118
          (with_reducible refine (HOC.out _ hcur.out).mono ?_)
          rintro e wx ⟨v8, rfl, ho8, hbz⟩
          obtain ⟨A9, c9, rfl⟩ := isB_slice ho8.isB
          have HV9 := Lib.hid ((IsRS.of_own ho8).weak (S' := fun b => wr.heap.size ≤ b) (fun b _ hS => Nat.le_trans hcur.out.size hS))
          have hcur := Lib.hid (hcur.out.trans (hbz.mono hcur.out.size))
          have JX := Lib.hid (HJ.out.call hcur.out)
          clear ho8
          (refine hK.out _ _ (HS7.out _ hcur.out) (fun hHeld => ?_); clear hK K; (try simp only [Act.put, List.setIfInBounds_toArray, List.set_cons_zero, List.set_cons_succ]))
          (refine take_want (i := 15) (d := some 51) ?_ (by kernel_rfl) (by kernel_rfl) (by kernel_rfl) (fun _ _ _ h => h) (by assumption) ?_ (by kernel_rfl) ?_; rotate_left; (· (intro o ho; simp only [List.getElem?_toArray, List.getElem?_cons_succ, List.getElem?_cons_zero, Option.some.injEq] at ho; subst ho; refine ⟨rfl, by rfl, fun w hSw => ?_⟩; (try dsimp only at hSw); go_simp; (first | done | with_reducible rfl))); simp only [Act.put, List.setIfInBounds_toArray, List.set_cons_zero, List.set_cons_succ])
          (refine take_run (i := 16) (by kernel_rfl) (by kernel_rfl) ?_; intro o ho K hK; simp only [List.getElem?_toArray, List.getElem?_cons_succ, List.getElem?_cons_zero, Option.some.injEq] at ho; subst ho)
          go_simp
          (refine hK.out _ _ (HS7.out _ (hcur.out.alloc hcur.out.size _)) (fun hHeld => ?_); clear hK K; (try simp only [Act.put, List.setIfInBounds_toArray, List.set_cons_zero, List.set_cons_succ]))
          obtain ⟨vd, wd, hrd, hod, hbd, hgd, _⟩ := run_appL (r := repA) (X := fun _ => True) (P := Tryz.prog) (wx.alloc (.cells #[.string t0, .slice A9 l9.length c9] 70)) w2.heap.size 64 64 70 ulQsP hj0 hy0 hy1 hy2 rfl (by decide) _ LQ (HO.out.below (hcur.out.alloc hcur.out.size _)) _ [.string t0, .slice A9 l9.length c9] (t0, l9) (isR_at rfl rfl) ⟨_, rfl, (HV9.out.weak (fun b _ hS => ⟨⟨by omega, HO.out.notNew hS⟩, trivial⟩)).alloc _⟩ (by have := HLQ.out; omega) (by have := hcur.out.size; simp; omega) trivial
          obtain ⟨A7, c7, hv7⟩ := hod.slice
          have hlq7 : (LQ ++ [(t0, l9)]).length = k + 1 := by rw [List.length_append, HLQ.out]; rfl
          rw [hlq7] at hv7
          subst hv7
          have JD := Lib.hid (Blk.grown (JX.out.alloc (.cells #[.string t0, .slice A9 l9.length c9] 70)) hgd (HO.out.notOld (by omega)))
          have qD := JD.out.q
          have fD := JD.out.fz
          have lD := JD.out.lt
          have HOD := Lib.hid hod
          have HND := Lib.hid ((HON.out.thenB ((hcur.out.alloc hcur.out.size (.cells #[.string t0, .slice A9 l9.length c9] 70)).mono hsz)).thenB hbd)
          clear hod hbd hgd
          (refine take_run (i := 17) (by kernel_rfl) (by kernel_rfl) ?_; intro o ho K hK; simp only [List.getElem?_toArray, List.getElem?_cons_succ, List.getElem?_cons_zero, Option.some.injEq] at ho; subst ho)
          rw [if_pos (by rfl)]
          refine wp_appR _ _ _ _ rfl _ _ _ _ rfl rfl hrd ?_
          (refine hK.out _ _ (⟨(qD 1).trans rfl, HT.out _ HND.out⟩) (fun hHeld => ?_); clear hK K; (try simp only [Act.put, List.setIfInBounds_toArray, List.set_cons_zero, List.set_cons_succ]))
          (refine take_want (i := 18) (d := some 54) ?_ (by kernel_rfl) (by kernel_rfl) (by kernel_rfl) (fun _ _ _ h => h) (by assumption) ?_ (by kernel_rfl) ?_; rotate_left; (· (intro o ho; simp only [List.getElem?_toArray, List.getElem?_cons_succ, List.getElem?_cons_zero, Option.some.injEq] at ho; subst ho; refine ⟨rfl, by rfl, fun w hSw => ?_⟩; (try dsimp only at hSw); go_simp; (first | done | with_reducible rfl))); simp only [Act.put, List.setIfInBounds_toArray, List.set_cons_zero, List.set_cons_succ])
          refine wpAnyH_done (by kernel_rfl) ?_ _
          refine lastQ_of ?_
          refine wpOp_skip (w' := wd.setCell ⟨wz.heap.size, 1, none⟩ (.slice A7 (k + 1) c7)) rfl rfl ?he ?_
          case he => go_simp
          go_wp2_with fail
          go_roundw
          case rel => exact ⟨k + 1, A7, c7, by go_num, by omega, JD.out.set_ 1 _, by rw [HTQ.out]; exact HOD.out.setLow (p := ⟨wz.heap.size, 1, none⟩) (show wz.heap.size < w2.heap.size by omega) _, HND.out.set rfl _⟩
          case measure => simp [intOf]; omega
        · have hke : k = kk.length := by omega
          have howk := HO.out
          rw [hke, List.take_length, ← hke] at howk
          have HOK := Lib.hid howk
          have hge : (kk.length : Int) ≤ k := by omega
          have hll2 := HLL.out
          clear howk hke hkl hkn hon hj howq hwr'
          go_wp2_with (at_builtin; refine wpList_appL (r := repS repA) (X := fun _ => True) _ rfl _ _ 22 rfl w0.heap.size 66 ulPsP hi0 hz0 hz1 hz2 rfl (by decide) _ LL rfl ((HOW.out.below HWR.out).alloc _) _ [.string s0, .slice A8 k c8] (s0, kk.map rdQ) rfl (isR_at rfl rfl) ⟨_, rfl, ?e1⟩ ?n1 ?b1 trivial ?_)
          case e1 => exact (HOK.out.isL.weak fun b _ hS => by
            have h1 : w0.heap.size ≤ b ∧ wo.heap.size ≤ b := by have := hS.1; omega
            have h2 := HOW.out.notNew h1.2
            first | exact ⟨⟨h1.1, h2⟩, trivial⟩ | exact ⟨h1.1, h2⟩).alloc _
          case n1 => omega
          case b1 => simp; omega
          intro v6 w6 ho6 hb6 _
          have HO6 := Lib.hid ho6
          have HB6 := Lib.hid ((HBR.out.trans ((HWR.out.alloc HWR.out.size (.cells #[.string s0, .slice A8 k c8] 66)).mono hszr)).trans hb6)
          clear ho6 hb6
          go_wp2
          go_roundw
          case rel => exact ⟨i + 1, by go_num, by omega, by rw [HTK.out]; exact HO6.out, HB6.out⟩
          case measure => simp [intOf]; omega
    · have hie : i = ks.length := by omega
      have how := HOW.out
      rw [hie, List.take_length] at how
      have HO := Lib.hid how
      have hge : (ks.length : Int) ≤ i := by omega
      obtain ⟨Ao, ko, hoe⟩ := how.slice
      rw [List.length_map] at hoe
      subst hoe
      clear how hie hlt hi hbel
      go_wp2_with fail
      go_ret
      have s0 := HW0.out.size
      refine ⟨Ao, ko, (by rw [List.length_map]; first | rfl | simp), ?_, HW0.out.trans (HBR.out.mono s0)⟩
      rw [List.length_map]
      exact HO.out.more s0
end Go.Proofs.YtjjkimjdmpeddaaGreatDoor
end

/- Walk over the reference's Parse of policies. -/
section
set_option linter.unusedSimpArgs false
set_option linter.unusedVariables false
namespace Go.Proofs.YtjjkimjdmpeddaaGreatDoor
open Go.RowKit Go.Cr

theorem quaL_le (q : Qual) : (quaL q).length ≤ q.1.size + q.2.length + 20 := by
  have h1 := seqB_le [objB q.1.data.toList, q.2]
  have h2 := objB_le q.1.data.toList
  have e1 : q.1.data.toList.length = q.1.size := rfl
  have e : quaL q = seqB [objB q.1.data.toList, q.2] := rfl
  rw [e]
  simp only [List.flatten_cons, List.flatten_nil, List.append_nil, List.length_append] at h1
  omega
theorem polL_le (p : Pol) : (polL p).length ≤ p.1.size + (p.2.map quaL).flatten.length + 30 := by
  have h2 := objB_le p.1.data.toList
  have e1 : p.1.data.toList.length = p.1.size := rfl
  by_cases hq : p.2 = []
  · have h1 := seqB_le [objB p.1.data.toList]
    have e : polL p = seqB [objB p.1.data.toList] := by unfold polL; rw [if_pos hq]; rfl
    rw [e]
    simp only [List.flatten_cons, List.flatten_nil, List.append_nil] at h1
    omega
  · have h1 := seqB_le [objB p.1.data.toList, seqL (p.2.map quaL)]
    have h3 := seqB_le (p.2.map quaL)
    rw [← seqL_eq] at h3
    have e : polL p = seqB [objB p.1.data.toList, seqL (p.2.map quaL)] := by unfold polL; rw [if_neg hq]; rfl
    rw [e]
    simp only [List.flatten_cons, List.flatten_nil, List.append_nil, List.length_append] at h1
    omega
theorem two_getD (ks : List (List UInt8)) : (ks.getD 0 []).length + (ks.getD 1 []).length ≤ ks.flatten.length := by
  match ks with
  | [] => simp
  | [a] => simp
  | a :: b :: t => simp
theorem rdQ_le (z : List UInt8) : (quaL (rdQ z)).length ≤ 21 * z.length + 41 := by
  have h1 := quaL_le (rdQ z)
  have h3 := rdObj_len ((kidsT 56 z).getD 0 [])
  have h7 := kidsT_cnt 56 z
  have h8 := two_getD (kidsT 56 z)
  have e1 : (rdQ z).1.size = (rdObj ((kidsT 56 z).getD 0 [])).length := bStr_size _
  have e2 : (rdQ z).2 = (kidsT 56 z).getD 1 [] := rfl
  rw [e2] at h1
  omega
theorem rdP_le (x : List UInt8) : (polL (rdP x)).length ≤ 62 * x.length + 60 := by
  have h1 := polL_le (rdP x)
  have h3 := rdObj_len ((kidsT 58 x).getD 0 [])
  have h7 := kidsT_cnt 58 x
  have h8 := two_getD (kidsT 58 x)
  have e1 : (rdP x).1.size = (rdObj ((kidsT 58 x).getD 0 [])).length := bStr_size _
  have e2 : (rdP x).2.map quaL = (kidsT 57 ((kidsT 58 x).getD 1 [])).map (quaL ∘ rdQ) := by
    show ((kidsT 57 ((kidsT 58 x).getD 1 [])).map rdQ).map quaL = _
    rw [List.map_map]
  have h4 := flat_le (quaL ∘ rdQ) 21 41 (kidsT 57 ((kidsT 58 x).getD 1 [])) fun z _ => rdQ_le z
  have h5 := kidsT_cnt 57 ((kidsT 58 x).getD 1 [])
  rw [e2] at h1
  omega
theorem rdP_flat (b : List UInt8) (hL : b.length ≤ 4000) : ((rdPs b).map polL).flatten.length ≤ 900000 := by
  have hk := kidsA_cnt b
  have h := flat_le (polL ∘ rdP) 62 60 (kidsA b) fun x _ => rdP_le x
  unfold rdPs
  rw [List.map_map]
  omega
theorem szP_rd (b : List UInt8) (hL : b.length ≤ 4000) : SzP (rdPs b) := by
  have hk := kidsA_cnt b
  refine ⟨by unfold rdPs; rw [List.length_map]; omega, fun p hp => ?_⟩
  obtain ⟨x, hx, rfl⟩ := List.mem_map.1 hp
  have h1 := mem_flat_len hx
  have h3 := rdObj_len ((kidsT 58 x).getD 0 [])
  have h7 := kidsT_cnt 58 x
  have h8 := two_getD (kidsT 58 x)
  have h9 := kidsT_cnt 57 ((kidsT 58 x).getD 1 [])
  have e1 : (rdP x).1.size = (rdObj ((kidsT 58 x).getD 0 [])).length := bStr_size _
  have e2 : (rdP x).2 = (kidsT 57 ((kidsT 58 x).getD 1 [])).map rdQ := rfl
  refine ⟨by omega, by rw [e2, List.length_map]; omega, fun q hq => ?_⟩
  rw [e2] at hq
  obtain ⟨z, hz, rfl⟩ := List.mem_map.1 hq
  have i1 := mem_flat_len hz
  have i3 := rdObj_len ((kidsT 56 z).getD 0 [])
  have i7 := kidsT_cnt 56 z
  have i8 := two_getD (kidsT 56 z)
  have f1 : (rdQ z).1.size = (rdObj ((kidsT 56 z).getD 0 [])).length := bStr_size _
  have f2 : (rdQ z).2 = (kidsT 56 z).getD 1 [] := rfl
  unfold SzQ
  rw [f1, f2]
  omega
/-- What the reference's Parse leaves. -/
def RetRPp (r : Option (List Pol)) (w : World) (e : Ending) (w' : World) : Prop := Below w.heap.size w w' ∧ match r with
  | none => e = .returned (.tuple #[.slice none 0 0, .bool false])
  | some ms => ∃ A k, e = .returned (.tuple #[.slice A ms.length k, .bool true]) ∧ IsPs w' (.slice A ms.length k) ms
/-- Deep, then what is read of it. -/
def RetDP (ms : List Pol) (w : World) (e : Ending) (w' : World) : Prop := Below w.heap.size w w' ∧ ∃ (c1 c2 : Int) (c3 : Bool) (a4 a5 : Option Addr) (n4 k4 n5 k5 : Nat) (t : Bool),
  e = .returned (.tuple #[.agg #[.int .i64 c1, .int .i64 c2, .bool c3, .slice a4 n4 k4, .slice a5 n5 k5], .bool t]) ∧
    ∀ W, Below w'.heap.size w' W → Calls Tryz.prog 85 #[.agg #[.int .i64 c1, .int .i64 c2, .bool c3, .slice a4 n4 k4, .slice a5 n5 k5]] W (RetRPo ms W)
theorem rDeepP (v : Value) (b : List UInt8) (w : World) (hv : IsB w v b) (hL : b.length ≤ 4000) : Calls Tryz.prog 64 #[v] w (RetDP (rdPs b) w) := by
  refine (rDeepV v b w hv (by omega)).mono fun e w' ⟨nv, t, he, hn, hb⟩ => ?_
  obtain ⟨c1, c2, c3, a4, a5, n4, k4, n5, k5, hs⟩ := hn.shape
  subst hs
  refine ⟨hb, c1, c2, c3, a4, a5, n4, k4, n5, k5, t, he, fun W hW => ?_⟩
  have := rReadP _ _ W (hn.below hW) (by split; exact hL; simp)
  rw [kidsA_eq] at this
  exact this
set_option maxRecDepth 100000 in
set_option maxHeartbeats 8000000 in
theorem rParP (v : Value) (b : List UInt8) (w : World) (hv : IsB w v b) (hL : b.length ≤ 4000) : Calls Tryz.prog 42 #[v] w (RetRPp (rparPs b) w) := by
  have HD := Lib.hid (fun W (h : IsB W v b) => rDeepP v b W h hL)
  have HV := Lib.hid hv
  have hz := szP_rd b hL
  have hp : rparPs b = if marP (rdPs b) = some b then some (rdPs b) else none := rfl
  rw [hp]
  have HBy := Lib.hid (fun W u x (h : IsB W u x) (h2 : IsB W v b) => bytes_any u v x b W h h2)
  have hfl := rdP_flat b hL
  generalize rdPs b = ms at *
  cases ho : okP ms with
  | false =>
    have hm : marP ms = none := by unfold marP; simp [ho]
    rw [hm, if_neg (by simp)]
    have HM : Hid (∀ W u, IsPs W u ms → Calls Tryz.prog 37 #[u] W (RetB (.tuple #[.slice none 0 0, .int .i64 8]) W)) := fun W u h => rMarP_no u ms W h hz ho
    obtain ⟨A, k, rfl⟩ := isB_slice hv
    clear hv hL hz hp hm ho hfl HBy
    go_enter Tryz.func42, Tryz.ntmps42
    go_wp2_with (first | ((go_at_call 64); (with_reducible refine (HD.out _ HV.out).mono ?_); rintro e w1 ⟨hbw1, c1, c2, c3, a4, a5, n4, k4, n5, k5, t, rfl, hrd⟩; have HRD := Lib.hid hrd; have HB1 := Lib.hid hbw1; clear hrd hbw1) | ((go_at_call 85); (with_reducible refine (HRD.out _ ((Below.refl _ w1).alloc (Nat.le_refl _) _)).mono ?_); rintro e w2 ⟨A2, k2, rfl, ho2, hbw2⟩; have HB2 := Lib.hid ((HB1.out.alloc HB1.out.size _).trans (hbw2.mono (by have := HB1.out.size; simp; omega))); have HO2 := Lib.hid (isPs_of ho2.isL); clear ho2 hbw2) | ((go_at_call 37); (with_reducible refine (HM.out _ _ HO2.out).mono ?_); rintro e w3 ⟨rfl, hbw3⟩; have HB3 := Lib.hid (HB2.out.trans (hbw3.mono HB2.out.size)); clear hbw3))
    go_ret2
    exact ⟨HB3.out, rfl⟩
  | true =>
    have hm : marP ms = some (seqL (ms.map polL)) := by unfold marP; simp [ho]
    rw [hm]
    have HM : Hid (∀ W u, IsPs W u ms → Calls Tryz.prog 37 #[u] W (RetOidY (seqL (ms.map polL)) W)) := fun W u h => rMarP_yes u ms W h hz hfl ho
    generalize seqL (ms.map polL) = c at *
    by_cases hcb : c = b
    · rw [if_pos (by rw [hcb])]
      have HBt : Hid (∀ W u, IsB W u c → IsB W v b → Calls Tryz.prog 21 #[u, v] W (RetB (.bool true) W)) := fun W u h h2 => by
        have := HBy.out W u c h h2
        rwa [decide_eq_true hcb] at this
      obtain ⟨A, k, rfl⟩ := isB_slice hv
      clear hv hL hz hp hm ho hfl HBy hcb
      go_enter Tryz.func42, Tryz.ntmps42
      go_wp2_with (first | ((go_at_call 64); (with_reducible refine (HD.out _ HV.out).mono ?_); rintro e w1 ⟨hbw1, c1, c2, c3, a4, a5, n4, k4, n5, k5, t, rfl, hrd⟩; have HRD := Lib.hid hrd; have HB1 := Lib.hid hbw1; clear hrd hbw1) | ((go_at_call 85); (with_reducible refine (HRD.out _ ((Below.refl _ w1).alloc (Nat.le_refl _) _)).mono ?_); rintro e w2 ⟨A2, k2, rfl, ho2, hbw2⟩; have HB2 := Lib.hid ((HB1.out.alloc HB1.out.size _).trans (hbw2.mono (by have := HB1.out.size; simp; omega))); have HO2 := Lib.hid (isPs_of ho2.isL); clear ho2 hbw2) | ((go_at_call 37); (with_reducible refine (HM.out _ _ HO2.out).mono ?_); rintro e w3 ⟨v3, rfl, ho3, hbw3⟩; obtain ⟨A3, k3, rfl⟩ := isB_slice ho3.isB; have HB3 := Lib.hid (HB2.out.trans (hbw3.mono HB2.out.size)); have HV3 := Lib.hid ho3.isB; have HO3 := Lib.hid (HO2.out.below hbw3); clear hbw3 ho3) | ((go_at_call 21); (with_reducible refine (HBt.out _ _ HV3.out (HV.out.below HB3.out)).mono ?_); rintro e w4 ⟨rfl, hbw4⟩; have HB4 := Lib.hid (HB3.out.trans (hbw4.mono HB3.out.size)); have HO4 := Lib.hid (HO3.out.below hbw4); clear hbw4))
      go_ret2
      exact ⟨HB4.out, A2, k2, rfl, HO4.out⟩
    · rw [if_neg (fun h => hcb (Option.some.inj h))]
      have HBf : Hid (∀ W u, IsB W u c → IsB W v b → Calls Tryz.prog 21 #[u, v] W (RetB (.bool false) W)) := fun W u h h2 => by
        have := HBy.out W u c h h2
        rwa [decide_eq_false hcb] at this
      obtain ⟨A, k, rfl⟩ := isB_slice hv
      clear hv hL hz hp hm ho hfl HBy hcb
      go_enter Tryz.func42, Tryz.ntmps42
      go_wp2_with (first | ((go_at_call 64); (with_reducible refine (HD.out _ HV.out).mono ?_); rintro e w1 ⟨hbw1, c1, c2, c3, a4, a5, n4, k4, n5, k5, t, rfl, hrd⟩; have HRD := Lib.hid hrd; have HB1 := Lib.hid hbw1; clear hrd hbw1) | ((go_at_call 85); (with_reducible refine (HRD.out _ ((Below.refl _ w1).alloc (Nat.le_refl _) _)).mono ?_); rintro e w2 ⟨A2, k2, rfl, ho2, hbw2⟩; have HB2 := Lib.hid ((HB1.out.alloc HB1.out.size _).trans (hbw2.mono (by have := HB1.out.size; simp; omega))); have HO2 := Lib.hid (isPs_of ho2.isL); clear ho2 hbw2) | ((go_at_call 37); (with_reducible refine (HM.out _ _ HO2.out).mono ?_); rintro e w3 ⟨v3, rfl, ho3, hbw3⟩; obtain ⟨A3, k3, rfl⟩ := isB_slice ho3.isB; have HB3 := Lib.hid (HB2.out.trans (hbw3.mono HB2.out.size)); have HV3 := Lib.hid ho3.isB; have HO3 := Lib.hid (HO2.out.below hbw3); clear hbw3 ho3) | ((go_at_call 21); (with_reducible refine (HBf.out _ _ HV3.out (HV.out.below HB3.out)).mono ?_); rintro e w4 ⟨rfl, hbw4⟩; have HB4 := Lib.hid (HB3.out.trans (hbw4.mono HB3.out.size)); clear hbw4))
      go_ret2
      exact ⟨HB4.out, rfl⟩
end Go.Proofs.YtjjkimjdmpeddaaGreatDoor
end
