/- A part of a proof: what functions of the program compute. -/
import Derived.Test.YtmbfcjffjgecjaaGreatDoorMod1E
import Derived.Test.YtmbfcjffjgecjaaGreatDoorLib2
set_option linter.unusedVariables false
set_option linter.unusedSimpArgs false
set_option maxHeartbeats 0
set_option maxRecDepth 20000
namespace Go.Proofs
attribute [local irreducible] Go.Sl.SO Go.Sl.SQ Go.Sl.SR Go.Sl.SC Go.Sl.SX Go.Sl.SY Go.Sl.eadr Go.Sl.slAt Go.Sl.sqAt Go.Sl.pts Go.Sl.rod Go.Sl.ob Go.Sl.ex Go.Sl.big Go.Sl.pr Go.Sl.tabs Go.Sl.mpAt Go.Sl.mitAt Go.Sl.mitN
open Go.Sl
def sameP (r s : Rc) : Bool := decide (r.site = s.site) && decide (r.seq = s.seq) && (coversB r.dep s.dep && coversB s.dep r.dep) && eqS r.key s.key && eqS r.val s.val
theorem psame_does (r s : Rc) (h g : Pl) : Does Tryz.prog 84 [RRec.val r h, RRec.val s g] [slAt RI h.1 r.dep.length r.dep, slAt RI g.1 s.dep.length s.dep] [] Unit (fun _ => True) (fun _ => .bool (sameP r s)) (fun _ => []) := by
  refine Does.of Tryz.call84 Tryz.func84 rfl rfl rfl (all_cons (pers_slAt _ _ _ _) (all_cons (pers_slAt _ _ _ _) all_nil)) rfl ?_
  repeat' (first
 | refine SO.call (vsame_does _ _ _ _ _ _ _ _) rfl rfl rfl (by repeat constructor) (by repeat constructor) rfl (fun x hx => ?_)
 | refine SO.pure rfl rfl rfl ?_
 | refine SO.nil ?_
 | refine SO.guardY rfl rfl ?_
 | refine SO.guardN rfl rfl rfl ?_
 | refine SO.load rfl (by repeat constructor) rfl (by rfl) (by exact ⟨rfl, by first | exact fun _ => rfl | exact (fun h => by cases h)⟩) rfl ?_
 | refine SK.seq ?_
 | refine SK.region ?_
 | refine SO.box rfl rfl rfl (fun b => ?_)
 | refine SO.guard rfl rfl rfl (fun h => ?_) (fun h => ?_)
 | fail)
  all_goals refine SK.retX (.tmp rfl .nil) () trivial (congrArg Value.bool ?_) (by repeat constructor)
  all_goals simp_all [sameP]
theorem pairT : PairT Tryz.prog .i64 131 := pair_of (tb := inferInstance) rfl rfl rfl (by kernel_rfl)
def KPP : KR (Int × Int) := KP Tryz.prog .i64 131 pairT
def mapF (l : List (Int × Rc)) : List ((Int × Int) × Rc) := l.foldl (fun m x => mput m (x.2.site, x.2.seq) x.2) []
def okF (m : List ((Int × Int) × Rc)) (x : Int × Rc) : Bool := match mget m (x.2.site, x.2.seq) with
  | none => true
  | some y => sameP y x.2
def agreeF (a b : List (Int × Rc)) : Bool := b.all (okF (mapF a))
theorem map_snoc {l : List (Int × Rc)} {i : Nat} {x : Int × Rc} (h : l[i]? = some x) : mapF (l.take (i + 1)) = mput (mapF (l.take i)) (x.2.site, x.2.seq) x.2 := by
  unfold mapF
  rw [List.take_add_one, h, List.foldl_append]
  rfl
theorem all_snoc {f : Int × Rc → Bool} {l : List (Int × Rc)} {i : Nat} {x : Int × Rc} (h : l[i]? = some x) : (l.take (i + 1)).all f = ((l.take i).all f && f x) := by
  rw [List.take_add_one, h, List.all_append]
  simp
theorem magree_does (la lb : Nat) (g h : Lg) (hg : LgOk g) (tg : g.trim ≤ g.head) (hh : LgOk h) (th : h.trim ≤ h.head) : Does Tryz.prog 22 [.pointer (some ⟨la, 0, none⟩), .pointer (some ⟨lb, 0, none⟩)] [] (lgAt la g ++ lgAt lb h) Unit (fun _ => True) (fun _ => .bool (agreeF g.rows h.rows)) (fun _ => lgAt la g ++ lgAt lb h) := by
  refine Does.of Tryz.call22 Tryz.func22 rfl rfl rfl all_nil rfl ?_
  have al := lall_does la 0
  have bl := lall_does lb 0
  repeat' (first
 | refine SO.makeMap (kr := KPP) (ρ := RRec) rfl (fun mb => ?_)
 | refine SO.call (al) rfl rfl rfl (by repeat constructor) (by repeat constructor) rfl (fun x hx => ?_)
 | refine SO.pure rfl rfl rfl ?_
 | refine SO.nil ?_
 | refine SK.seq ?_
 | refine SK.region ?_
 | refine SK.block ?_
 | refine SO.alloc rfl rfl rfl (fun b => ?_)
 | refine SO.storeW rfl rfl (by repeat constructor) rfl (by rfl) (by rfl) (by rfl) ?_
 | refine SK.scope (fun _ _ _ h => h) ?_
 | fail)
  rename Nat × Nat => z1
  rename_i b0
  revert b
  intro b5
  refine SK.range (lalliter z1.1 z1.2 la g 0 hg (Nat.zero_le _) tg) Empty (fun i => [pts b5 0 [.map (some mb)], mpAt KPP RRec mb (mapF (g.rows.take i))]) (fun _ => []) (fun y => y.elim) rfl .nil (by repeat constructor) rfl (fun _ _ => rfl) ?_ ?_ (fun y => y.elim)
  · rintro i ⟨p, r⟩ hid q R hri
    have e1 := map_snoc hri
    dsimp only at e1
    repeat' (first
 | refine SO.nil ?_
 | refine SK.region ?_
 | refine SO.alloc rfl rfl rfl (fun b => ?_)
 | refine SO.storeW rfl rfl (by repeat constructor) rfl (by rfl) (by rfl) (by rfl) ?_
 | fail)
    refine SK.inv ?_
    repeat' (first
 | refine SO.mapUpdate (kr := KPP) (ρ := RRec) (u := r) (h := hid) (key := (r.site, r.seq)) rfl (by repeat constructor) rfl rfl (by repeat constructor) rfl rfl ⟨rfl, rfl⟩ ?_
 | refine SO.pure rfl rfl rfl ?_
 | refine SO.nil ?_
 | refine SO.loadW rfl (by repeat constructor) rfl rfl rfl (by rfl) rfl ?_
 | refine SO.load rfl (by repeat constructor) rfl (by rfl) (by exact ⟨rfl, by first | exact fun _ => rfl | exact (fun h => by cases h)⟩) rfl ?_
 | refine SO.build rfl rfl rfl rfl ?_
 | refine SK.region ?_
 | refine SK.block ?_
 | refine SK.blk ?_
 | fail)
    rw [e1]
    refine SK.nil ?_
    exact ent_append_of_takes (by repeat constructor)
  rw [List.take_length]
  repeat' (first
 | refine SO.call (bl) rfl rfl rfl (by repeat constructor) (by repeat constructor) rfl (fun x hx => ?_)
 | refine SO.pure rfl rfl rfl ?_
 | refine SO.nil ?_
 | refine SK.seq ?_
 | refine SK.region ?_
 | refine SK.block ?_
 | refine SK.blk ?_
 | refine SK.label ?_
 | fail)
  rename Nat × Nat => z2
  refine SK.shift (fun F w hst => hst.ent (Ent.cons (ent_pr (p := (h.rows.take 0).all (okF (mapF g.rows)) = true) rfl))) ?_
  refine SK.range (lalliter z2.1 z2.2 lb h 0 hh (Nat.zero_le _) th) {u : Unit // agreeF g.rows h.rows = false} (fun i => [pts b0 0 [.bool false], pts b5 0 [.map (some mb)], mpAt KPP RRec mb (mapF g.rows), pr ((h.rows.take i).all (okF (mapF g.rows)) = true)]) (fun _ => [pts b0 0 [.bool false]]) (fun _ => .ret) rfl .nil (by repeat constructor) rfl (fun _ _ => rfl) ?_ ?_ ?_
  · rintro i ⟨p, r⟩ hid q R hri
    have e1 := all_snoc (f := okF (mapF g.rows)) hri
    refine SK.openPr (.there (.there (.there (.there (.there .here))))) (fun h0 => ?_)
    dsimp only
    repeat' (first
 | refine SO.nil ?_
 | refine SK.region ?_
 | refine SO.alloc rfl rfl rfl (fun b => ?_)
 | refine SO.storeW rfl rfl (by repeat constructor) rfl (by rfl) (by rfl) (by rfl) ?_
 | fail)
    refine SK.inv ?_
    repeat' (first
 | refine SO.pure rfl rfl rfl ?_
 | refine SO.load rfl (by repeat constructor) rfl (by rfl) (by exact ⟨rfl, by first | exact fun _ => rfl | exact (fun h => by cases h)⟩) rfl ?_
 | refine SO.build rfl rfl rfl rfl ?_
 | refine SK.seq ?_
 | refine SK.region ?_
 | refine SK.block ?_
 | fail)
    refine SO.lookup (kr := KPP) (ρ := RRec) (key := (r.site, r.seq)) rfl (by repeat constructor) (by rfl) rfl rfl ⟨rfl, rfl⟩ rfl rfl (fun u hu2 hu => ?_) (fun hu => ?_)
    · have ps := psame_does u r hu2 hid
      have eo : okF (mapF g.rows) (p, r) = sameP u r := by unfold okF; rw [hu]
      cases hs : sameP u r with
      | true =>
        rw [hs] at ps
        rw [h0, eo, hs] at e1
        repeat' (first
 | refine SO.call (ps) rfl rfl rfl (by repeat constructor) (by repeat constructor) rfl (fun x hx => ?_)
 | refine SO.pure rfl rfl rfl ?_
 | refine SO.nil ?_
 | refine SO.loadW rfl (by repeat constructor) rfl rfl rfl (by rfl) rfl ?_
 | refine SK.seq ?_
 | refine SK.region ?_
 | refine SK.condF rfl ?_
 | refine SK.skip ?_
 | refine SK.blk ?_
 | refine SO.alloc rfl rfl rfl (fun b => ?_)
 | refine SO.storeW rfl rfl (by repeat constructor) rfl (by rfl) (by rfl) (by rfl) ?_
 | fail)
        exact SK.nil ((ent_prs (p := (h.rows.take (i + 1)).all (okF (mapF g.rows)) = true) e1 (Ent.refl _)).trans (ent_append_of_takes (by repeat constructor)))
      | false =>
        rw [hs] at ps
        have hf : agreeF g.rows h.rows = false := by
          unfold agreeF
          rw [List.all_eq_false]
          exact ⟨(p, r), List.mem_of_getElem? hri, by rw [eo, hs]; decide⟩
        repeat' (first
 | refine SO.call (ps) rfl rfl rfl (by repeat constructor) (by repeat constructor) rfl (fun x hx => ?_)
 | refine SO.pure rfl rfl rfl ?_
 | refine SO.nil ?_
 | refine SO.loadW rfl (by repeat constructor) rfl rfl rfl (by rfl) rfl ?_
 | refine SK.seq ?_
 | refine SK.region ?_
 | refine SK.condT rfl ?_
 | refine SK.condF rfl ?_
 | refine SK.skip ?_
 | refine SO.alloc rfl rfl rfl (fun b => ?_)
 | refine SO.storeW rfl rfl (by repeat constructor) rfl (by rfl) (by rfl) (by rfl) ?_
 | fail)
        exact SK.ret ⟨⟨(), hf⟩, rfl, ent_append_of_takes (by repeat constructor)⟩
    · have eo : okF (mapF g.rows) (p, r) = true := by unfold okF; rw [hu]
      rw [h0, eo] at e1
      repeat' (first
 | refine SO.pure rfl rfl rfl ?_
 | refine SO.nil ?_
 | refine SK.seq ?_
 | refine SK.region ?_
 | refine SK.condT rfl ?_
 | refine SK.exit rfl ?_
 | refine SO.alloc rfl rfl rfl (fun b => ?_)
 | refine SO.storeW rfl rfl (by repeat constructor) rfl (by rfl) (by rfl) (by rfl) ?_
 | fail)
      exact SK.nil ((ent_prs (p := (h.rows.take (i + 1)).all (okF (mapF g.rows)) = true) e1 (Ent.refl _)).trans (ent_append_of_takes (by repeat constructor)))
  · refine SK.blk ?_
    refine SK.openPr (.there (.there (.there .here))) (fun h0 => ?_)
    rw [List.take_length] at h0
    repeat' (first
 | refine SO.nil ?_
 | refine SK.seq ?_
 | refine SK.region ?_
 | refine SO.storeW rfl rfl (by repeat constructor) rfl (by rfl) (by rfl) (by rfl) ?_
 | fail)
    refine SK.retX (.cell rfl (by repeat constructor) rfl rfl (by exact ⟨rfl, fun _ => rfl⟩) .nil) () trivial ?_ (by repeat constructor)
    show Value.bool true = Value.bool (agreeF g.rows h.rows)
    unfold agreeF
    rw [h0]
  · rintro ⟨_, hf⟩ i _
    refine SK.retX (.cell rfl (by repeat constructor) rfl rfl (by exact ⟨rfl, fun _ => rfl⟩) .nil) () trivial ?_ (by repeat constructor)
    rw [hf]; rfl
theorem magree1_does (la : Nat) (g : Lg) (hg : LgOk g) (tg : g.trim ≤ g.head) : Does Tryz.prog 22 [.pointer (some ⟨la, 0, none⟩), .pointer (some ⟨la, 0, none⟩)] [] (lgAt la g) Unit (fun _ => True) (fun _ => .bool (agreeF g.rows g.rows)) (fun _ => lgAt la g) := by
  refine Does.of Tryz.call22 Tryz.func22 rfl rfl rfl all_nil rfl ?_
  have al := lall_does la 0
  have bl := lall_does la 0
  repeat' (first
 | refine SO.makeMap (kr := KPP) (ρ := RRec) rfl (fun mb => ?_)
 | refine SO.call (al) rfl rfl rfl (by repeat constructor) (by repeat constructor) rfl (fun x hx => ?_)
 | refine SO.pure rfl rfl rfl ?_
 | refine SO.nil ?_
 | refine SK.seq ?_
 | refine SK.region ?_
 | refine SK.block ?_
 | refine SO.alloc rfl rfl rfl (fun b => ?_)
 | refine SO.storeW rfl rfl (by repeat constructor) rfl (by rfl) (by rfl) (by rfl) ?_
 | refine SK.scope (fun _ _ _ h => h) ?_
 | fail)
  rename Nat × Nat => z1
  rename_i b0
  revert b
  intro b5
  refine SK.range (lalliter z1.1 z1.2 la g 0 hg (Nat.zero_le _) tg) Empty (fun i => [pts b5 0 [.map (some mb)], mpAt KPP RRec mb (mapF (g.rows.take i))]) (fun _ => []) (fun y => y.elim) rfl .nil (by repeat constructor) rfl (fun _ _ => rfl) ?_ ?_ (fun y => y.elim)
  · rintro i ⟨p, r⟩ hid q R hri
    have e1 := map_snoc hri
    dsimp only at e1
    repeat' (first
 | refine SO.nil ?_
 | refine SK.region ?_
 | refine SO.alloc rfl rfl rfl (fun b => ?_)
 | refine SO.storeW rfl rfl (by repeat constructor) rfl (by rfl) (by rfl) (by rfl) ?_
 | fail)
    refine SK.inv ?_
    repeat' (first
 | refine SO.mapUpdate (kr := KPP) (ρ := RRec) (u := r) (h := hid) (key := (r.site, r.seq)) rfl (by repeat constructor) rfl rfl (by repeat constructor) rfl rfl ⟨rfl, rfl⟩ ?_
 | refine SO.pure rfl rfl rfl ?_
 | refine SO.nil ?_
 | refine SO.loadW rfl (by repeat constructor) rfl rfl rfl (by rfl) rfl ?_
 | refine SO.load rfl (by repeat constructor) rfl (by rfl) (by exact ⟨rfl, by first | exact fun _ => rfl | exact (fun h => by cases h)⟩) rfl ?_
 | refine SO.build rfl rfl rfl rfl ?_
 | refine SK.region ?_
 | refine SK.block ?_
 | refine SK.blk ?_
 | fail)
    rw [e1]
    refine SK.nil ?_
    exact ent_append_of_takes (by repeat constructor)
  rw [List.take_length]
  repeat' (first
 | refine SO.call (bl) rfl rfl rfl (by repeat constructor) (by repeat constructor) rfl (fun x hx => ?_)
 | refine SO.pure rfl rfl rfl ?_
 | refine SO.nil ?_
 | refine SK.seq ?_
 | refine SK.region ?_
 | refine SK.block ?_
 | refine SK.blk ?_
 | refine SK.label ?_
 | fail)
  rename Nat × Nat => z2
  refine SK.shift (fun F w hst => hst.ent (Ent.cons (ent_pr (p := (g.rows.take 0).all (okF (mapF g.rows)) = true) rfl))) ?_
  refine SK.range (lalliter z2.1 z2.2 la g 0 hg (Nat.zero_le _) tg) {u : Unit // agreeF g.rows g.rows = false} (fun i => [pts b0 0 [.bool false], pts b5 0 [.map (some mb)], mpAt KPP RRec mb (mapF g.rows), pr ((g.rows.take i).all (okF (mapF g.rows)) = true)]) (fun _ => [pts b0 0 [.bool false]]) (fun _ => .ret) rfl .nil (by repeat constructor) rfl (fun _ _ => rfl) ?_ ?_ ?_
  · rintro i ⟨p, r⟩ hid q R hri
    have e1 := all_snoc (f := okF (mapF g.rows)) hri
    refine SK.openPr (.there (.there (.there (.there (.there .here))))) (fun h0 => ?_)
    dsimp only
    repeat' (first
 | refine SO.nil ?_
 | refine SK.region ?_
 | refine SO.alloc rfl rfl rfl (fun b => ?_)
 | refine SO.storeW rfl rfl (by repeat constructor) rfl (by rfl) (by rfl) (by rfl) ?_
 | fail)
    refine SK.inv ?_
    repeat' (first
 | refine SO.pure rfl rfl rfl ?_
 | refine SO.load rfl (by repeat constructor) rfl (by rfl) (by exact ⟨rfl, by first | exact fun _ => rfl | exact (fun h => by cases h)⟩) rfl ?_
 | refine SO.build rfl rfl rfl rfl ?_
 | refine SK.seq ?_
 | refine SK.region ?_
 | refine SK.block ?_
 | fail)
    refine SO.lookup (kr := KPP) (ρ := RRec) (key := (r.site, r.seq)) rfl (by repeat constructor) (by rfl) rfl rfl ⟨rfl, rfl⟩ rfl rfl (fun u hu2 hu => ?_) (fun hu => ?_)
    · have ps := psame_does u r hu2 hid
      have eo : okF (mapF g.rows) (p, r) = sameP u r := by unfold okF; rw [hu]
      cases hs : sameP u r with
      | true =>
        rw [hs] at ps
        rw [h0, eo, hs] at e1
        repeat' (first
 | refine SO.call (ps) rfl rfl rfl (by repeat constructor) (by repeat constructor) rfl (fun x hx => ?_)
 | refine SO.pure rfl rfl rfl ?_
 | refine SO.nil ?_
 | refine SO.loadW rfl (by repeat constructor) rfl rfl rfl (by rfl) rfl ?_
 | refine SK.seq ?_
 | refine SK.region ?_
 | refine SK.condF rfl ?_
 | refine SK.skip ?_
 | refine SK.blk ?_
 | refine SO.alloc rfl rfl rfl (fun b => ?_)
 | refine SO.storeW rfl rfl (by repeat constructor) rfl (by rfl) (by rfl) (by rfl) ?_
 | fail)
        exact SK.nil ((ent_prs (p := (g.rows.take (i + 1)).all (okF (mapF g.rows)) = true) e1 (Ent.refl _)).trans (ent_append_of_takes (by repeat constructor)))
      | false =>
        rw [hs] at ps
        have hf : agreeF g.rows g.rows = false := by
          unfold agreeF
          rw [List.all_eq_false]
          exact ⟨(p, r), List.mem_of_getElem? hri, by rw [eo, hs]; decide⟩
        repeat' (first
 | refine SO.call (ps) rfl rfl rfl (by repeat constructor) (by repeat constructor) rfl (fun x hx => ?_)
 | refine SO.pure rfl rfl rfl ?_
 | refine SO.nil ?_
 | refine SO.loadW rfl (by repeat constructor) rfl rfl rfl (by rfl) rfl ?_
 | refine SK.seq ?_
 | refine SK.region ?_
 | refine SK.condT rfl ?_
 | refine SK.condF rfl ?_
 | refine SK.skip ?_
 | refine SO.alloc rfl rfl rfl (fun b => ?_)
 | refine SO.storeW rfl rfl (by repeat constructor) rfl (by rfl) (by rfl) (by rfl) ?_
 | fail)
        exact SK.ret ⟨⟨(), hf⟩, rfl, ent_append_of_takes (by repeat constructor)⟩
    · have eo : okF (mapF g.rows) (p, r) = true := by unfold okF; rw [hu]
      rw [h0, eo] at e1
      repeat' (first
 | refine SO.pure rfl rfl rfl ?_
 | refine SO.nil ?_
 | refine SK.seq ?_
 | refine SK.region ?_
 | refine SK.condT rfl ?_
 | refine SK.exit rfl ?_
 | refine SO.alloc rfl rfl rfl (fun b => ?_)
 | refine SO.storeW rfl rfl (by repeat constructor) rfl (by rfl) (by rfl) (by rfl) ?_
 | fail)
      exact SK.nil ((ent_prs (p := (g.rows.take (i + 1)).all (okF (mapF g.rows)) = true) e1 (Ent.refl _)).trans (ent_append_of_takes (by repeat constructor)))
  · refine SK.blk ?_
    refine SK.openPr (.there (.there (.there .here))) (fun h0 => ?_)
    rw [List.take_length] at h0
    repeat' (first
 | refine SO.nil ?_
 | refine SK.seq ?_
 | refine SK.region ?_
 | refine SO.storeW rfl rfl (by repeat constructor) rfl (by rfl) (by rfl) (by rfl) ?_
 | fail)
    refine SK.retX (.cell rfl (by repeat constructor) rfl rfl (by exact ⟨rfl, fun _ => rfl⟩) .nil) () trivial ?_ (by repeat constructor)
    show Value.bool true = Value.bool (agreeF g.rows g.rows)
    unfold agreeF
    rw [h0]
  · rintro ⟨_, hf⟩ i _
    refine SK.retX (.cell rfl (by repeat constructor) rfl rfl (by exact ⟨rfl, fun _ => rfl⟩) .nil) () trivial ?_ (by repeat constructor)
    rw [hf]; rfl
end Go.Proofs
