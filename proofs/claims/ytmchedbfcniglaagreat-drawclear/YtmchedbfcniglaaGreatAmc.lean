/- Part 3 of the proof that 'DrawClear' holds. Conditions: as each part says. -/
import Derived.KernelRfl
import Derived.Test.YtmchedbfcniglaaGreatAmb
import Derived.Test.YtmchedbfcniglaaGreatProg
set_option linter.unusedSimpArgs false
set_option linter.unusedVariables false
set_option linter.unusedSectionVars false
set_option linter.unnecessarySimpa false
section
/- What the functions become that the walk of the abstract machine reaches. No condition. -/
namespace Go.AM.Zd
set_option maxRecDepth 100000
/-- arbor/draw.Draw -/
def g7 : AFunc := ⟨1,[.t s002,.cell s003 true 2],
 (.seq (.reg [⟨some s001,.box 2 (.t s000),none⟩,⟨some s002,.mv (.c .nils),none⟩,⟨some s003,.new [(.i .i64 0),(.i .i64 0)],none⟩])
 (.seq (.reg [⟨some s014,.ldn 2 (.t s001),none⟩,⟨some s015,.call (.c (.fn 18 [])) [(.t s014)],none⟩,⟨some s013,.mv (.t s015),none⟩,⟨some s016,.ext (.t s013) 0,none⟩,⟨some s017,.ext (.t s013) 1,none⟩,⟨some s004,.new [(.i .i64 0),.nils],none⟩,⟨some s005,.new [(.i .i64 0),(.i .i64 0)],none⟩,⟨none,.st 2 (.t s004) (.t s016),none⟩,⟨none,.st 2 (.t s005) (.t s017),none⟩])
 (.seq (.seq (.reg [⟨some s020,.flda 0 (.t s005),none⟩,⟨some s021,.ld (.t s020),none⟩,⟨some s022,.eq .int true (.t s021) (.c (.i .i64 0)),none⟩])
 (.cond (.t s022) (.seq (.dreg [(0,⟨some s023,.ldn 2 (.t s005),none⟩,0,true),(1,⟨some s002,.mv (.c .nils),none⟩,0,false),(2,⟨none,.st 2 (.t s003) (.t s023),none⟩,3,true)])
  (.ret))
 (.skip)))
 (.seq (.seq (.reg [⟨some s024,.flda 0 (.t s001),none⟩,⟨some s025,.ld (.t s024),none⟩,⟨some s026,.bin .gtr (.t s025) (.c (.i .i64 24)),none⟩])
 (.cond (.t s026) (.seq (.reg [⟨some s027,.call (.c (.fn 19 [])) [(.c (.i .i64 2)),(.c (.i .i64 0))],none⟩,⟨some s002,.mv (.c .nils),none⟩,⟨none,.st 2 (.t s003) (.t s027),none⟩])
  (.ret))
 (.skip)))
 (.seq (.reg [⟨some s031,.ldn 2 (.t s004),none⟩,⟨some s032,.call (.c (.fn 10 [])) [(.t s031)],none⟩,⟨some s030,.mv (.t s032),none⟩,⟨some s033,.ext (.t s030) 0,none⟩,⟨some s034,.ext (.t s030) 1,none⟩,⟨some s035,.ext (.t s030) 2,none⟩,⟨some s010,.new [(.i .i64 0),(.i .i64 0)],none⟩,⟨some s006,.mv (.t s033),none⟩,⟨some s007,.mv (.t s034),none⟩,⟨none,.st 2 (.t s010) (.t s035),none⟩])
 (.seq (.seq (.reg [⟨some s036,.mv (.t s006),none⟩,⟨some s037,.len (.t s036),none⟩,⟨some s040,.flda 0 (.t s001),none⟩,⟨some s041,.ld (.t s040),none⟩,⟨some s042,.bin .lss (.t s037) (.t s041),none⟩])
 (.cond (.t s042) (.seq (.reg [⟨some s043,.call (.c (.fn 19 [])) [(.c (.i .i64 9)),(.c (.i .i64 0))],none⟩,⟨some s002,.mv (.c .nils),none⟩,⟨none,.st 2 (.t s003) (.t s043),none⟩])
  (.ret))
 (.skip)))
 (.seq (.reg [⟨some s044,.flda 0 (.t s001),none⟩,⟨some s045,.ld (.t s044),none⟩,⟨some s046,.mks 2 16 [(.i .i64 0),(.i .i64 0)] (.t s045) (.t s045),none⟩,⟨some s011,.mv (.t s046),none⟩])
 (.seq (.seq (.reg [⟨some s047,.flda 0 (.t s001),none⟩,⟨some s050,.ld (.t s047),none⟩,⟨some s051,.bin .lss (.t s050) (.c (.i .i64 3)),none⟩])
 (.cond (.t s051) (.seq (.seq (.reg [⟨some s052,.mv (.t s011),none⟩,⟨some s053,.len (.t s052),none⟩,⟨some s054,.mv (.c (.i .i64 0)),none⟩])
  (.block 0 (.loop (.seq (.reg [⟨some s055,.bin .lss (.t s054) (.t s053),none⟩])
    (.seq (.cond (.t s055) (.skip)
    (.exit 0))
    (.seq (.block 1 (.seq (.reg [⟨some s056,.mv (.t s054),none⟩,⟨some s012,.mv (.t s056),none⟩])
     (.reg [⟨some s057,.mv (.t s011),none⟩,⟨some s060,.mv (.t s012),none⟩,⟨some s061,.mv (.t s012),none⟩,⟨some s062,.idxa 2 (.t s057) (.t s060),none⟩,⟨some s063,.flda 0 (.t s062),none⟩,⟨none,.st 1 (.t s063) (.t s061),none⟩])))
    (.reg [⟨some s064,.bin .add (.t s054) (.c (.i .i64 1)),none⟩,⟨some s054,.mv (.t s064),none⟩])))))))
  (.seq (.dreg [(0,⟨some s065,.mv (.t s011),none⟩,0,false),(1,⟨some s066,.ldn 2 (.t s005),none⟩,0,true),(2,⟨some s002,.mv (.t s065),none⟩,1,false),(3,⟨none,.st 2 (.t s003) (.t s066),none⟩,7,true)])
  (.ret)))
 (.skip)))
 (.seq (.dreg [(0,⟨some s067,.ldn 2 (.t s004),none⟩,0,false),(1,⟨some s070,.call (.c (.fn 21 [])) [(.t s067)],none⟩,1,false),(2,⟨some s071,.call (.c (.fn 20 [])) [(.t s070)],none⟩,3,false),(3,⟨some s072,.ldn 2 (.t s005),none⟩,0,false),(4,⟨some s002,.mv (.t s071),none⟩,7,false),(5,⟨none,.st 2 (.t s003) (.t s072),none⟩,31,true)])
 (.ret))))))))))⟩
/-- arbor/arborlaw.drawBegun -/
def g8 : AFunc := ⟨0,[.t s000],
 (.seq (.reg [⟨some s000,.mv (.c (.b false)),none⟩])
 (.seq (.reg [⟨some s006,.call (.c (.fn 22 [])) [(.c (.i .i64 3))],none⟩,⟨some s007,.build [(.i .i64 0),(.i .i64 0)] [(0,1,(.c (.i .i64 0))),(1,1,(.c (.i .i64 0)))],none⟩,⟨some s010,.build [(.i .i64 0),(.i .i64 0)] [(0,1,(.c (.i .i64 2))),(1,1,(.c (.i .i64 0)))],none⟩,⟨some s011,.build [(.i .i64 0),(.i .i64 0)] [(0,1,(.c (.i .i64 1))),(1,1,(.c (.i .i64 1)))],none⟩,⟨some s012,.bsl 2 3 [(.i .i64 0),(.i .i64 0),(.i .i64 0),(.i .i64 0),(.i .i64 0),(.i .i64 0)] [(0,2,(.t s007)),(2,2,(.t s010)),(4,2,(.t s011))],none⟩,⟨some s013,.call (.c (.fn 17 [])) [(.t s006),(.t s012)],none⟩,⟨some s005,.mv (.t s013),none⟩,⟨some s014,.ext (.t s005) 0,none⟩,⟨some s015,.ext (.t s005) 1,none⟩,⟨some s002,.new [(.i .i64 0),(.i .i64 0)],none⟩,⟨some s001,.mv (.t s014),none⟩,⟨none,.st 2 (.t s002) (.t s015),none⟩])
 (.seq (.reg [⟨some s017,.call (.c (.fn 22 [])) [(.c (.i .i64 5))],none⟩,⟨some s020,.call (.c (.fn 7 [])) [(.t s017)],none⟩,⟨some s016,.mv (.t s020),none⟩,⟨some s021,.ext (.t s016) 0,none⟩,⟨some s022,.ext (.t s016) 1,none⟩,⟨some s004,.new [(.i .i64 0),(.i .i64 0)],none⟩,⟨some s003,.mv (.t s021),none⟩,⟨none,.st 2 (.t s004) (.t s022),none⟩])
 (.seq (.dreg [(0,⟨some s023,.flda 0 (.t s002),none⟩,0,true),(1,⟨some s024,.ld (.t s023),none⟩,1,true),(2,⟨some s025,.eq .int false (.t s024) (.c (.i .i64 0)),none⟩,3,true),(3,⟨some s026,.mv (.t s025),none⟩,7,true),(4,⟨some s027,.mv (.t s001),(some (s026,true))⟩,15,true),(5,⟨some s030,.pick (.t s026) (.t s027) (.c (.b false)),none⟩,31,true),(6,⟨some s031,.mv (.t s030),none⟩,63,true),(7,⟨some s032,.ldn 2 (.t s004),(some (s031,true))⟩,127,false),(8,⟨some s033,.call (.c (.fn 11 [])) [(.c (.i .i64 9)),(.c (.i .i64 0))],(some (s031,true))⟩,127,false),(9,⟨some s034,.eq (.ints 2) false (.t s032) (.t s033),(some (s031,true))⟩,511,true),(10,⟨some s035,.pick (.t s031) (.t s034) (.c (.b false)),none⟩,1023,true),(11,⟨some s000,.mv (.t s035),none⟩,2047,true)])
 (.ret)))))⟩
/-- arbor/plane.Embed -/
def g10 : AFunc := ⟨1,[.t s002,.t s003,.cell s004 true 2],
 (.seq (.reg [⟨some s001,.box 2 (.t s000),none⟩,⟨some s002,.mv (.c .nils),none⟩,⟨some s003,.mv (.c .nils),none⟩,⟨some s004,.new [(.i .i64 0),(.i .i64 0)],none⟩])
 (.seq (.reg [⟨some s012,.ldn 2 (.t s001),none⟩,⟨some s013,.call (.c (.fn 18 [])) [(.t s012)],none⟩,⟨some s011,.mv (.t s013),none⟩,⟨some s014,.ext (.t s011) 0,none⟩,⟨some s015,.ext (.t s011) 1,none⟩,⟨some s005,.new [(.i .i64 0),.nils],none⟩,⟨none,.st 2 (.t s005) (.t s014),none⟩,⟨none,.st 2 (.t s004) (.t s015),none⟩])
 (.seq (.seq (.reg [⟨some s016,.flda 0 (.t s004),none⟩,⟨some s017,.ld (.t s016),none⟩,⟨some s020,.eq .int true (.t s017) (.c (.i .i64 0)),none⟩])
 (.cond (.t s020) (.seq (.dreg [(0,⟨some s021,.ldn 2 (.t s004),none⟩,0,true),(1,⟨some s002,.mv (.c .nils),none⟩,0,false),(2,⟨some s003,.mv (.c .nils),none⟩,2,false),(3,⟨none,.st 2 (.t s004) (.t s021),none⟩,7,true)])
  (.ret))
 (.skip)))
 (.seq (.seq (.reg [⟨some s022,.ldn 2 (.t s005),none⟩,⟨some s023,.call (.c (.fn 24 [])) [(.t s022)],none⟩,⟨some s002,.mv (.t s023),none⟩])
 (.seq (.reg [⟨some s024,.mv (.t s002),none⟩,⟨some s025,.eq .slice true (.t s024) (.c .nils),none⟩])
 (.cond (.t s025) (.seq (.dreg [(0,⟨some s026,.mv (.t s002),none⟩,0,false),(1,⟨some s027,.ldn 2 (.t s004),none⟩,0,true),(2,⟨some s002,.mv (.t s026),none⟩,1,false),(3,⟨some s003,.mv (.c .nils),none⟩,5,false),(4,⟨none,.st 2 (.t s004) (.t s027),none⟩,15,true)])
  (.ret))
 (.skip))))
 (.seq (.reg [⟨some s030,.flda 1 (.t s005),none⟩,⟨some s031,.ld (.t s030),none⟩,⟨some s006,.mv (.t s031),none⟩])
 (.seq (.seq (.reg [⟨some s007,.mv (.c (.i .i64 0)),none⟩])
 (.block 0 (.loop (.seq (.seq (.reg [⟨some s032,.mv (.t s007),none⟩,⟨some s033,.mv (.t s006),none⟩,⟨some s034,.len (.t s033),none⟩,⟨some s035,.bin .lss (.t s032) (.t s034),none⟩])
   (.cond (.t s035) (.skip)
   (.exit 0)))
   (.block 1 (.seq (.dreg [(0,⟨some s036,.mv (.t s006),none⟩,0,true),(1,⟨some s037,.mv (.t s007),none⟩,0,true),(2,⟨some s040,.slice 2 (.t s036) none (some (.t s037)) none,none⟩,3,true),(3,⟨some s041,.call (.c (.fn 25 [])) [(.t s040)],none⟩,7,true),(4,⟨some s042,.mv (.t s006),none⟩,0,false),(5,⟨some s043,.mv (.t s007),none⟩,0,false),(6,⟨some s044,.bin .add (.t s043) (.c (.i .i64 1)),none⟩,32,false),(7,⟨some s045,.slice 2 (.t s042) (some (.t s044)) none none,none⟩,112,false),(8,⟨some s046,.app 2 16 (.t s041) (.t s045),none⟩,255,true),(9,⟨some s010,.mv (.t s046),none⟩,511,true)])
    (.seq (.reg [⟨some s047,.flda 0 (.t s001),none⟩,⟨some s050,.ld (.t s047),none⟩,⟨some s051,.mv (.t s010),none⟩,⟨some s052,.build [(.i .i64 0),.nils] [(0,1,(.t s050)),(1,1,(.t s051))],none⟩,⟨some s053,.call (.c (.fn 24 [])) [(.t s052)],none⟩,⟨some s054,.eq .slice false (.t s053) (.c .nils),none⟩])
    (.cond (.t s054) (.reg [⟨some s055,.mv (.t s010),none⟩,⟨some s006,.mv (.t s055),none⟩])
    (.reg [⟨some s056,.mv (.t s007),none⟩,⟨some s057,.bin .add (.t s056) (.c (.i .i64 1)),none⟩,⟨some s007,.mv (.t s057),none⟩])))))))))
 (.seq (.dreg [(0,⟨some s060,.mv (.t s006),none⟩,0,false),(1,⟨some s061,.ldn 2 (.t s004),none⟩,0,true),(2,⟨some s002,.mv (.c .nils),none⟩,0,false),(3,⟨some s003,.mv (.t s060),none⟩,5,false),(4,⟨none,.st 2 (.t s004) (.t s061),none⟩,15,true)])
 (.ret))))))))⟩
/-- arbor/arborref.F -/
def g11 : AFunc := ⟨2,[.cell s004 true 2],
 (.seq (.reg [⟨some s004,.new [(.i .i64 0),(.i .i64 0)],none⟩])
 (.seq (.reg [⟨some s005,.mv (.t s000),none⟩,⟨some s006,.mv (.t s001),none⟩,⟨some s007,.build [(.i .i64 0),(.i .i64 0)] [(0,1,(.t s005)),(1,1,(.t s006))],none⟩,⟨none,.st 2 (.t s004) (.t s007),none⟩])
 (.ret)))⟩
/-- arbor/arborref.GridOf -/
def g13 : AFunc := ⟨1,[.t s002],
 (.seq (.reg [⟨some s001,.box 2 (.t s000),none⟩,⟨some s002,.mv (.c .nils),none⟩])
 (.seq (.reg [⟨some s003,.mv (.c .nils),none⟩])
 (.seq (.seq (.reg [⟨some s004,.mv (.c (.i .i64 0)),none⟩])
 (.block 0 (.loop (.seq (.seq (.reg [⟨some s007,.mv (.t s004),none⟩,⟨some s010,.flda 0 (.t s001),none⟩,⟨some s011,.ld (.t s010),none⟩,⟨some s012,.bin .lss (.t s007) (.t s011),none⟩])
   (.cond (.t s012) (.skip)
   (.exit 0)))
   (.seq (.block 1 (.reg [⟨some s015,.mv (.t s003),none⟩,⟨some s016,.flda 0 (.t s001),none⟩,⟨some s017,.ld (.t s016),none⟩,⟨some s020,.mks 1 1 [(.b false)] (.t s017) (.t s017),none⟩,⟨some s021,.bsl 1 1 [.nils] [(0,1,(.t s020))],none⟩,⟨some s022,.app 1 24 (.t s015) (.t s021),none⟩,⟨some s003,.mv (.t s022),none⟩]))
   (.reg [⟨some s013,.mv (.t s004),none⟩,⟨some s014,.bin .add (.t s013) (.c (.i .i64 1)),none⟩,⟨some s004,.mv (.t s014),none⟩]))))))
 (.seq (.seq (.reg [⟨some s005,.mv (.c (.i .i64 0)),none⟩])
 (.block 2 (.loop (.seq (.seq (.reg [⟨some s023,.mv (.t s005),none⟩,⟨some s024,.flda 1 (.t s001),none⟩,⟨some s025,.ld (.t s024),none⟩,⟨some s026,.len (.t s025),none⟩,⟨some s027,.bin .lss (.t s023) (.t s026),none⟩])
   (.cond (.t s027) (.skip)
   (.exit 2)))
   (.seq (.block 3 (.seq (.reg [⟨some s032,.flda 1 (.t s001),none⟩,⟨some s033,.ld (.t s032),none⟩,⟨some s034,.mv (.t s005),none⟩,⟨some s035,.idxa 2 (.t s033) (.t s034),none⟩,⟨some s036,.ldn 2 (.t s035),none⟩,⟨some s006,.new [(.i .i64 0),(.i .i64 0)],none⟩,⟨none,.st 2 (.t s006) (.t s036),none⟩])
    (.seq (.dreg [(0,⟨some s037,.mv (.t s003),none⟩,0,false),(1,⟨some s040,.idxp 2 1 (.t s006) (.c (.i .i64 0)),none⟩,0,false),(2,⟨some s041,.ld (.t s040),none⟩,2,false),(3,⟨some s042,.idxa 1 (.t s037) (.t s041),none⟩,7,false),(4,⟨some s043,.ld (.t s042),none⟩,15,false),(5,⟨some s044,.idxp 2 1 (.t s006) (.c (.i .i64 1)),none⟩,0,false),(6,⟨some s045,.ld (.t s044),none⟩,32,false),(7,⟨some s046,.idxa 1 (.t s043) (.t s045),none⟩,127,true),(8,⟨none,.st 1 (.t s046) (.c (.b true)),none⟩,255,true)])
    (.dreg [(0,⟨some s047,.mv (.t s003),none⟩,0,false),(1,⟨some s050,.idxp 2 1 (.t s006) (.c (.i .i64 1)),none⟩,0,false),(2,⟨some s051,.ld (.t s050),none⟩,2,false),(3,⟨some s052,.idxa 1 (.t s047) (.t s051),none⟩,7,false),(4,⟨some s053,.ld (.t s052),none⟩,15,false),(5,⟨some s054,.idxp 2 1 (.t s006) (.c (.i .i64 0)),none⟩,0,false),(6,⟨some s055,.ld (.t s054),none⟩,32,false),(7,⟨some s056,.idxa 1 (.t s053) (.t s055),none⟩,127,true),(8,⟨none,.st 1 (.t s056) (.c (.b true)),none⟩,255,true)]))))
   (.reg [⟨some s030,.mv (.t s005),none⟩,⟨some s031,.bin .add (.t s030) (.c (.i .i64 1)),none⟩,⟨some s005,.mv (.t s031),none⟩]))))))
 (.seq (.reg [⟨some s057,.mv (.t s003),none⟩,⟨some s002,.mv (.t s057),none⟩])
 (.ret))))))⟩
/-- arbor/draw.Clear -/
def g17 : AFunc := ⟨2,[.t s004,.cell s005 true 2],
 (.seq (.reg [⟨some s002,.box 2 (.t s000),none⟩,⟨some s004,.mv (.c (.b false)),none⟩,⟨some s005,.new [(.i .i64 0),(.i .i64 0)],none⟩])
 (.seq (.reg [⟨some s026,.ldn 2 (.t s002),none⟩,⟨some s027,.call (.c (.fn 18 [])) [(.t s026)],none⟩,⟨some s025,.mv (.t s027),none⟩,⟨some s030,.ext (.t s025) 0,none⟩,⟨some s031,.ext (.t s025) 1,none⟩,⟨some s006,.new [(.i .i64 0),.nils],none⟩,⟨some s007,.new [(.i .i64 0),(.i .i64 0)],none⟩,⟨none,.st 2 (.t s006) (.t s030),none⟩,⟨none,.st 2 (.t s007) (.t s031),none⟩])
 (.seq (.seq (.reg [⟨some s032,.flda 0 (.t s007),none⟩,⟨some s033,.ld (.t s032),none⟩,⟨some s034,.eq .int true (.t s033) (.c (.i .i64 0)),none⟩])
 (.cond (.t s034) (.seq (.dreg [(0,⟨some s035,.ldn 2 (.t s007),none⟩,0,true),(1,⟨some s004,.mv (.c (.b false)),none⟩,0,false),(2,⟨none,.st 2 (.t s005) (.t s035),none⟩,3,true)])
  (.ret))
 (.skip)))
 (.seq (.seq (.reg [⟨some s036,.mv (.t s001),none⟩,⟨some s037,.len (.t s036),none⟩,⟨some s040,.flda 0 (.t s002),none⟩,⟨some s041,.ld (.t s040),none⟩,⟨some s042,.eq .int true (.t s037) (.t s041),none⟩])
 (.cond (.t s042) (.seq (.reg [⟨some s043,.call (.c (.fn 19 [])) [(.c (.i .i64 6)),(.c (.i .i64 0))],none⟩,⟨some s004,.mv (.c (.b false)),none⟩,⟨none,.st 2 (.t s005) (.t s043),none⟩])
  (.ret))
 (.skip)))
 (.seq (.seq (.reg [⟨some s044,.mv (.t s001),none⟩,⟨some s045,.len (.t s044),none⟩,⟨some s046,.mv (.c (.i .i64 0)),none⟩])
 (.block 0 (.loop (.seq (.reg [⟨some s047,.bin .lss (.t s046) (.t s045),none⟩])
   (.seq (.cond (.t s047) (.skip)
   (.exit 0))
   (.seq (.block 1 (.seq (.reg [⟨some s050,.mv (.t s046),none⟩,⟨some s051,.idxa 2 (.t s044) (.t s046),none⟩,⟨some s052,.ldn 2 (.t s051),none⟩,⟨some s011,.new [(.i .i64 0),(.i .i64 0)],none⟩,⟨some s010,.mv (.t s050),none⟩,⟨none,.st 2 (.t s011) (.t s052),none⟩])
    (.seq (.reg [⟨some s053,.flda 0 (.t s011),none⟩,⟨some s054,.ld (.t s053),none⟩,⟨some s055,.flda 0 (.t s011),none⟩,⟨some s056,.ld (.t s055),none⟩,⟨some s057,.un .neg (.t s056),none⟩,⟨some s060,.max [(.t s054),(.t s057)],none⟩,⟨some s061,.bin .gtr (.t s060) (.c (.i .i64 1000000)),none⟩,⟨some s062,.mv (.t s061),none⟩,⟨some s063,.flda 1 (.t s011),(some (s062,false))⟩,⟨some s064,.ld (.t s063),(some (s062,false))⟩,⟨some s065,.flda 1 (.t s011),(some (s062,false))⟩,⟨some s066,.ld (.t s065),(some (s062,false))⟩,⟨some s067,.un .neg (.t s066),(some (s062,false))⟩,⟨some s070,.max [(.t s064),(.t s067)],(some (s062,false))⟩,⟨some s071,.bin .gtr (.t s070) (.c (.i .i64 1000000)),(some (s062,false))⟩,⟨some s072,.pick (.t s062) (.c (.b true)) (.t s071),none⟩,⟨some s073,.mv (.t s072),none⟩,⟨some s074,.flda 0 (.t s011),(some (s073,false))⟩,⟨some s075,.ld (.t s074),(some (s073,false))⟩,⟨some s076,.eq .int false (.t s075) (.c (.i .i64 (-9223372036854775808))),(some (s073,false))⟩,⟨some s077,.pick (.t s073) (.c (.b true)) (.t s076),none⟩,⟨some s100,.mv (.t s077),none⟩,⟨some s101,.flda 1 (.t s011),(some (s100,false))⟩,⟨some s102,.ld (.t s101),(some (s100,false))⟩,⟨some s103,.eq .int false (.t s102) (.c (.i .i64 (-9223372036854775808))),(some (s100,false))⟩,⟨some s104,.pick (.t s100) (.c (.b true)) (.t s103),none⟩])
    (.cond (.t s104) (.seq (.reg [⟨some s105,.mv (.t s010),none⟩,⟨some s106,.call (.c (.fn 19 [])) [(.c (.i .i64 3)),(.t s105)],none⟩,⟨some s004,.mv (.c (.b false)),none⟩,⟨none,.st 2 (.t s005) (.t s106),none⟩])
     (.ret))
    (.skip)))))
   (.reg [⟨some s107,.bin .add (.t s046) (.c (.i .i64 1)),none⟩,⟨some s046,.mv (.t s107),none⟩])))))))
 (.seq (.seq (.reg [⟨some s110,.mv (.t s001),none⟩,⟨some s111,.len (.t s110),none⟩,⟨some s112,.mv (.c (.i .i64 0)),none⟩])
 (.block 2 (.loop (.seq (.reg [⟨some s113,.bin .lss (.t s112) (.t s111),none⟩])
   (.seq (.cond (.t s113) (.skip)
   (.exit 2))
   (.seq (.block 3 (.seq (.reg [⟨some s114,.mv (.t s112),none⟩,⟨some s115,.idxa 2 (.t s110) (.t s112),none⟩,⟨some s116,.ldn 2 (.t s115),none⟩,⟨some s013,.new [(.i .i64 0),(.i .i64 0)],none⟩,⟨some s012,.mv (.t s114),none⟩,⟨none,.st 2 (.t s013) (.t s116),none⟩])
    (.seq (.dreg [(0,⟨some s117,.mv (.t s001),none⟩,0,false),(1,⟨some s120,.mv (.t s012),none⟩,0,false),(2,⟨some s121,.slice 2 (.t s117) none (some (.t s120)) none,none⟩,3,false),(3,⟨some s122,.ldn 2 (.t s013),none⟩,0,true),(4,⟨some s123,.call (.c (.fn 30 [])) [(.t s121),(.t s122)],none⟩,15,true)])
    (.cond (.t s123) (.seq (.dreg [(0,⟨some s124,.ldn 2 (.t s007),none⟩,0,true),(1,⟨some s004,.mv (.c (.b false)),none⟩,0,false),(2,⟨none,.st 2 (.t s005) (.t s124),none⟩,3,true)])
     (.ret))
    (.skip)))))
   (.reg [⟨some s125,.bin .add (.t s112) (.c (.i .i64 1)),none⟩,⟨some s112,.mv (.t s125),none⟩])))))))
 (.seq (.seq (.reg [⟨some s126,.flda 1 (.t s006),none⟩,⟨some s127,.ld (.t s126),none⟩,⟨some s130,.len (.t s127),none⟩,⟨some s131,.mv (.c (.i .i64 0)),none⟩])
 (.block 4 (.loop (.seq (.reg [⟨some s132,.bin .lss (.t s131) (.t s130),none⟩])
   (.seq (.cond (.t s132) (.skip)
   (.exit 4))
   (.seq (.block 5 (.seq (.reg [⟨some s133,.mv (.t s131),none⟩,⟨some s134,.idxa 2 (.t s127) (.t s131),none⟩,⟨some s135,.ldn 2 (.t s134),none⟩,⟨some s015,.new [(.i .i64 0),(.i .i64 0)],none⟩,⟨some s014,.mv (.t s133),none⟩,⟨none,.st 2 (.t s015) (.t s135),none⟩])
    (.seq (.dreg [(0,⟨some s136,.mv (.t s001),none⟩,0,false),(1,⟨some s137,.idxp 2 1 (.t s015) (.c (.i .i64 0)),none⟩,0,false),(2,⟨some s140,.ld (.t s137),none⟩,2,false),(3,⟨some s141,.idxa 2 (.t s136) (.t s140),none⟩,7,false),(4,⟨some s142,.ldn 2 (.t s141),none⟩,15,false),(10,⟨some s016,.new [(.i .i64 0),(.i .i64 0)],none⟩,0,false),(11,⟨some s017,.new [(.i .i64 0),(.i .i64 0)],none⟩,0,false),(12,⟨none,.st 2 (.t s016) (.t s142),none⟩,3103,false),(5,⟨some s143,.mv (.t s001),none⟩,0,false),(6,⟨some s144,.idxp 2 1 (.t s015) (.c (.i .i64 1)),none⟩,0,false),(7,⟨some s145,.ld (.t s144),none⟩,64,false),(8,⟨some s146,.idxa 2 (.t s143) (.t s145),none⟩,224,false),(9,⟨some s147,.ldn 2 (.t s146),none⟩,480,false),(13,⟨none,.st 2 (.t s017) (.t s147),none⟩,8191,true)])
    (.seq (.seq (.reg [⟨some s150,.mv (.t s001),none⟩,⟨some s151,.len (.t s150),none⟩,⟨some s152,.mv (.c (.i .i64 0)),none⟩])
    (.block 6 (.loop (.seq (.reg [⟨some s153,.bin .lss (.t s152) (.t s151),none⟩])
      (.seq (.cond (.t s153) (.skip)
      (.exit 6))
      (.seq (.block 7 (.seq (.reg [⟨some s154,.mv (.t s152),none⟩,⟨some s155,.idxa 2 (.t s150) (.t s152),none⟩,⟨some s156,.ldn 2 (.t s155),none⟩,⟨some s021,.new [(.i .i64 0),(.i .i64 0)],none⟩,⟨some s020,.mv (.t s154),none⟩,⟨none,.st 2 (.t s021) (.t s156),none⟩])
       (.seq (.reg [⟨some s157,.mv (.t s020),none⟩,⟨some s160,.idxp 2 1 (.t s015) (.c (.i .i64 0)),none⟩,⟨some s161,.ld (.t s160),none⟩,⟨some s162,.eq .int true (.t s157) (.t s161),none⟩,⟨some s163,.mv (.t s162),none⟩,⟨some s164,.mv (.t s020),(some (s163,true))⟩,⟨some s165,.idxp 2 1 (.t s015) (.c (.i .i64 1)),(some (s163,true))⟩,⟨some s166,.ld (.t s165),(some (s163,true))⟩,⟨some s167,.eq .int true (.t s164) (.t s166),(some (s163,true))⟩,⟨some s170,.pick (.t s163) (.t s167) (.c (.b false)),none⟩,⟨some s171,.mv (.t s170),none⟩,⟨some s172,.ldn 2 (.t s016),(some (s171,true))⟩,⟨some s173,.ldn 2 (.t s017),(some (s171,true))⟩,⟨some s174,.ldn 2 (.t s021),(some (s171,true))⟩,⟨some s175,.call (.c (.fn 31 [])) [(.t s172),(.t s173),(.t s174)],(some (s171,true))⟩,⟨some s176,.pick (.t s171) (.t s175) (.c (.b false)),none⟩])
       (.cond (.t s176) (.seq (.dreg [(0,⟨some s177,.ldn 2 (.t s007),none⟩,0,true),(1,⟨some s004,.mv (.c (.b false)),none⟩,0,false),(2,⟨none,.st 2 (.t s005) (.t s177),none⟩,3,true)])
        (.ret))
       (.skip)))))
      (.reg [⟨some s200,.bin .add (.t s152) (.c (.i .i64 1)),none⟩,⟨some s152,.mv (.t s200),none⟩])))))))
    (.seq (.reg [⟨some s201,.flda 1 (.t s006),none⟩,⟨some s202,.ld (.t s201),none⟩,⟨some s203,.mv (.t s014),none⟩,⟨some s204,.slice 2 (.t s202) none (some (.t s203)) none,none⟩,⟨some s205,.len (.t s204),none⟩,⟨some s206,.mv (.c (.i .i64 0)),none⟩])
    (.block 8 (.loop (.seq (.reg [⟨some s207,.bin .lss (.t s206) (.t s205),none⟩])
      (.seq (.cond (.t s207) (.skip)
      (.exit 8))
      (.seq (.block 9 (.seq (.reg [⟨some s210,.idxa 2 (.t s204) (.t s206),none⟩,⟨some s211,.ldn 2 (.t s210),none⟩,⟨some s023,.new [(.i .i64 0),(.i .i64 0)],none⟩,⟨none,.st 2 (.t s023) (.t s211),none⟩])
       (.seq (.reg [⟨some s212,.idxp 2 1 (.t s015) (.c (.i .i64 0)),none⟩,⟨some s213,.ld (.t s212),none⟩,⟨some s214,.idxp 2 1 (.t s023) (.c (.i .i64 0)),none⟩,⟨some s215,.ld (.t s214),none⟩,⟨some s216,.eq .int true (.t s213) (.t s215),none⟩,⟨some s217,.mv (.t s216),none⟩,⟨some s220,.idxp 2 1 (.t s015) (.c (.i .i64 0)),(some (s217,true))⟩,⟨some s221,.ld (.t s220),(some (s217,true))⟩,⟨some s222,.idxp 2 1 (.t s023) (.c (.i .i64 1)),(some (s217,true))⟩,⟨some s223,.ld (.t s222),(some (s217,true))⟩,⟨some s224,.eq .int true (.t s221) (.t s223),(some (s217,true))⟩,⟨some s225,.pick (.t s217) (.t s224) (.c (.b false)),none⟩,⟨some s226,.mv (.t s225),none⟩,⟨some s227,.idxp 2 1 (.t s015) (.c (.i .i64 1)),(some (s226,true))⟩,⟨some s230,.ld (.t s227),(some (s226,true))⟩,⟨some s231,.idxp 2 1 (.t s023) (.c (.i .i64 0)),(some (s226,true))⟩,⟨some s232,.ld (.t s231),(some (s226,true))⟩,⟨some s233,.eq .int true (.t s230) (.t s232),(some (s226,true))⟩,⟨some s234,.pick (.t s226) (.t s233) (.c (.b false)),none⟩,⟨some s235,.mv (.t s234),none⟩,⟨some s236,.idxp 2 1 (.t s015) (.c (.i .i64 1)),(some (s235,true))⟩,⟨some s237,.ld (.t s236),(some (s235,true))⟩,⟨some s240,.idxp 2 1 (.t s023) (.c (.i .i64 1)),(some (s235,true))⟩,⟨some s241,.ld (.t s240),(some (s235,true))⟩,⟨some s242,.eq .int true (.t s237) (.t s241),(some (s235,true))⟩,⟨some s243,.pick (.t s235) (.t s242) (.c (.b false)),none⟩,⟨some s024,.mv (.t s243),none⟩])
       (.seq (.dreg [(0,⟨some s244,.mv (.t s024),none⟩,0,true),(1,⟨some s245,.mv (.t s244),none⟩,1,true),(2,⟨some s246,.ldn 2 (.t s016),(some (s245,true))⟩,3,false),(3,⟨some s247,.ldn 2 (.t s017),(some (s245,true))⟩,3,false),(4,⟨some s250,.mv (.t s001),(some (s245,true))⟩,3,false),(5,⟨some s251,.idxp 2 1 (.t s023) (.c (.i .i64 0)),(some (s245,true))⟩,3,false),(6,⟨some s252,.ld (.t s251),(some (s245,true))⟩,35,false),(7,⟨some s253,.idxa 2 (.t s250) (.t s252),(some (s245,true))⟩,115,false),(8,⟨some s254,.ldn 2 (.t s253),(some (s245,true))⟩,243,false),(9,⟨some s255,.mv (.t s001),(some (s245,true))⟩,3,false),(10,⟨some s256,.idxp 2 1 (.t s023) (.c (.i .i64 1)),(some (s245,true))⟩,3,false),(11,⟨some s257,.ld (.t s256),(some (s245,true))⟩,1027,false),(12,⟨some s260,.idxa 2 (.t s255) (.t s257),(some (s245,true))⟩,3587,false),(13,⟨some s261,.ldn 2 (.t s260),(some (s245,true))⟩,7683,false),(14,⟨some s262,.call (.c (.fn 32 [])) [(.t s246),(.t s247),(.t s254),(.t s261)],(some (s245,true))⟩,16383,true),(15,⟨some s263,.pick (.t s245) (.t s262) (.c (.b false)),none⟩,32767,true)])
       (.cond (.t s263) (.seq (.dreg [(0,⟨some s264,.ldn 2 (.t s007),none⟩,0,true),(1,⟨some s004,.mv (.c (.b false)),none⟩,0,false),(2,⟨none,.st 2 (.t s005) (.t s264),none⟩,3,true)])
        (.ret))
       (.skip))))))
      (.reg [⟨some s265,.bin .add (.t s206) (.c (.i .i64 1)),none⟩,⟨some s206,.mv (.t s265),none⟩])))))))))))
   (.reg [⟨some s266,.bin .add (.t s131) (.c (.i .i64 1)),none⟩,⟨some s131,.mv (.t s266),none⟩])))))))
 (.seq (.dreg [(0,⟨some s267,.ldn 2 (.t s007),none⟩,0,true),(1,⟨some s004,.mv (.c (.b true)),none⟩,0,false),(2,⟨none,.st 2 (.t s005) (.t s267),none⟩,3,true)])
 (.ret)))))))))⟩
/-- arbor/graph.Form -/
def g18 : AFunc := ⟨1,[.cell s002 true 2,.cell s003 true 2],
 (.seq (.reg [⟨some s001,.box 2 (.t s000),none⟩,⟨some s002,.new [(.i .i64 0),.nils],none⟩,⟨some s003,.new [(.i .i64 0),(.i .i64 0)],none⟩])
 (.seq (.seq (.reg [⟨some s005,.ldn 2 (.t s001),none⟩,⟨some s006,.call (.c (.fn 33 [])) [(.t s005)],none⟩,⟨some s004,.new [(.i .i64 0),(.i .i64 0)],none⟩,⟨none,.st 2 (.t s004) (.t s006),none⟩])
 (.seq (.reg [⟨some s007,.flda 0 (.t s004),none⟩,⟨some s010,.ld (.t s007),none⟩,⟨some s011,.eq .int true (.t s010) (.c (.i .i64 0)),none⟩])
 (.cond (.t s011) (.seq (.dreg [(0,⟨some s012,.build [(.i .i64 0),.nils] [],none⟩,0,false),(2,⟨none,.st 2 (.t s002) (.t s012),none⟩,1,false),(1,⟨some s013,.ldn 2 (.t s004),none⟩,0,false),(3,⟨none,.st 2 (.t s003) (.t s013),none⟩,7,true)])
  (.ret))
 (.skip))))
 (.seq (.reg [⟨some s014,.flda 0 (.t s001),none⟩,⟨some s015,.ld (.t s014),none⟩,⟨some s016,.flda 1 (.t s001),none⟩,⟨some s017,.ld (.t s016),none⟩,⟨some s020,.call (.c (.fn 34 [])) [(.t s015),(.t s017)],none⟩,⟨some s021,.build [(.i .i64 0),(.i .i64 0)] [],none⟩,⟨none,.st 2 (.t s002) (.t s020),none⟩,⟨none,.st 2 (.t s003) (.t s021),none⟩])
 (.ret))))⟩
/-- arbor/draw.fault -/
def g19 : AFunc := ⟨2,[.cell s004 true 2],
 (.seq (.reg [⟨some s004,.new [(.i .i64 0),(.i .i64 0)],none⟩])
 (.seq (.reg [⟨some s005,.mv (.t s000),none⟩,⟨some s006,.mv (.t s001),none⟩,⟨some s007,.build [(.i .i64 0),(.i .i64 0)] [(0,1,(.t s005)),(1,1,(.t s006))],none⟩,⟨none,.st 2 (.t s004) (.t s007),none⟩])
 (.ret)))⟩
/-- arbor/draw.shift -/
def g20 : AFunc := ⟨1,[.t s002],
 (.seq (.reg [⟨some s002,.mv (.c .nils),none⟩])
 (.seq (.reg [⟨some s030,.mv (.t s000),none⟩,⟨some s031,.call (.c (.fn 35 [])) [(.t s030)],none⟩,⟨some s003,.mv (.t s031),none⟩])
 (.seq (.reg [⟨some s032,.mv (.t s003),none⟩,⟨some s033,.len (.t s032),none⟩,⟨some s004,.mv (.t s033),none⟩])
 (.seq (.reg [⟨some s034,.mv (.t s004),none⟩,⟨some s035,.mks 2 16 [(.i .i64 0),(.i .i64 0)] (.t s034) (.t s034),none⟩,⟨some s005,.mv (.t s035),none⟩])
 (.seq (.reg [⟨some s036,.mv (.t s004),none⟩,⟨some s037,.mks 1 24 [.nils] (.t s036) (.t s036),none⟩,⟨some s006,.mv (.t s037),none⟩])
 (.seq (.seq (.reg [⟨some s040,.mv (.t s004),none⟩,⟨some s041,.mv (.c (.i .i64 0)),none⟩])
 (.block 0 (.loop (.seq (.reg [⟨some s042,.bin .lss (.t s041) (.t s040),none⟩])
   (.seq (.cond (.t s042) (.skip)
   (.exit 0))
   (.seq (.block 1 (.seq (.reg [⟨some s043,.mv (.t s041),none⟩,⟨some s007,.mv (.t s043),none⟩])
    (.reg [⟨some s044,.mv (.t s006),none⟩,⟨some s045,.mv (.t s007),none⟩,⟨some s046,.mv (.t s007),none⟩,⟨some s047,.bsl 1 1 [(.i .i64 0)] [(0,1,(.t s046))],none⟩,⟨some s050,.idxa 1 (.t s044) (.t s045),none⟩,⟨none,.st 1 (.t s050) (.t s047),none⟩])))
   (.reg [⟨some s051,.bin .add (.t s041) (.c (.i .i64 1)),none⟩,⟨some s041,.mv (.t s051),none⟩])))))))
 (.seq (.dreg [(0,⟨some s052,.mv (.t s005),none⟩,0,false),(1,⟨some s053,.mv (.t s003),none⟩,0,false),(2,⟨some s054,.idxa 1 (.t s053) (.c (.i .i64 0)),none⟩,2,false),(3,⟨some s055,.ld (.t s054),none⟩,6,false),(5,⟨some s057,.mv (.t s003),none⟩,0,false),(6,⟨some s060,.idxa 1 (.t s057) (.c (.i .i64 1)),none⟩,32,false),(7,⟨some s061,.ld (.t s060),none⟩,96,false),(9,⟨some s063,.mv (.t s003),none⟩,0,false),(10,⟨some s064,.idxa 1 (.t s063) (.c (.i .i64 2)),none⟩,512,false),(11,⟨some s065,.ld (.t s064),none⟩,1536,false),(12,⟨some s066,.build [(.i .i64 0),(.i .i64 0)] [],none⟩,0,false),(15,⟨some s071,.idxa 2 (.t s052) (.t s055),none⟩,7919,true),(16,⟨none,.st 2 (.t s071) (.t s066),none⟩,40687,true),(4,⟨some s056,.mv (.t s005),none⟩,0,false),(13,⟨some s067,.build [(.i .i64 0),(.i .i64 0)] [(0,1,(.c (.i .i64 2)))],none⟩,0,false),(17,⟨some s072,.idxa 2 (.t s056) (.t s061),none⟩,114431,true),(18,⟨none,.st 2 (.t s072) (.t s067),none⟩,245503,true),(8,⟨some s062,.mv (.t s005),none⟩,0,false),(14,⟨some s070,.build [(.i .i64 0),(.i .i64 0)] [(0,1,(.c (.i .i64 1))),(1,1,(.c (.i .i64 1)))],none⟩,0,false),(19,⟨some s073,.idxa 2 (.t s062) (.t s065),none⟩,524287,true),(20,⟨none,.st 2 (.t s073) (.t s070),none⟩,1048575,true)])
 (.seq (.dreg [(0,⟨some s074,.mv (.t s003),none⟩,0,false),(1,⟨some s075,.idxa 1 (.t s074) (.c (.i .i64 0)),none⟩,1,false),(2,⟨some s076,.ld (.t s075),none⟩,3,false),(3,⟨some s077,.mv (.t s003),none⟩,0,false),(4,⟨some s100,.idxa 1 (.t s077) (.c (.i .i64 2)),none⟩,8,false),(5,⟨some s101,.ld (.t s100),none⟩,24,false),(6,⟨some s102,.mv (.t s003),none⟩,0,false),(7,⟨some s103,.idxa 1 (.t s102) (.c (.i .i64 1)),none⟩,64,false),(8,⟨some s104,.ld (.t s103),none⟩,192,false),(9,⟨some s105,.bsl 1 3 [(.i .i64 0),(.i .i64 0),(.i .i64 0)] [(0,1,(.t s076)),(1,1,(.t s101)),(2,1,(.t s104))],none⟩,511,true),(10,⟨some s010,.mv (.t s105),none⟩,1023,true)])
 (.seq (.seq (.reg [⟨some s106,.mv (.t s003),none⟩,⟨some s107,.slice 1 (.t s106) (some (.c (.i .i64 3))) none none,none⟩,⟨some s110,.len (.t s107),none⟩,⟨some s111,.mv (.c (.i .i64 0)),none⟩])
 (.block 2 (.loop (.seq (.reg [⟨some s112,.bin .lss (.t s111) (.t s110),none⟩])
   (.seq (.cond (.t s112) (.skip)
   (.exit 2))
   (.seq (.block 3 (.seq (.reg [⟨some s113,.idxa 1 (.t s107) (.t s111),none⟩,⟨some s114,.ld (.t s113),none⟩,⟨some s012,.mv (.t s114),none⟩])
    (.seq (.reg [⟨some s013,.mv (.c (.i .i64 (-1))),none⟩,⟨some s014,.mv (.c (.i .i64 (-1))),none⟩])
    (.seq (.seq (.reg [⟨some s115,.mv (.t s010),none⟩,⟨some s116,.len (.t s115),none⟩,⟨some s117,.mv (.c (.i .i64 0)),none⟩])
    (.block 4 (.loop (.seq (.reg [⟨some s120,.bin .lss (.t s117) (.t s116),none⟩])
      (.seq (.cond (.t s120) (.skip)
      (.exit 4))
      (.seq (.block 5 (.seq (.reg [⟨some s121,.mv (.t s117),none⟩,⟨some s122,.idxa 1 (.t s115) (.t s117),none⟩,⟨some s123,.ld (.t s122),none⟩,⟨some s015,.mv (.t s121),none⟩,⟨some s016,.mv (.t s123),none⟩])
       (.seq (.reg [⟨some s124,.mv (.t s000),none⟩,⟨some s125,.mv (.t s012),none⟩,⟨some s126,.idxa 1 (.t s124) (.t s125),none⟩,⟨some s127,.ld (.t s126),none⟩,⟨some s130,.mv (.t s016),none⟩,⟨some s131,.call (.c (.fn 36 [])) [(.t s127),(.t s130)],none⟩])
       (.cond (.t s131) (.seq (.seq (.reg [⟨some s132,.mv (.t s013),none⟩,⟨some s133,.bin .lss (.t s132) (.c (.i .i64 0)),none⟩])
        (.cond (.t s133) (.reg [⟨some s134,.mv (.t s015),none⟩,⟨some s013,.mv (.t s134),none⟩])
        (.skip)))
        (.reg [⟨some s135,.mv (.t s015),none⟩,⟨some s014,.mv (.t s135),none⟩]))
       (.skip)))))
      (.reg [⟨some s136,.bin .add (.t s117) (.c (.i .i64 1)),none⟩,⟨some s117,.mv (.t s136),none⟩])))))))
    (.seq (.seq (.reg [⟨some s137,.mv (.t s010),none⟩,⟨some s140,.len (.t s137),none⟩,⟨some s141,.mv (.c (.i .i64 0)),none⟩])
    (.block 6 (.loop (.seq (.reg [⟨some s142,.bin .lss (.t s141) (.t s140),none⟩])
      (.seq (.cond (.t s142) (.skip)
      (.exit 6))
      (.seq (.block 7 (.seq (.reg [⟨some s143,.mv (.t s141),none⟩,⟨some s144,.idxa 1 (.t s137) (.t s141),none⟩,⟨some s145,.ld (.t s144),none⟩,⟨some s017,.mv (.t s143),none⟩,⟨some s020,.mv (.t s145),none⟩])
       (.seq (.reg [⟨some s021,.mv (.c (.i .i64 0)),none⟩])
       (.seq (.seq (.reg [⟨some s146,.mv (.t s017),none⟩,⟨some s147,.mv (.t s013),none⟩,⟨some s150,.bin .gtr (.t s146) (.t s147),none⟩])
       (.cond (.t s150) (.reg [⟨some s021,.mv (.c (.i .i64 1)),none⟩])
       (.skip)))
       (.seq (.seq (.reg [⟨some s151,.mv (.t s017),none⟩,⟨some s152,.mv (.t s014),none⟩,⟨some s153,.bin .geq (.t s151) (.t s152),none⟩])
       (.cond (.t s153) (.reg [⟨some s021,.mv (.c (.i .i64 2)),none⟩])
       (.skip)))
       (.seq (.reg [⟨some s154,.mv (.t s006),none⟩,⟨some s155,.mv (.t s020),none⟩,⟨some s156,.idxa 1 (.t s154) (.t s155),none⟩,⟨some s157,.ld (.t s156),none⟩,⟨some s160,.len (.t s157),none⟩,⟨some s161,.mv (.c (.i .i64 0)),none⟩])
       (.block 8 (.loop (.seq (.reg [⟨some s162,.bin .lss (.t s161) (.t s160),none⟩])
         (.seq (.cond (.t s162) (.skip)
         (.exit 8))
         (.seq (.block 9 (.seq (.reg [⟨some s163,.idxa 1 (.t s157) (.t s161),none⟩,⟨some s164,.ld (.t s163),none⟩,⟨some s023,.mv (.t s164),none⟩])
          (.reg [⟨some s165,.mv (.t s005),none⟩,⟨some s166,.mv (.t s023),none⟩,⟨some s167,.idxa 2 (.t s165) (.t s166),none⟩,⟨some s170,.flda 0 (.t s167),none⟩,⟨some s171,.ld (.t s170),none⟩,⟨some s172,.mv (.t s021),none⟩,⟨some s173,.bin .add (.t s171) (.t s172),none⟩,⟨some s174,.idxa 2 (.t s165) (.t s166),none⟩,⟨some s175,.flda 0 (.t s174),none⟩,⟨none,.st 1 (.t s175) (.t s173),none⟩])))
         (.reg [⟨some s176,.bin .add (.t s161) (.c (.i .i64 1)),none⟩,⟨some s161,.mv (.t s176),none⟩]))))))))))))
      (.reg [⟨some s177,.bin .add (.t s141) (.c (.i .i64 1)),none⟩,⟨some s141,.mv (.t s177),none⟩])))))))
    (.seq (.dreg [(0,⟨some s200,.mv (.t s005),none⟩,0,false),(1,⟨some s201,.mv (.t s010),none⟩,0,false),(2,⟨some s202,.mv (.t s013),none⟩,0,false),(3,⟨some s203,.idxa 1 (.t s201) (.t s202),none⟩,6,false),(4,⟨some s204,.ld (.t s203),none⟩,14,false),(5,⟨some s205,.idxa 2 (.t s200) (.t s204),none⟩,31,false),(6,⟨some s206,.ldn 2 (.t s205),none⟩,63,false),(14,⟨some s024,.new [(.i .i64 0),(.i .i64 0)],none⟩,0,false),(15,⟨some s025,.new [(.i .i64 0),(.i .i64 0)],none⟩,0,false),(16,⟨none,.st 2 (.t s024) (.t s206),none⟩,49279,false),(7,⟨some s207,.mv (.t s005),none⟩,0,false),(8,⟨some s210,.mv (.t s010),none⟩,0,false),(9,⟨some s211,.mv (.t s014),none⟩,0,false),(10,⟨some s212,.idxa 1 (.t s210) (.t s211),none⟩,768,false),(11,⟨some s213,.ld (.t s212),none⟩,1792,false),(12,⟨some s214,.idxa 2 (.t s207) (.t s213),none⟩,3968,false),(13,⟨some s215,.ldn 2 (.t s214),none⟩,8064,false),(17,⟨none,.st 2 (.t s025) (.t s215),none⟩,131071,true)])
    (.seq (.reg [⟨some s216,.mv (.t s005),none⟩,⟨some s217,.mv (.t s012),none⟩,⟨some s220,.flda 0 (.t s025),none⟩,⟨some s221,.ld (.t s220),none⟩,⟨some s222,.flda 0 (.t s024),none⟩,⟨some s223,.ld (.t s222),none⟩,⟨some s224,.bin .add (.t s221) (.t s223),none⟩,⟨some s225,.flda 1 (.t s025),none⟩,⟨some s226,.ld (.t s225),none⟩,⟨some s227,.bin .add (.t s224) (.t s226),none⟩,⟨some s230,.flda 1 (.t s024),none⟩,⟨some s231,.ld (.t s230),none⟩,⟨some s232,.bin .sub (.t s227) (.t s231),none⟩,⟨some s233,.bin .quo (.t s232) (.c (.i .i64 2)),none⟩,⟨some s234,.flda 0 (.t s025),none⟩,⟨some s235,.ld (.t s234),none⟩,⟨some s236,.flda 0 (.t s024),none⟩,⟨some s237,.ld (.t s236),none⟩,⟨some s240,.bin .sub (.t s235) (.t s237),none⟩,⟨some s241,.flda 1 (.t s025),none⟩,⟨some s242,.ld (.t s241),none⟩,⟨some s243,.bin .add (.t s240) (.t s242),none⟩,⟨some s244,.flda 1 (.t s024),none⟩,⟨some s245,.ld (.t s244),none⟩,⟨some s246,.bin .add (.t s243) (.t s245),none⟩,⟨some s247,.bin .quo (.t s246) (.c (.i .i64 2)),none⟩,⟨some s250,.build [(.i .i64 0),(.i .i64 0)] [(0,1,(.t s233)),(1,1,(.t s247))],none⟩,⟨some s251,.idxa 2 (.t s216) (.t s217),none⟩,⟨none,.st 2 (.t s251) (.t s250),none⟩])
    (.seq (.seq (.reg [⟨some s252,.mv (.t s010),none⟩,⟨some s253,.mv (.t s013),none⟩,⟨some s254,.bin .add (.t s253) (.c (.i .i64 1)),none⟩,⟨some s255,.mv (.t s014),none⟩,⟨some s256,.slice 1 (.t s252) (some (.t s254)) (some (.t s255)) none,none⟩,⟨some s257,.len (.t s256),none⟩,⟨some s260,.mv (.c (.i .i64 0)),none⟩])
    (.block 10 (.loop (.seq (.reg [⟨some s261,.bin .lss (.t s260) (.t s257),none⟩])
      (.seq (.cond (.t s261) (.skip)
      (.exit 10))
      (.seq (.block 11 (.seq (.reg [⟨some s262,.idxa 1 (.t s256) (.t s260),none⟩,⟨some s263,.ld (.t s262),none⟩,⟨some s027,.mv (.t s263),none⟩])
       (.dreg [(2,⟨some s266,.mv (.t s006),none⟩,0,false),(3,⟨some s267,.mv (.t s012),none⟩,0,false),(4,⟨some s270,.idxa 1 (.t s266) (.t s267),none⟩,12,false),(5,⟨some s271,.ld (.t s270),none⟩,28,false),(6,⟨some s272,.mv (.t s006),none⟩,0,false),(7,⟨some s273,.mv (.t s027),none⟩,0,false),(8,⟨some s274,.idxa 1 (.t s272) (.t s273),none⟩,192,false),(9,⟨some s275,.ld (.t s274),none⟩,448,false),(10,⟨some s276,.app 1 8 (.t s271) (.t s275),none⟩,1020,true),(0,⟨some s264,.mv (.t s006),none⟩,0,false),(1,⟨some s265,.mv (.t s012),none⟩,0,false),(11,⟨some s277,.idxa 1 (.t s264) (.t s265),none⟩,2047,true),(12,⟨none,.st 1 (.t s277) (.t s276),none⟩,4095,true)])))
      (.reg [⟨some s300,.bin .add (.t s260) (.c (.i .i64 1)),none⟩,⟨some s260,.mv (.t s300),none⟩])))))))
    (.dreg [(0,⟨some s301,.mv (.t s010),none⟩,0,false),(1,⟨some s302,.mv (.t s013),none⟩,0,false),(2,⟨some s303,.bin .add (.t s302) (.c (.i .i64 1)),none⟩,2,false),(3,⟨some s304,.slice 1 (.t s301) none (some (.t s303)) none,none⟩,7,false),(4,⟨some s305,.mv (.t s012),none⟩,0,true),(5,⟨some s306,.bsl 1 1 [(.i .i64 0)] [(0,1,(.t s305))],none⟩,16,true),(6,⟨some s307,.mv (.t s010),none⟩,0,false),(7,⟨some s310,.mv (.t s014),none⟩,0,false),(8,⟨some s311,.slice 1 (.t s307) (some (.t s310)) none none,none⟩,192,false),(9,⟨some s312,.bsl 1 3 [.nils,.nils,.nils] [(0,1,(.t s304)),(1,1,(.t s306)),(2,1,(.t s311))],none⟩,511,true),(10,⟨some s313,.call (.c (.fn 37 [])) [(.t s312)],none⟩,1023,true),(11,⟨some s010,.mv (.t s313),none⟩,2047,true)])))))))))
   (.reg [⟨some s314,.bin .add (.t s111) (.c (.i .i64 1)),none⟩,⟨some s111,.mv (.t s314),none⟩])))))))
 (.seq (.reg [⟨some s315,.mv (.t s005),none⟩,⟨some s002,.mv (.t s315),none⟩])
 (.ret)))))))))))⟩
/-- arbor/draw.fill -/
def g21 : AFunc := ⟨1,[.t s002],
 (.seq (.reg [⟨some s001,.box 2 (.t s000),none⟩,⟨some s002,.mv (.c .nils),none⟩])
 (.seq (.reg [⟨some s015,.ldn 2 (.t s001),none⟩,⟨some s016,.call (.c (.fn 38 [])) [(.t s015)],none⟩,⟨some s003,.mv (.t s016),none⟩])
 (.seq (.seq (.reg [⟨some s017,.flda 0 (.t s001),none⟩,⟨some s020,.ld (.t s017),none⟩,⟨some s021,.mv (.c (.i .i64 0)),none⟩])
 (.block 0 (.loop (.seq (.reg [⟨some s022,.bin .lss (.t s021) (.t s020),none⟩])
   (.seq (.cond (.t s022) (.skip)
   (.exit 0))
   (.seq (.block 1 (.seq (.reg [⟨some s023,.mv (.t s021),none⟩,⟨some s004,.mv (.t s023),none⟩])
    (.seq (.reg [⟨some s024,.mv (.t s004),none⟩,⟨some s025,.mv (.c (.i .i64 0)),none⟩])
    (.block 2 (.loop (.seq (.reg [⟨some s026,.bin .lss (.t s025) (.t s024),none⟩])
      (.seq (.cond (.t s026) (.skip)
      (.exit 2))
      (.seq (.block 3 (.seq (.reg [⟨some s027,.mv (.t s025),none⟩,⟨some s005,.mv (.t s027),none⟩])
       (.seq (.seq (.reg [⟨some s030,.mv (.t s003),none⟩,⟨some s031,.mv (.t s004),none⟩,⟨some s032,.idxa 1 (.t s030) (.t s031),none⟩,⟨some s033,.ld (.t s032),none⟩,⟨some s034,.mv (.t s005),none⟩,⟨some s035,.idxa 1 (.t s033) (.t s034),none⟩,⟨some s036,.ld (.t s035),none⟩])
       (.cond (.t s036) (.exit 3)
       (.skip)))
       (.seq (.dreg [(2,⟨some s041,.flda 1 (.t s001),none⟩,0,false),(3,⟨some s042,.ld (.t s041),none⟩,4,false),(4,⟨some s043,.call (.c (.fn 25 [])) [(.t s042)],none⟩,12,false),(5,⟨some s044,.mv (.t s005),none⟩,0,false),(6,⟨some s045,.mv (.t s004),none⟩,0,false),(7,⟨some s046,.build [(.i .i64 0),(.i .i64 0)] [(0,1,(.t s044)),(1,1,(.t s045))],none⟩,96,false),(8,⟨some s047,.bsl 2 1 [(.i .i64 0),(.i .i64 0)] [(0,2,(.t s046))],none⟩,224,false),(9,⟨some s050,.app 2 16 (.t s043) (.t s047),none⟩,508,false),(0,⟨some s037,.flda 0 (.t s001),none⟩,0,false),(1,⟨some s040,.ld (.t s037),none⟩,1,false),(10,⟨some s051,.call (.c (.fn 34 [])) [(.t s040),(.t s050)],none⟩,1023,false),(11,⟨some s006,.new [(.i .i64 0),.nils],none⟩,0,false),(12,⟨none,.st 2 (.t s006) (.t s051),none⟩,4095,true)])
       (.seq (.reg [⟨some s053,.ldn 2 (.t s006),none⟩,⟨some s054,.call (.c (.fn 10 [])) [(.t s053)],none⟩,⟨some s052,.mv (.t s054),none⟩,⟨some s055,.ext (.t s052) 0,none⟩,⟨some s056,.ext (.t s052) 1,none⟩,⟨some s057,.ext (.t s052) 2,none⟩,⟨some s011,.new [(.i .i64 0),(.i .i64 0)],none⟩,⟨some s007,.mv (.t s055),none⟩,⟨some s010,.mv (.t s056),none⟩,⟨none,.st 2 (.t s011) (.t s057),none⟩])
       (.seq (.reg [⟨some s060,.mv (.t s007),none⟩,⟨some s061,.len (.t s060),none⟩,⟨some s062,.flda 0 (.t s001),none⟩,⟨some s063,.ld (.t s062),none⟩,⟨some s064,.eq .int false (.t s061) (.t s063),none⟩])
       (.cond (.t s064) (.reg [⟨some s065,.ldn 2 (.t s006),none⟩,⟨none,.st 2 (.t s001) (.t s065),none⟩])
       (.skip))))))))
      (.reg [⟨some s066,.bin .add (.t s025) (.c (.i .i64 1)),none⟩,⟨some s025,.mv (.t s066),none⟩])))))))))
   (.reg [⟨some s067,.bin .add (.t s021) (.c (.i .i64 1)),none⟩,⟨some s021,.mv (.t s067),none⟩])))))))
 (.seq (.reg [⟨some s071,.ldn 2 (.t s001),none⟩,⟨some s072,.call (.c (.fn 10 [])) [(.t s071)],none⟩,⟨some s070,.mv (.t s072),none⟩,⟨some s073,.ext (.t s070) 0,none⟩,⟨some s074,.ext (.t s070) 1,none⟩,⟨some s075,.ext (.t s070) 2,none⟩,⟨some s014,.new [(.i .i64 0),(.i .i64 0)],none⟩,⟨some s012,.mv (.t s073),none⟩,⟨some s013,.mv (.t s074),none⟩,⟨none,.st 2 (.t s014) (.t s075),none⟩])
 (.seq (.reg [⟨some s076,.mv (.t s012),none⟩,⟨some s002,.mv (.t s076),none⟩])
 (.ret))))))⟩
/-- arbor/arborlaw.full -/
def g22 : AFunc := ⟨1,[.cell s002 true 2],
 (.seq (.reg [⟨some s002,.new [(.i .i64 0),.nils],none⟩])
 (.seq (.reg [⟨some s003,.mv (.t s000),none⟩,⟨some s004,.build [(.i .i64 0),.nils] [(0,1,(.t s003))],none⟩,⟨some s005,.call (.c (.fn 13 [])) [(.t s004)],none⟩,⟨some s006,.call (.c (.fn 40 [])) [(.t s005)],none⟩,⟨some s007,.call (.c (.fn 39 [])) [(.t s006)],none⟩,⟨none,.st 2 (.t s002) (.t s007),none⟩])
 (.ret)))⟩
/-- arbor/plane.embed -/
def g24 : AFunc := ⟨1,[.t s002],
 (.seq (.reg [⟨some s001,.box 2 (.t s000),none⟩,⟨some s002,.mv (.c .nils),none⟩])
 (.seq (.reg [⟨some s024,.ldn 2 (.t s001),none⟩,⟨some s025,.call (.c (.fn 41 [])) [(.t s024)],none⟩,⟨some s023,.mv (.t s025),none⟩,⟨some s026,.ext (.t s023) 0,none⟩,⟨some s027,.ext (.t s023) 1,none⟩,⟨some s004,.new [(.i .i64 0),(.i .i64 0)],none⟩,⟨some s003,.mv (.t s026),none⟩,⟨none,.st 2 (.t s004) (.t s027),none⟩])
 (.seq (.reg [⟨some s030,.flda 0 (.t s001),none⟩,⟨some s031,.ld (.t s030),none⟩,⟨some s032,.mks 1 24 [.nils] (.t s031) (.t s031),none⟩,⟨some s005,.mv (.t s032),none⟩])
 (.seq (.seq (.reg [⟨some s033,.mv (.t s003),none⟩,⟨some s034,.len (.t s033),none⟩,⟨some s035,.mv (.c (.i .i64 0)),none⟩])
 (.block 0 (.loop (.seq (.reg [⟨some s036,.bin .lss (.t s035) (.t s034),none⟩])
   (.seq (.cond (.t s036) (.skip)
   (.exit 0))
   (.seq (.block 1 (.seq (.reg [⟨some s037,.idxa 1 (.t s033) (.t s035),none⟩,⟨some s040,.ld (.t s037),none⟩,⟨some s007,.mv (.t s040),none⟩])
    (.seq (.seq (.reg [⟨some s041,.mv (.t s007),none⟩,⟨some s042,.len (.t s041),none⟩,⟨some s043,.eq .int false (.t s042) (.c (.i .i64 1)),none⟩])
    (.cond (.t s043) (.seq (.dreg [(5,⟨some s051,.mv (.t s005),none⟩,0,false),(6,⟨some s052,.mv (.t s007),none⟩,0,false),(7,⟨some s053,.idxa 2 (.t s052) (.c (.i .i64 0)),none⟩,64,false),(8,⟨some s054,.idxp 2 1 (.t s053) (.c (.i .i64 0)),none⟩,192,false),(9,⟨some s055,.ld (.t s054),none⟩,448,false),(10,⟨some s056,.idxa 1 (.t s051) (.t s055),none⟩,992,false),(11,⟨some s057,.ld (.t s056),none⟩,2016,false),(12,⟨some s060,.mv (.t s007),none⟩,0,false),(13,⟨some s061,.idxa 2 (.t s060) (.c (.i .i64 0)),none⟩,4096,false),(14,⟨some s062,.idxp 2 1 (.t s061) (.c (.i .i64 1)),none⟩,12288,false),(15,⟨some s063,.ld (.t s062),none⟩,28672,false),(16,⟨some s064,.bsl 1 1 [(.i .i64 0)] [(0,1,(.t s063))],none⟩,61440,false),(17,⟨some s065,.app 1 8 (.t s057) (.t s064),none⟩,131040,false),(0,⟨some s044,.mv (.t s005),none⟩,0,false),(1,⟨some s045,.mv (.t s007),none⟩,0,false),(2,⟨some s046,.idxa 2 (.t s045) (.c (.i .i64 0)),none⟩,2,false),(3,⟨some s047,.idxp 2 1 (.t s046) (.c (.i .i64 0)),none⟩,6,false),(4,⟨some s050,.ld (.t s047),none⟩,14,false),(18,⟨some s066,.idxa 1 (.t s044) (.t s050),none⟩,262143,true),(19,⟨none,.st 1 (.t s066) (.t s065),none⟩,524287,true)])
     (.seq (.dreg [(5,⟨some s074,.mv (.t s005),none⟩,0,false),(6,⟨some s075,.mv (.t s007),none⟩,0,false),(7,⟨some s076,.idxa 2 (.t s075) (.c (.i .i64 0)),none⟩,64,false),(8,⟨some s077,.idxp 2 1 (.t s076) (.c (.i .i64 1)),none⟩,192,false),(9,⟨some s100,.ld (.t s077),none⟩,448,false),(10,⟨some s101,.idxa 1 (.t s074) (.t s100),none⟩,992,false),(11,⟨some s102,.ld (.t s101),none⟩,2016,false),(12,⟨some s103,.mv (.t s007),none⟩,0,false),(13,⟨some s104,.idxa 2 (.t s103) (.c (.i .i64 0)),none⟩,4096,false),(14,⟨some s105,.idxp 2 1 (.t s104) (.c (.i .i64 0)),none⟩,12288,false),(15,⟨some s106,.ld (.t s105),none⟩,28672,false),(16,⟨some s107,.bsl 1 1 [(.i .i64 0)] [(0,1,(.t s106))],none⟩,61440,false),(17,⟨some s110,.app 1 8 (.t s102) (.t s107),none⟩,131040,false),(0,⟨some s067,.mv (.t s005),none⟩,0,false),(1,⟨some s070,.mv (.t s007),none⟩,0,false),(2,⟨some s071,.idxa 2 (.t s070) (.c (.i .i64 0)),none⟩,2,false),(3,⟨some s072,.idxp 2 1 (.t s071) (.c (.i .i64 1)),none⟩,6,false),(4,⟨some s073,.ld (.t s072),none⟩,14,false),(18,⟨some s111,.idxa 1 (.t s067) (.t s073),none⟩,262143,true),(19,⟨none,.st 1 (.t s111) (.t s110),none⟩,524287,true)])
     (.exit 1)))
    (.skip)))
    (.seq (.reg [⟨some s112,.flda 0 (.t s001),none⟩,⟨some s113,.ld (.t s112),none⟩,⟨some s114,.mv (.t s007),none⟩,⟨some s115,.call (.c (.fn 42 [])) [(.t s113),(.t s114)],none⟩,⟨some s010,.mv (.t s115),none⟩])
    (.seq (.seq (.reg [⟨some s116,.mv (.t s010),none⟩,⟨some s117,.eq .slice false (.t s116) (.c .nils),none⟩])
    (.cond (.t s117) (.seq (.reg [⟨some s002,.mv (.c .nils),none⟩])
     (.ret))
    (.skip)))
    (.seq (.reg [⟨some s120,.mkmap,none⟩,⟨some s011,.mv (.t s120),none⟩])
    (.seq (.seq (.reg [⟨some s121,.mv (.t s010),none⟩,⟨some s122,.len (.t s121),none⟩,⟨some s123,.mv (.c (.i .i64 0)),none⟩])
    (.block 2 (.loop (.seq (.reg [⟨some s124,.bin .lss (.t s123) (.t s122),none⟩])
      (.seq (.cond (.t s124) (.skip)
      (.exit 2))
      (.seq (.block 3 (.seq (.reg [⟨some s125,.idxa 1 (.t s121) (.t s123),none⟩,⟨some s126,.ld (.t s125),none⟩,⟨some s013,.mv (.t s126),none⟩])
       (.seq (.reg [⟨some s127,.mv (.t s013),none⟩,⟨some s130,.len (.t s127),none⟩,⟨some s131,.mv (.c (.i .i64 0)),none⟩])
       (.block 4 (.loop (.seq (.reg [⟨some s132,.bin .lss (.t s131) (.t s130),none⟩])
         (.seq (.cond (.t s132) (.skip)
         (.exit 4))
         (.seq (.block 5 (.seq (.reg [⟨some s133,.mv (.t s131),none⟩,⟨some s134,.idxa 1 (.t s127) (.t s131),none⟩,⟨some s135,.ld (.t s134),none⟩,⟨some s014,.mv (.t s133),none⟩,⟨some s015,.mv (.t s135),none⟩])
          (.dreg [(0,⟨some s136,.mv (.t s011),none⟩,0,false),(1,⟨some s137,.mv (.t s015),none⟩,0,false),(2,⟨some s140,.mv (.t s013),none⟩,0,false),(3,⟨some s141,.mv (.t s014),none⟩,0,false),(4,⟨some s142,.mv (.t s013),none⟩,0,false),(5,⟨some s143,.len (.t s142),none⟩,16,false),(6,⟨some s144,.bin .add (.t s141) (.t s143),none⟩,56,false),(7,⟨some s145,.bin .sub (.t s144) (.c (.i .i64 1)),none⟩,120,false),(8,⟨some s146,.mv (.t s013),none⟩,0,false),(9,⟨some s147,.len (.t s146),none⟩,256,false),(10,⟨some s150,.bin .rem (.t s145) (.t s147),none⟩,1016,false),(11,⟨some s151,.idxa 1 (.t s140) (.t s150),none⟩,2044,false),(12,⟨some s152,.ld (.t s151),none⟩,4092,false),(13,⟨some s153,.build [(.i .i64 0),(.i .i64 0)] [(0,1,(.t s137)),(1,1,(.t s152))],none⟩,8190,false),(14,⟨some s154,.mv (.t s013),none⟩,0,false),(15,⟨some s155,.mv (.t s014),none⟩,0,false),(16,⟨some s156,.bin .add (.t s155) (.c (.i .i64 1)),none⟩,32768,false),(17,⟨some s157,.mv (.t s013),none⟩,0,false),(18,⟨some s160,.len (.t s157),none⟩,131072,false),(19,⟨some s161,.bin .rem (.t s156) (.t s160),none⟩,491520,false),(20,⟨some s162,.idxa 1 (.t s154) (.t s161),none⟩,1032192,false),(21,⟨some s163,.ld (.t s162),none⟩,2080768,false),(22,⟨none,.mapup (.ints 2) (.t s136) (.t s153) (.t s163),none⟩,4194303,true)])))
         (.reg [⟨some s164,.bin .add (.t s131) (.c (.i .i64 1)),none⟩,⟨some s131,.mv (.t s164),none⟩])))))))))
      (.reg [⟨some s165,.bin .add (.t s123) (.c (.i .i64 1)),none⟩,⟨some s123,.mv (.t s165),none⟩])))))))
    (.seq (.reg [⟨some s166,.flda 0 (.t s001),none⟩,⟨some s167,.ld (.t s166),none⟩,⟨some s170,.mv (.c (.i .i64 0)),none⟩])
    (.block 6 (.loop (.seq (.reg [⟨some s171,.bin .lss (.t s170) (.t s167),none⟩])
      (.seq (.cond (.t s171) (.skip)
      (.exit 6))
      (.seq (.block 7 (.seq (.reg [⟨some s172,.mv (.t s170),none⟩,⟨some s016,.mv (.t s172),none⟩])
       (.seq (.reg [⟨some s017,.mv (.c (.i .i64 (-1))),none⟩])
       (.seq (.seq (.reg [⟨some s173,.mv (.t s007),none⟩,⟨some s174,.len (.t s173),none⟩,⟨some s175,.mv (.c (.i .i64 0)),none⟩])
       (.block 8 (.loop (.seq (.reg [⟨some s176,.bin .lss (.t s175) (.t s174),none⟩])
         (.seq (.cond (.t s176) (.skip)
         (.exit 8))
         (.seq (.block 9 (.seq (.reg [⟨some s177,.idxa 2 (.t s173) (.t s175),none⟩,⟨some s200,.ldn 2 (.t s177),none⟩,⟨some s021,.new [(.i .i64 0),(.i .i64 0)],none⟩,⟨none,.st 2 (.t s021) (.t s200),none⟩])
          (.seq (.reg [⟨some s201,.mv (.t s017),none⟩,⟨some s202,.bin .lss (.t s201) (.c (.i .i64 0)),none⟩,⟨some s203,.mv (.t s202),none⟩,⟨some s204,.idxp 2 1 (.t s021) (.c (.i .i64 0)),(some (s203,true))⟩,⟨some s205,.ld (.t s204),(some (s203,true))⟩,⟨some s206,.mv (.t s016),(some (s203,true))⟩,⟨some s207,.eq .int false (.t s205) (.t s206),(some (s203,true))⟩,⟨some s210,.pick (.t s203) (.t s207) (.c (.b false)),none⟩])
          (.cond (.t s210) (.reg [⟨some s211,.idxp 2 1 (.t s021) (.c (.i .i64 1)),none⟩,⟨some s212,.ld (.t s211),none⟩,⟨some s017,.mv (.t s212),none⟩])
          (.seq (.reg [⟨some s213,.mv (.t s017),none⟩,⟨some s214,.bin .lss (.t s213) (.c (.i .i64 0)),none⟩,⟨some s215,.mv (.t s214),none⟩,⟨some s216,.idxp 2 1 (.t s021) (.c (.i .i64 1)),(some (s215,true))⟩,⟨some s217,.ld (.t s216),(some (s215,true))⟩,⟨some s220,.mv (.t s016),(some (s215,true))⟩,⟨some s221,.eq .int false (.t s217) (.t s220),(some (s215,true))⟩,⟨some s222,.pick (.t s215) (.t s221) (.c (.b false)),none⟩])
           (.cond (.t s222) (.reg [⟨some s223,.idxp 2 1 (.t s021) (.c (.i .i64 0)),none⟩,⟨some s224,.ld (.t s223),none⟩,⟨some s017,.mv (.t s224),none⟩])
           (.skip)))))))
         (.reg [⟨some s225,.bin .add (.t s175) (.c (.i .i64 1)),none⟩,⟨some s175,.mv (.t s225),none⟩])))))))
       (.seq (.seq (.reg [⟨some s226,.mv (.t s017),none⟩,⟨some s227,.bin .lss (.t s226) (.c (.i .i64 0)),none⟩])
       (.cond (.t s227) (.exit 7)
       (.skip)))
       (.seq (.reg [⟨some s230,.mv (.t s017),none⟩,⟨some s022,.mv (.t s230),none⟩])
       (.block 10 (.loop (.block 11 (.seq (.reg [⟨some s231,.mv (.t s005),none⟩,⟨some s232,.mv (.t s016),none⟩,⟨some s233,.mv (.t s005),none⟩,⟨some s234,.mv (.t s016),none⟩,⟨some s235,.idxa 1 (.t s233) (.t s234),none⟩,⟨some s236,.ld (.t s235),none⟩,⟨some s237,.mv (.t s022),none⟩,⟨some s240,.bsl 1 1 [(.i .i64 0)] [(0,1,(.t s237))],none⟩,⟨some s241,.app 1 8 (.t s236) (.t s240),none⟩,⟨some s242,.idxa 1 (.t s231) (.t s232),none⟩,⟨none,.st 1 (.t s242) (.t s241),none⟩])
          (.seq (.reg [⟨some s243,.mv (.t s011),none⟩,⟨some s244,.mv (.t s016),none⟩,⟨some s245,.mv (.t s022),none⟩,⟨some s246,.build [(.i .i64 0),(.i .i64 0)] [(0,1,(.t s244)),(1,1,(.t s245))],none⟩,⟨some s247,.lookup (.i .i64 0) false (.ints 2) (.t s243) (.t s246),none⟩,⟨some s022,.mv (.t s247),none⟩])
          (.seq (.reg [⟨some s250,.mv (.t s022),none⟩,⟨some s251,.mv (.t s017),none⟩,⟨some s252,.eq .int false (.t s250) (.t s251),none⟩])
          (.cond (.t s252) (.exit 10)
          (.skip))))))))))))))
      (.reg [⟨some s253,.bin .add (.t s170) (.c (.i .i64 1)),none⟩,⟨some s170,.mv (.t s253),none⟩]))))))))))))))
   (.reg [⟨some s254,.bin .add (.t s035) (.c (.i .i64 1)),none⟩,⟨some s035,.mv (.t s254),none⟩])))))))
 (.seq (.reg [⟨some s255,.mv (.t s005),none⟩,⟨some s002,.mv (.t s255),none⟩])
 (.ret))))))⟩
/-- slices.Clone[[][2]int,[2]int] -/
def g25 : AFunc := ⟨1,[.t s002],
 (.seq (.reg [⟨some s002,.mv (.c .nils),none⟩])
 (.seq (.seq (.reg [⟨some s003,.mv (.t s000),none⟩,⟨some s004,.eq .slice false (.t s003) (.c .nils),none⟩])
 (.cond (.t s004) (.seq (.reg [⟨some s002,.mv (.c .nils),none⟩])
  (.ret))
 (.skip)))
 (.seq (.reg [⟨some s005,.bsl 2 0 [] [],none⟩,⟨some s006,.mv (.t s000),none⟩,⟨some s007,.app 2 16 (.t s005) (.t s006),none⟩,⟨some s002,.mv (.t s007),none⟩])
 (.ret))))⟩
/-- slices.Contains[[]arbor/api.Point,arbor/api.Point] -/
def g30 : AFunc := ⟨2,[.t s004],
 (.seq (.reg [⟨some s003,.box 2 (.t s001),none⟩,⟨some s004,.mv (.c (.b false)),none⟩])
 (.seq (.reg [⟨some s005,.mv (.t s000),none⟩,⟨some s006,.ldn 2 (.t s003),none⟩,⟨some s007,.call (.c (.fn 45 [])) [(.t s005),(.t s006)],none⟩,⟨some s010,.bin .geq (.t s007) (.c (.i .i64 0)),none⟩,⟨some s004,.mv (.t s010),none⟩])
 (.ret)))⟩
/-- arbor/draw.on -/
def g31 : AFunc := ⟨3,[.t s006],
 (.seq (.reg [⟨some s003,.box 2 (.t s000),none⟩,⟨some s004,.box 2 (.t s001),none⟩,⟨some s005,.box 2 (.t s002),none⟩,⟨some s006,.mv (.c (.b false)),none⟩])
 (.seq (.reg [⟨some s007,.ldn 2 (.t s003),none⟩,⟨some s010,.ldn 2 (.t s004),none⟩,⟨some s011,.ldn 2 (.t s005),none⟩,⟨some s012,.call (.c (.fn 46 [])) [(.t s007),(.t s010),(.t s011)],none⟩,⟨some s013,.eq .int false (.t s012) (.c (.i .i64 0)),none⟩,⟨some s014,.mv (.t s013),none⟩,⟨some s015,.flda 0 (.t s003),(some (s014,true))⟩,⟨some s016,.ld (.t s015),(some (s014,true))⟩,⟨some s017,.flda 0 (.t s004),(some (s014,true))⟩,⟨some s020,.ld (.t s017),(some (s014,true))⟩,⟨some s021,.min [(.t s016),(.t s020)],(some (s014,true))⟩,⟨some s022,.flda 0 (.t s005),(some (s014,true))⟩,⟨some s023,.ld (.t s022),(some (s014,true))⟩,⟨some s024,.bin .leq (.t s021) (.t s023),(some (s014,true))⟩,⟨some s025,.pick (.t s014) (.t s024) (.c (.b false)),none⟩,⟨some s026,.mv (.t s025),none⟩,⟨some s027,.flda 0 (.t s005),(some (s026,true))⟩,⟨some s030,.ld (.t s027),(some (s026,true))⟩,⟨some s031,.flda 0 (.t s003),(some (s026,true))⟩,⟨some s032,.ld (.t s031),(some (s026,true))⟩,⟨some s033,.flda 0 (.t s004),(some (s026,true))⟩,⟨some s034,.ld (.t s033),(some (s026,true))⟩,⟨some s035,.max [(.t s032),(.t s034)],(some (s026,true))⟩,⟨some s036,.bin .leq (.t s030) (.t s035),(some (s026,true))⟩,⟨some s037,.pick (.t s026) (.t s036) (.c (.b false)),none⟩,⟨some s040,.mv (.t s037),none⟩,⟨some s041,.flda 1 (.t s003),(some (s040,true))⟩,⟨some s042,.ld (.t s041),(some (s040,true))⟩,⟨some s043,.flda 1 (.t s004),(some (s040,true))⟩,⟨some s044,.ld (.t s043),(some (s040,true))⟩,⟨some s045,.min [(.t s042),(.t s044)],(some (s040,true))⟩,⟨some s046,.flda 1 (.t s005),(some (s040,true))⟩,⟨some s047,.ld (.t s046),(some (s040,true))⟩,⟨some s050,.bin .leq (.t s045) (.t s047),(some (s040,true))⟩,⟨some s051,.pick (.t s040) (.t s050) (.c (.b false)),none⟩,⟨some s052,.mv (.t s051),none⟩,⟨some s053,.flda 1 (.t s005),(some (s052,true))⟩,⟨some s054,.ld (.t s053),(some (s052,true))⟩,⟨some s055,.flda 1 (.t s003),(some (s052,true))⟩,⟨some s056,.ld (.t s055),(some (s052,true))⟩,⟨some s057,.flda 1 (.t s004),(some (s052,true))⟩,⟨some s060,.ld (.t s057),(some (s052,true))⟩,⟨some s061,.max [(.t s056),(.t s060)],(some (s052,true))⟩,⟨some s062,.bin .leq (.t s054) (.t s061),(some (s052,true))⟩,⟨some s063,.pick (.t s052) (.t s062) (.c (.b false)),none⟩,⟨some s006,.mv (.t s063),none⟩])
 (.ret)))⟩
/-- arbor/draw.meet -/
def g32 : AFunc := ⟨4,[.t s010],
 (.seq (.reg [⟨some s004,.box 2 (.t s000),none⟩,⟨some s005,.box 2 (.t s001),none⟩,⟨some s006,.box 2 (.t s002),none⟩,⟨some s007,.box 2 (.t s003),none⟩,⟨some s010,.mv (.c (.b false)),none⟩])
 (.seq (.dreg [(0,⟨some s011,.ldn 2 (.t s004),none⟩,0,false),(1,⟨some s012,.ldn 2 (.t s005),none⟩,0,false),(2,⟨some s013,.ldn 2 (.t s006),none⟩,0,false),(3,⟨some s014,.call (.c (.fn 46 [])) [(.t s011),(.t s012),(.t s013)],none⟩,7,false),(4,⟨some s015,.ldn 2 (.t s004),none⟩,0,false),(5,⟨some s016,.ldn 2 (.t s005),none⟩,0,false),(6,⟨some s017,.ldn 2 (.t s007),none⟩,0,false),(7,⟨some s020,.call (.c (.fn 46 [])) [(.t s015),(.t s016),(.t s017)],none⟩,127,true),(8,⟨some s021,.bin .mul (.t s014) (.t s020),none⟩,255,true),(9,⟨some s022,.bin .lss (.t s021) (.c (.i .i64 0)),none⟩,511,true),(10,⟨some s023,.mv (.t s022),none⟩,1023,true),(11,⟨some s024,.ldn 2 (.t s006),(some (s023,true))⟩,2047,false),(12,⟨some s025,.ldn 2 (.t s007),(some (s023,true))⟩,2047,false),(13,⟨some s026,.ldn 2 (.t s004),(some (s023,true))⟩,2047,false),(14,⟨some s027,.call (.c (.fn 46 [])) [(.t s024),(.t s025),(.t s026)],(some (s023,true))⟩,16383,false),(15,⟨some s030,.ldn 2 (.t s006),(some (s023,true))⟩,2047,false),(16,⟨some s031,.ldn 2 (.t s007),(some (s023,true))⟩,2047,false),(17,⟨some s032,.ldn 2 (.t s005),(some (s023,true))⟩,2047,false),(18,⟨some s033,.call (.c (.fn 46 [])) [(.t s030),(.t s031),(.t s032)],(some (s023,true))⟩,262143,true),(19,⟨some s034,.bin .mul (.t s027) (.t s033),(some (s023,true))⟩,524287,true),(20,⟨some s035,.bin .lss (.t s034) (.c (.i .i64 0)),(some (s023,true))⟩,1048575,true),(21,⟨some s036,.pick (.t s023) (.t s035) (.c (.b false)),none⟩,2097151,true),(22,⟨some s037,.mv (.t s036),none⟩,4194303,true),(23,⟨some s040,.ldn 2 (.t s004),(some (s037,false))⟩,8388607,false),(24,⟨some s041,.ldn 2 (.t s005),(some (s037,false))⟩,8388607,false),(25,⟨some s042,.ldn 2 (.t s006),(some (s037,false))⟩,8388607,false),(26,⟨some s043,.call (.c (.fn 31 [])) [(.t s040),(.t s041),(.t s042)],(some (s037,false))⟩,67108863,true),(27,⟨some s044,.pick (.t s037) (.c (.b true)) (.t s043),none⟩,134217727,true),(28,⟨some s045,.mv (.t s044),none⟩,268435455,true),(29,⟨some s046,.ldn 2 (.t s004),(some (s045,false))⟩,536870911,false),(30,⟨some s047,.ldn 2 (.t s005),(some (s045,false))⟩,536870911,false),(31,⟨some s050,.ldn 2 (.t s007),(some (s045,false))⟩,536870911,false),(32,⟨some s051,.call (.c (.fn 31 [])) [(.t s046),(.t s047),(.t s050)],(some (s045,false))⟩,4294967295,true),(33,⟨some s052,.pick (.t s045) (.c (.b true)) (.t s051),none⟩,8589934591,true),(34,⟨some s053,.mv (.t s052),none⟩,17179869183,true),(35,⟨some s054,.ldn 2 (.t s006),(some (s053,false))⟩,34359738367,false),(36,⟨some s055,.ldn 2 (.t s007),(some (s053,false))⟩,34359738367,false),(37,⟨some s056,.ldn 2 (.t s004),(some (s053,false))⟩,34359738367,false),(38,⟨some s057,.call (.c (.fn 31 [])) [(.t s054),(.t s055),(.t s056)],(some (s053,false))⟩,274877906943,true),(39,⟨some s060,.pick (.t s053) (.c (.b true)) (.t s057),none⟩,549755813887,true),(40,⟨some s061,.mv (.t s060),none⟩,1099511627775,true),(41,⟨some s062,.ldn 2 (.t s006),(some (s061,false))⟩,2199023255551,false),(42,⟨some s063,.ldn 2 (.t s007),(some (s061,false))⟩,2199023255551,false),(43,⟨some s064,.ldn 2 (.t s005),(some (s061,false))⟩,2199023255551,false),(44,⟨some s065,.call (.c (.fn 31 [])) [(.t s062),(.t s063),(.t s064)],(some (s061,false))⟩,17592186044415,true),(45,⟨some s066,.pick (.t s061) (.c (.b true)) (.t s065),none⟩,35184372088831,true),(46,⟨some s010,.mv (.t s066),none⟩,70368744177663,true)])
 (.ret)))⟩
/-- arbor/graph.Check -/
def g33 : AFunc := ⟨1,[.cell s002 true 2],
 (.seq (.reg [⟨some s001,.box 2 (.t s000),none⟩,⟨some s002,.new [(.i .i64 0),(.i .i64 0)],none⟩])
 (.seq (.seq (.reg [⟨some s010,.flda 0 (.t s001),none⟩,⟨some s011,.ld (.t s010),none⟩,⟨some s012,.bin .lss (.t s011) (.c (.i .i64 0)),none⟩,⟨some s013,.mv (.t s012),none⟩,⟨some s014,.flda 0 (.t s001),(some (s013,false))⟩,⟨some s015,.ld (.t s014),(some (s013,false))⟩,⟨some s016,.bin .gtr (.t s015) (.c (.i .i64 100)),(some (s013,false))⟩,⟨some s017,.pick (.t s013) (.c (.b true)) (.t s016),none⟩,⟨some s020,.mv (.t s017),none⟩,⟨some s021,.flda 1 (.t s001),(some (s020,false))⟩,⟨some s022,.ld (.t s021),(some (s020,false))⟩,⟨some s023,.len (.t s022),(some (s020,false))⟩,⟨some s024,.bin .gtr (.t s023) (.c (.i .i64 1000)),(some (s020,false))⟩,⟨some s025,.pick (.t s020) (.c (.b true)) (.t s024),none⟩])
 (.cond (.t s025) (.seq (.reg [⟨some s026,.call (.c (.fn 47 [])) [(.c (.i .i64 2)),(.c (.i .i64 0))],none⟩,⟨none,.st 2 (.t s002) (.t s026),none⟩])
  (.ret))
 (.skip)))
 (.seq (.reg [⟨some s027,.mkmap,none⟩,⟨some s003,.mv (.t s027),none⟩])
 (.seq (.seq (.reg [⟨some s030,.flda 1 (.t s001),none⟩,⟨some s031,.ld (.t s030),none⟩,⟨some s032,.len (.t s031),none⟩,⟨some s033,.mv (.c (.i .i64 0)),none⟩])
 (.block 0 (.loop (.seq (.reg [⟨some s034,.bin .lss (.t s033) (.t s032),none⟩])
   (.seq (.cond (.t s034) (.skip)
   (.exit 0))
   (.seq (.block 1 (.seq (.reg [⟨some s035,.mv (.t s033),none⟩,⟨some s036,.idxa 2 (.t s031) (.t s033),none⟩,⟨some s037,.ldn 2 (.t s036),none⟩,⟨some s005,.new [(.i .i64 0),(.i .i64 0)],none⟩,⟨some s004,.mv (.t s035),none⟩,⟨none,.st 2 (.t s005) (.t s037),none⟩])
    (.seq (.dreg [(0,⟨some s040,.idxp 2 1 (.t s005) (.c (.i .i64 0)),none⟩,0,false),(1,⟨some s041,.ld (.t s040),none⟩,1,false),(2,⟨some s042,.idxp 2 1 (.t s005) (.c (.i .i64 1)),none⟩,0,false),(3,⟨some s043,.ld (.t s042),none⟩,4,false),(4,⟨some s044,.min [(.t s041),(.t s043)],none⟩,15,false),(5,⟨some s045,.idxp 2 1 (.t s005) (.c (.i .i64 0)),none⟩,0,false),(6,⟨some s046,.ld (.t s045),none⟩,32,false),(7,⟨some s047,.idxp 2 1 (.t s005) (.c (.i .i64 1)),none⟩,0,false),(8,⟨some s050,.ld (.t s047),none⟩,128,false),(9,⟨some s051,.max [(.t s046),(.t s050)],none⟩,480,false),(10,⟨some s006,.mv (.t s044),none⟩,31,false),(11,⟨some s007,.mv (.t s051),none⟩,2047,true)])
    (.block 2 (.seq (.reg [⟨some s057,.mv (.t s006),none⟩,⟨some s060,.bin .lss (.t s057) (.c (.i .i64 0)),none⟩,⟨some s061,.mv (.t s060),none⟩,⟨some s062,.mv (.t s007),(some (s061,false))⟩,⟨some s063,.flda 0 (.t s001),(some (s061,false))⟩,⟨some s064,.ld (.t s063),(some (s061,false))⟩,⟨some s065,.bin .geq (.t s062) (.t s064),(some (s061,false))⟩,⟨some s066,.pick (.t s061) (.c (.b true)) (.t s065),none⟩,⟨some s056,.mv (.t s066),none⟩])
     (.cond (.t s056) (.seq (.reg [⟨some s067,.mv (.t s004),none⟩,⟨some s070,.call (.c (.fn 47 [])) [(.c (.i .i64 3)),(.t s067)],none⟩,⟨none,.st 2 (.t s002) (.t s070),none⟩])
      (.ret))
     (.seq (.reg [⟨some s072,.mv (.t s006),none⟩,⟨some s073,.mv (.t s007),none⟩,⟨some s074,.eq .int false (.t s072) (.t s073),none⟩,⟨some s071,.mv (.t s074),none⟩])
      (.cond (.t s071) (.seq (.reg [⟨some s075,.mv (.t s004),none⟩,⟨some s076,.call (.c (.fn 47 [])) [(.c (.i .i64 4)),(.t s075)],none⟩,⟨none,.st 2 (.t s002) (.t s076),none⟩])
       (.ret))
      (.seq (.reg [⟨some s100,.mv (.t s003),none⟩,⟨some s101,.mv (.t s006),none⟩,⟨some s102,.mv (.t s007),none⟩,⟨some s103,.build [(.i .i64 0),(.i .i64 0)] [(0,1,(.t s101)),(1,1,(.t s102))],none⟩,⟨some s104,.lookup (.i .i64 0) false (.ints 2) (.t s100) (.t s103),none⟩,⟨some s105,.bin .gtr (.t s104) (.c (.i .i64 0)),none⟩,⟨some s077,.mv (.t s105),none⟩])
       (.cond (.t s077) (.seq (.reg [⟨some s106,.mv (.t s004),none⟩,⟨some s107,.call (.c (.fn 47 [])) [(.c (.i .i64 5)),(.t s106)],none⟩,⟨none,.st 2 (.t s002) (.t s107),none⟩])
        (.ret))
       (.reg [⟨some s052,.mv (.t s003),none⟩,⟨some s053,.mv (.t s006),none⟩,⟨some s054,.mv (.t s007),none⟩,⟨some s055,.build [(.i .i64 0),(.i .i64 0)] [(0,1,(.t s053)),(1,1,(.t s054))],none⟩,⟨none,.mapup (.ints 2) (.t s052) (.t s055) (.c (.i .i64 1)),none⟩])))))))))))
   (.reg [⟨some s110,.bin .add (.t s033) (.c (.i .i64 1)),none⟩,⟨some s033,.mv (.t s110),none⟩])))))))
 (.seq (.reg [⟨some s111,.build [(.i .i64 0),(.i .i64 0)] [],none⟩,⟨none,.st 2 (.t s002) (.t s111),none⟩])
 (.ret))))))⟩
/-- arbor/graph.Make -/
def g34 : AFunc := ⟨2,[.cell s004 true 2],
 (.seq (.reg [⟨some s004,.new [(.i .i64 0),.nils],none⟩])
 (.seq (.reg [⟨some s010,.mv (.t s000),none⟩,⟨some s011,.build [(.i .i64 0),.nils] [(0,1,(.t s010))],none⟩,⟨some s005,.new [(.i .i64 0),.nils],none⟩,⟨none,.st 2 (.t s005) (.t s011),none⟩])
 (.seq (.seq (.reg [⟨some s012,.mv (.t s001),none⟩,⟨some s013,.len (.t s012),none⟩,⟨some s014,.mv (.c (.i .i64 0)),none⟩])
 (.block 0 (.loop (.seq (.reg [⟨some s015,.bin .lss (.t s014) (.t s013),none⟩])
   (.seq (.cond (.t s015) (.skip)
   (.exit 0))
   (.seq (.block 1 (.seq (.reg [⟨some s016,.idxa 2 (.t s012) (.t s014),none⟩,⟨some s017,.ldn 2 (.t s016),none⟩,⟨some s007,.new [(.i .i64 0),(.i .i64 0)],none⟩,⟨none,.st 2 (.t s007) (.t s017),none⟩])
    (.reg [⟨some s020,.flda 1 (.t s005),none⟩,⟨some s021,.ld (.t s020),none⟩,⟨some s022,.idxp 2 1 (.t s007) (.c (.i .i64 0)),none⟩,⟨some s023,.ld (.t s022),none⟩,⟨some s024,.idxp 2 1 (.t s007) (.c (.i .i64 1)),none⟩,⟨some s025,.ld (.t s024),none⟩,⟨some s026,.min [(.t s023),(.t s025)],none⟩,⟨some s027,.idxp 2 1 (.t s007) (.c (.i .i64 0)),none⟩,⟨some s030,.ld (.t s027),none⟩,⟨some s031,.idxp 2 1 (.t s007) (.c (.i .i64 1)),none⟩,⟨some s032,.ld (.t s031),none⟩,⟨some s033,.max [(.t s030),(.t s032)],none⟩,⟨some s034,.build [(.i .i64 0),(.i .i64 0)] [(0,1,(.t s026)),(1,1,(.t s033))],none⟩,⟨some s035,.bsl 2 1 [(.i .i64 0),(.i .i64 0)] [(0,2,(.t s034))],none⟩,⟨some s036,.app 2 16 (.t s021) (.t s035),none⟩,⟨some s037,.flda 1 (.t s005),none⟩,⟨none,.st 1 (.t s037) (.t s036),none⟩])))
   (.reg [⟨some s040,.bin .add (.t s014) (.c (.i .i64 1)),none⟩,⟨some s014,.mv (.t s040),none⟩])))))))
 (.seq (.reg [⟨some s041,.flda 1 (.t s005),none⟩,⟨some s042,.ld (.t s041),none⟩,⟨some s043,.call (.c (.fn 48 [])) [(.t s042),(.c (.fn 49 []))],none⟩])
 (.seq (.reg [⟨some s044,.ldn 2 (.t s005),none⟩,⟨none,.st 2 (.t s004) (.t s044),none⟩])
 (.ret))))))⟩
/-- arbor/draw.order -/
def g35 : AFunc := ⟨1,[.t s002],
 (.seq (.reg [⟨some s002,.mv (.c .nils),none⟩])
 (.seq (.reg [⟨some s017,.mv (.t s000),none⟩,⟨some s020,.len (.t s017),none⟩,⟨some s003,.mv (.t s020),none⟩])
 (.seq (.reg [⟨some s004,.mv (.c (.i .i64 0)),none⟩])
 (.seq (.reg [⟨some s021,.mv (.t s000),none⟩,⟨some s022,.idxa 1 (.t s021) (.c (.i .i64 0)),none⟩,⟨some s023,.ld (.t s022),none⟩,⟨some s024,.idxa 1 (.t s023) (.c (.i .i64 0)),none⟩,⟨some s025,.ld (.t s024),none⟩,⟨some s005,.mv (.t s025),none⟩])
 (.seq (.reg [⟨some s026,.mv (.t s000),none⟩,⟨some s027,.mv (.t s005),none⟩,⟨some s030,.mv (.t s004),none⟩,⟨some s031,.call (.c (.fn 50 [])) [(.t s026),(.t s027),(.t s030)],none⟩,⟨some s032,.idxa 1 (.t s031) (.c (.i .i64 1)),none⟩,⟨some s033,.ld (.t s032),none⟩,⟨some s006,.mv (.t s033),none⟩])
 (.seq (.reg [⟨some s034,.mv (.t s004),none⟩,⟨some s035,.mv (.t s006),none⟩,⟨some s036,.mv (.t s005),none⟩,⟨some s037,.bsl 1 3 [(.i .i64 0),(.i .i64 0),(.i .i64 0)] [(0,1,(.t s034)),(1,1,(.t s035)),(2,1,(.t s036))],none⟩,⟨some s007,.mv (.t s037),none⟩])
 (.seq (.reg [⟨some s040,.mv (.t s003),none⟩,⟨some s041,.mks 1 1 [(.b false)] (.t s040) (.t s040),none⟩,⟨some s010,.mv (.t s041),none⟩])
 (.seq (.reg [⟨some s011,.mv (.c .nils),none⟩])
 (.seq (.block 0 (.loop (.seq (.seq (.reg [⟨some s042,.mv (.t s011),none⟩,⟨some s043,.len (.t s042),none⟩,⟨some s044,.mv (.t s003),none⟩,⟨some s045,.bin .sub (.t s044) (.c (.i .i64 2)),none⟩,⟨some s046,.bin .lss (.t s043) (.t s045),none⟩])
   (.cond (.t s046) (.skip)
   (.exit 0)))
   (.block 1 (.seq (.reg [⟨some s012,.mv (.c (.i .i64 1)),none⟩])
    (.block 2 (.loop (.seq (.seq (.reg [⟨some s047,.mv (.t s012),none⟩,⟨some s050,.mv (.t s007),none⟩,⟨some s051,.len (.t s050),none⟩,⟨some s052,.bin .sub (.t s051) (.c (.i .i64 1)),none⟩,⟨some s053,.bin .lss (.t s047) (.t s052),none⟩])
      (.cond (.t s053) (.skip)
      (.exit 2)))
      (.seq (.block 3 (.seq (.reg [⟨some s056,.mv (.t s007),none⟩,⟨some s057,.mv (.t s012),none⟩,⟨some s060,.idxa 1 (.t s056) (.t s057),none⟩,⟨some s061,.ld (.t s060),none⟩,⟨some s013,.mv (.t s061),none⟩])
       (.seq (.reg [⟨some s014,.mv (.c (.i .i64 0)),none⟩])
       (.seq (.seq (.reg [⟨some s062,.mv (.t s000),none⟩,⟨some s063,.mv (.t s013),none⟩,⟨some s064,.idxa 1 (.t s062) (.t s063),none⟩,⟨some s065,.ld (.t s064),none⟩,⟨some s066,.len (.t s065),none⟩,⟨some s067,.mv (.c (.i .i64 0)),none⟩])
       (.block 4 (.loop (.seq (.reg [⟨some s070,.bin .lss (.t s067) (.t s066),none⟩])
         (.seq (.cond (.t s070) (.skip)
         (.exit 4))
         (.seq (.block 5 (.seq (.reg [⟨some s071,.idxa 1 (.t s065) (.t s067),none⟩,⟨some s072,.ld (.t s071),none⟩,⟨some s016,.mv (.t s072),none⟩])
          (.seq (.reg [⟨some s073,.mv (.t s007),none⟩,⟨some s074,.mv (.t s016),none⟩,⟨some s075,.call (.c (.fn 36 [])) [(.t s073),(.t s074)],none⟩,⟨some s076,.mv (.t s075),none⟩,⟨some s077,.mv (.t s010),(some (s076,true))⟩,⟨some s100,.mv (.t s016),(some (s076,true))⟩,⟨some s101,.idxa 1 (.t s077) (.t s100),(some (s076,true))⟩,⟨some s102,.ld (.t s101),(some (s076,true))⟩,⟨some s103,.un .not (.t s102),(some (s076,true))⟩,⟨some s104,.pick (.t s076) (.t s103) (.c (.b false)),none⟩])
          (.cond (.t s104) (.reg [⟨some s105,.mv (.t s014),none⟩,⟨some s106,.bin .add (.t s105) (.c (.i .i64 1)),none⟩,⟨some s014,.mv (.t s106),none⟩])
          (.skip)))))
         (.reg [⟨some s107,.bin .add (.t s067) (.c (.i .i64 1)),none⟩,⟨some s067,.mv (.t s107),none⟩])))))))
       (.seq (.seq (.reg [⟨some s110,.mv (.t s014),none⟩,⟨some s111,.bin .gtr (.t s110) (.c (.i .i64 2)),none⟩])
       (.cond (.t s111) (.exit 3)
       (.skip)))
       (.seq (.reg [⟨some s112,.mv (.t s010),none⟩,⟨some s113,.mv (.t s013),none⟩,⟨some s114,.idxa 1 (.t s112) (.t s113),none⟩,⟨none,.st 1 (.t s114) (.c (.b true)),none⟩])
       (.seq (.reg [⟨some s115,.mv (.t s011),none⟩,⟨some s116,.mv (.t s013),none⟩,⟨some s117,.bsl 1 1 [(.i .i64 0)] [(0,1,(.t s116))],none⟩,⟨some s120,.app 1 8 (.t s115) (.t s117),none⟩,⟨some s011,.mv (.t s120),none⟩])
       (.seq (.dreg [(0,⟨some s121,.mv (.t s007),none⟩,0,false),(1,⟨some s122,.mv (.t s012),none⟩,0,false),(2,⟨some s123,.slice 1 (.t s121) none (some (.t s122)) none,none⟩,3,false),(3,⟨some s124,.mv (.t s000),none⟩,0,false),(4,⟨some s125,.mv (.t s010),none⟩,0,false),(5,⟨some s126,.mv (.t s013),none⟩,0,false),(6,⟨some s127,.mv (.t s007),none⟩,0,false),(7,⟨some s130,.mv (.t s012),none⟩,0,false),(8,⟨some s131,.bin .sub (.t s130) (.c (.i .i64 1)),none⟩,128,false),(9,⟨some s132,.idxa 1 (.t s127) (.t s131),none⟩,448,false),(10,⟨some s133,.ld (.t s132),none⟩,960,false),(11,⟨some s134,.mv (.t s007),none⟩,0,false),(12,⟨some s135,.mv (.t s012),none⟩,0,false),(13,⟨some s136,.bin .add (.t s135) (.c (.i .i64 1)),none⟩,4096,false),(14,⟨some s137,.idxa 1 (.t s134) (.t s136),none⟩,14336,false),(15,⟨some s140,.ld (.t s137),none⟩,30720,false),(16,⟨some s141,.call (.c (.fn 51 [])) [(.t s124),(.t s125),(.t s126),(.t s133),(.t s140)],none⟩,65528,true),(17,⟨some s142,.mv (.t s007),none⟩,0,false),(18,⟨some s143,.mv (.t s012),none⟩,0,false),(19,⟨some s144,.bin .add (.t s143) (.c (.i .i64 1)),none⟩,262144,false),(20,⟨some s145,.slice 1 (.t s142) (some (.t s144)) none none,none⟩,917504,false),(21,⟨some s146,.bsl 1 3 [.nils,.nils,.nils] [(0,1,(.t s123)),(1,1,(.t s141)),(2,1,(.t s145))],none⟩,2097151,true),(22,⟨some s147,.call (.c (.fn 37 [])) [(.t s146)],none⟩,4194303,true),(23,⟨some s007,.mv (.t s147),none⟩,8388607,true)])
       (.exit 2)))))))))
      (.reg [⟨some s054,.mv (.t s012),none⟩,⟨some s055,.bin .add (.t s054) (.c (.i .i64 1)),none⟩,⟨some s012,.mv (.t s055),none⟩]))))))))))
 (.seq (.reg [⟨some s150,.mv (.t s011),none⟩,⟨some s151,.call (.c (.fn 52 [])) [(.t s150)],none⟩])
 (.seq (.reg [⟨some s152,.mv (.t s004),none⟩,⟨some s153,.mv (.t s005),none⟩,⟨some s154,.bsl 1 2 [(.i .i64 0),(.i .i64 0)] [(0,1,(.t s152)),(1,1,(.t s153))],none⟩,⟨some s155,.mv (.t s011),none⟩,⟨some s156,.app 1 8 (.t s154) (.t s155),none⟩,⟨some s002,.mv (.t s156),none⟩])
 (.ret))))))))))))⟩
/-- slices.Contains[[]int,int] -/
def g36 : AFunc := ⟨2,[.t s004],
 (.seq (.reg [⟨some s004,.mv (.c (.b false)),none⟩])
 (.seq (.reg [⟨some s005,.mv (.t s000),none⟩,⟨some s006,.mv (.t s001),none⟩,⟨some s007,.call (.c (.fn 53 [])) [(.t s005),(.t s006)],none⟩,⟨some s010,.bin .geq (.t s007) (.c (.i .i64 0)),none⟩,⟨some s004,.mv (.t s010),none⟩])
 (.ret)))⟩
/-- arbor/graph.Table -/
def g38 : AFunc := ⟨1,[.t s002],
 (.seq (.reg [⟨some s001,.box 2 (.t s000),none⟩,⟨some s002,.mv (.c .nils),none⟩])
 (.seq (.reg [⟨some s007,.flda 0 (.t s001),none⟩,⟨some s010,.ld (.t s007),none⟩,⟨some s011,.mks 1 24 [.nils] (.t s010) (.t s010),none⟩,⟨some s003,.mv (.t s011),none⟩])
 (.seq (.seq (.reg [⟨some s012,.mv (.t s003),none⟩,⟨some s013,.len (.t s012),none⟩,⟨some s014,.mv (.c (.i .i64 0)),none⟩])
 (.block 0 (.loop (.seq (.reg [⟨some s015,.bin .lss (.t s014) (.t s013),none⟩])
   (.seq (.cond (.t s015) (.skip)
   (.exit 0))
   (.seq (.block 1 (.seq (.reg [⟨some s016,.mv (.t s014),none⟩,⟨some s004,.mv (.t s016),none⟩])
    (.reg [⟨some s017,.mv (.t s003),none⟩,⟨some s020,.mv (.t s004),none⟩,⟨some s021,.flda 0 (.t s001),none⟩,⟨some s022,.ld (.t s021),none⟩,⟨some s023,.mks 1 1 [(.b false)] (.t s022) (.t s022),none⟩,⟨some s024,.idxa 1 (.t s017) (.t s020),none⟩,⟨none,.st 1 (.t s024) (.t s023),none⟩])))
   (.reg [⟨some s025,.bin .add (.t s014) (.c (.i .i64 1)),none⟩,⟨some s014,.mv (.t s025),none⟩])))))))
 (.seq (.seq (.reg [⟨some s026,.flda 1 (.t s001),none⟩,⟨some s027,.ld (.t s026),none⟩,⟨some s030,.len (.t s027),none⟩,⟨some s031,.mv (.c (.i .i64 0)),none⟩])
 (.block 2 (.loop (.seq (.reg [⟨some s032,.bin .lss (.t s031) (.t s030),none⟩])
   (.seq (.cond (.t s032) (.skip)
   (.exit 2))
   (.seq (.block 3 (.seq (.reg [⟨some s033,.idxa 2 (.t s027) (.t s031),none⟩,⟨some s034,.ldn 2 (.t s033),none⟩,⟨some s006,.new [(.i .i64 0),(.i .i64 0)],none⟩,⟨none,.st 2 (.t s006) (.t s034),none⟩])
    (.dreg [(0,⟨some s035,.mv (.t s003),none⟩,0,false),(1,⟨some s036,.idxp 2 1 (.t s006) (.c (.i .i64 0)),none⟩,0,false),(2,⟨some s037,.ld (.t s036),none⟩,2,false),(3,⟨some s040,.idxa 1 (.t s035) (.t s037),none⟩,7,false),(4,⟨some s041,.ld (.t s040),none⟩,15,false),(5,⟨some s042,.idxp 2 1 (.t s006) (.c (.i .i64 1)),none⟩,0,false),(6,⟨some s043,.ld (.t s042),none⟩,32,false),(7,⟨some s044,.mv (.t s003),none⟩,0,false),(8,⟨some s045,.idxp 2 1 (.t s006) (.c (.i .i64 1)),none⟩,0,false),(9,⟨some s046,.ld (.t s045),none⟩,256,false),(10,⟨some s047,.idxa 1 (.t s044) (.t s046),none⟩,896,false),(11,⟨some s050,.ld (.t s047),none⟩,1920,false),(14,⟨some s053,.idxa 1 (.t s041) (.t s043),none⟩,4095,false),(15,⟨none,.st 1 (.t s053) (.c (.b true)),none⟩,20479,false),(12,⟨some s051,.idxp 2 1 (.t s006) (.c (.i .i64 0)),none⟩,0,false),(13,⟨some s052,.ld (.t s051),none⟩,4096,false),(16,⟨some s054,.idxa 1 (.t s050) (.t s052),none⟩,65535,true),(17,⟨none,.st 1 (.t s054) (.c (.b true)),none⟩,131071,true)])))
   (.reg [⟨some s055,.bin .add (.t s031) (.c (.i .i64 1)),none⟩,⟨some s031,.mv (.t s055),none⟩])))))))
 (.seq (.reg [⟨some s056,.mv (.t s003),none⟩,⟨some s002,.mv (.t s056),none⟩])
 (.ret))))))⟩
/-- arbor/arborref.Of -/
def g39 : AFunc := ⟨1,[.cell s002 true 2],
 (.seq (.reg [⟨some s002,.new [(.i .i64 0),.nils],none⟩])
 (.seq (.reg [⟨some s006,.mv (.t s000),none⟩,⟨some s007,.len (.t s006),none⟩,⟨some s010,.build [(.i .i64 0),.nils] [(0,1,(.t s007))],none⟩,⟨some s003,.new [(.i .i64 0),.nils],none⟩,⟨none,.st 2 (.t s003) (.t s010),none⟩])
 (.seq (.seq (.reg [⟨some s004,.mv (.c (.i .i64 0)),none⟩])
 (.block 0 (.loop (.seq (.seq (.reg [⟨some s011,.mv (.t s004),none⟩,⟨some s012,.mv (.t s000),none⟩,⟨some s013,.len (.t s012),none⟩,⟨some s014,.bin .lss (.t s011) (.t s013),none⟩])
   (.cond (.t s014) (.skip)
   (.exit 0)))
   (.seq (.block 1 (.seq (.reg [⟨some s017,.mv (.t s004),none⟩,⟨some s020,.bin .add (.t s017) (.c (.i .i64 1)),none⟩,⟨some s005,.mv (.t s020),none⟩])
    (.block 2 (.loop (.seq (.seq (.reg [⟨some s021,.mv (.t s005),none⟩,⟨some s022,.mv (.t s000),none⟩,⟨some s023,.len (.t s022),none⟩,⟨some s024,.bin .lss (.t s021) (.t s023),none⟩])
      (.cond (.t s024) (.skip)
      (.exit 2)))
      (.seq (.block 3 (.seq (.reg [⟨some s027,.mv (.t s000),none⟩,⟨some s030,.mv (.t s004),none⟩,⟨some s031,.idxa 1 (.t s027) (.t s030),none⟩,⟨some s032,.ld (.t s031),none⟩,⟨some s033,.mv (.t s005),none⟩,⟨some s034,.idxa 1 (.t s032) (.t s033),none⟩,⟨some s035,.ld (.t s034),none⟩])
       (.cond (.t s035) (.reg [⟨some s036,.flda 1 (.t s003),none⟩,⟨some s037,.ld (.t s036),none⟩,⟨some s040,.mv (.t s004),none⟩,⟨some s041,.mv (.t s005),none⟩,⟨some s042,.build [(.i .i64 0),(.i .i64 0)] [(0,1,(.t s040)),(1,1,(.t s041))],none⟩,⟨some s043,.bsl 2 1 [(.i .i64 0),(.i .i64 0)] [(0,2,(.t s042))],none⟩,⟨some s044,.app 2 16 (.t s037) (.t s043),none⟩,⟨some s045,.flda 1 (.t s003),none⟩,⟨none,.st 1 (.t s045) (.t s044),none⟩])
       (.skip))))
      (.reg [⟨some s025,.mv (.t s005),none⟩,⟨some s026,.bin .add (.t s025) (.c (.i .i64 1)),none⟩,⟨some s005,.mv (.t s026),none⟩])))))))
   (.reg [⟨some s015,.mv (.t s004),none⟩,⟨some s016,.bin .add (.t s015) (.c (.i .i64 1)),none⟩,⟨some s004,.mv (.t s016),none⟩]))))))
 (.seq (.reg [⟨some s046,.ldn 2 (.t s003),none⟩,⟨none,.st 2 (.t s002) (.t s046),none⟩])
 (.ret)))))⟩
/-- arbor/arborref.Not -/
def g40 : AFunc := ⟨1,[.t s002],
 (.seq (.reg [⟨some s002,.mv (.c .nils),none⟩])
 (.seq (.reg [⟨some s003,.mv (.c .nils),none⟩])
 (.seq (.seq (.reg [⟨some s004,.mv (.c (.i .i64 0)),none⟩])
 (.block 0 (.loop (.seq (.seq (.reg [⟨some s006,.mv (.t s004),none⟩,⟨some s007,.mv (.t s000),none⟩,⟨some s010,.len (.t s007),none⟩,⟨some s011,.bin .lss (.t s006) (.t s010),none⟩])
   (.cond (.t s011) (.skip)
   (.exit 0)))
   (.seq (.block 1 (.seq (.reg [⟨some s014,.mv (.t s003),none⟩,⟨some s015,.mv (.t s000),none⟩,⟨some s016,.len (.t s015),none⟩,⟨some s017,.mks 1 1 [(.b false)] (.t s016) (.t s016),none⟩,⟨some s020,.bsl 1 1 [.nils] [(0,1,(.t s017))],none⟩,⟨some s021,.app 1 24 (.t s014) (.t s020),none⟩,⟨some s003,.mv (.t s021),none⟩])
    (.seq (.reg [⟨some s005,.mv (.c (.i .i64 0)),none⟩])
    (.block 2 (.loop (.seq (.seq (.reg [⟨some s022,.mv (.t s005),none⟩,⟨some s023,.mv (.t s000),none⟩,⟨some s024,.len (.t s023),none⟩,⟨some s025,.bin .lss (.t s022) (.t s024),none⟩])
      (.cond (.t s025) (.skip)
      (.exit 2)))
      (.seq (.block 3 (.dreg [(0,⟨some s030,.mv (.t s003),none⟩,0,false),(1,⟨some s031,.mv (.t s004),none⟩,0,false),(2,⟨some s032,.idxa 1 (.t s030) (.t s031),none⟩,3,false),(3,⟨some s033,.ld (.t s032),none⟩,7,false),(4,⟨some s034,.mv (.t s005),none⟩,0,false),(5,⟨some s035,.mv (.t s004),none⟩,0,false),(6,⟨some s036,.mv (.t s005),none⟩,0,false),(7,⟨some s037,.eq .int true (.t s035) (.t s036),none⟩,96,false),(8,⟨some s040,.mv (.t s037),none⟩,224,false),(9,⟨some s041,.mv (.t s000),(some (s040,true))⟩,480,false),(10,⟨some s042,.mv (.t s004),(some (s040,true))⟩,480,false),(11,⟨some s043,.idxa 1 (.t s041) (.t s042),(some (s040,true))⟩,2016,false),(12,⟨some s044,.ld (.t s043),(some (s040,true))⟩,4064,false),(13,⟨some s045,.mv (.t s005),(some (s040,true))⟩,480,false),(14,⟨some s046,.idxa 1 (.t s044) (.t s045),(some (s040,true))⟩,16352,false),(15,⟨some s047,.ld (.t s046),(some (s040,true))⟩,32736,false),(16,⟨some s050,.un .not (.t s047),(some (s040,true))⟩,65504,false),(17,⟨some s051,.pick (.t s040) (.t s050) (.c (.b false)),none⟩,131040,false),(18,⟨some s052,.idxa 1 (.t s033) (.t s034),none⟩,262143,true),(19,⟨none,.st 1 (.t s052) (.t s051),none⟩,524287,true)]))
      (.reg [⟨some s026,.mv (.t s005),none⟩,⟨some s027,.bin .add (.t s026) (.c (.i .i64 1)),none⟩,⟨some s005,.mv (.t s027),none⟩]))))))))
   (.reg [⟨some s012,.mv (.t s004),none⟩,⟨some s013,.bin .add (.t s012) (.c (.i .i64 1)),none⟩,⟨some s004,.mv (.t s013),none⟩]))))))
 (.seq (.reg [⟨some s053,.mv (.t s003),none⟩,⟨some s002,.mv (.t s053),none⟩])
 (.ret)))))⟩
/-- arbor/parts.Blocks -/
def g41 : AFunc := ⟨1,[.t s002,.cell s003 true 2],
 (.seq (.reg [⟨some s001,.box 2 (.t s000),none⟩,⟨some s002,.mv (.c .nils),none⟩,⟨some s003,.new [(.i .i64 0),(.i .i64 0)],none⟩])
 (.seq (.seq (.reg [⟨some s005,.ldn 2 (.t s001),none⟩,⟨some s006,.call (.c (.fn 33 [])) [(.t s005)],none⟩,⟨some s004,.new [(.i .i64 0),(.i .i64 0)],none⟩,⟨none,.st 2 (.t s004) (.t s006),none⟩])
 (.seq (.reg [⟨some s007,.flda 0 (.t s004),none⟩,⟨some s010,.ld (.t s007),none⟩,⟨some s011,.eq .int true (.t s010) (.c (.i .i64 0)),none⟩])
 (.cond (.t s011) (.seq (.dreg [(0,⟨some s012,.ldn 2 (.t s004),none⟩,0,true),(1,⟨some s002,.mv (.c .nils),none⟩,0,false),(2,⟨none,.st 2 (.t s003) (.t s012),none⟩,3,true)])
  (.ret))
 (.skip))))
 (.seq (.reg [⟨some s013,.ldn 2 (.t s001),none⟩,⟨some s014,.call (.c (.fn 55 [])) [(.t s013)],none⟩,⟨some s015,.build [(.i .i64 0),(.i .i64 0)] [],none⟩,⟨some s002,.mv (.t s014),none⟩,⟨none,.st 2 (.t s003) (.t s015),none⟩])
 (.ret))))⟩
/-- arbor/plane.faces -/
def g42 : AFunc := ⟨2,[.t s004],
 (.seq (.reg [⟨some s004,.mv (.c .nils),none⟩])
 (.seq (.dreg [(0,⟨some s025,.mv (.t s000),none⟩,0,false),(1,⟨some s026,.mv (.t s001),none⟩,0,false),(2,⟨some s027,.build [(.i .i64 0),.nils] [(0,1,(.t s025)),(1,1,(.t s026))],none⟩,3,false),(3,⟨some s030,.call (.c (.fn 38 [])) [(.t s027)],none⟩,7,false),(4,⟨some s031,.mv (.t s000),none⟩,0,false),(5,⟨some s032,.build [(.i .i64 0),.nils] [(0,1,(.t s031))],none⟩,16,false),(6,⟨some s033,.call (.c (.fn 38 [])) [(.t s032)],none⟩,63,false),(7,⟨some s034,.mv (.t s000),none⟩,0,false),(8,⟨some s035,.mks 1 1 [(.b false)] (.t s034) (.t s034),none⟩,128,false),(9,⟨some s036,.build [.nils,.nils,.nils,.nils] [(0,1,(.t s030)),(1,1,(.t s033)),(2,1,(.t s035))],none⟩,511,true),(10,⟨some s037,.box 4 (.t s036),none⟩,1023,true),(11,⟨some s005,.mv (.t s037),none⟩,2047,true)])
 (.seq (.dreg [(0,⟨some s040,.mv (.t s005),none⟩,0,false),(1,⟨some s041,.nilck (.t s040),none⟩,1,false),(2,⟨some s042,.flda 0 (.t s041),none⟩,3,false),(3,⟨some s043,.ld (.t s042),none⟩,7,false),(4,⟨some s044,.mv (.t s001),none⟩,0,false),(5,⟨some s045,.idxa 2 (.t s044) (.c (.i .i64 0)),none⟩,16,false),(6,⟨some s046,.ldn 2 (.t s045),none⟩,48,false),(7,⟨some s047,.call (.c (.fn 56 [])) [(.t s043),(.t s046)],none⟩,127,true),(8,⟨some s006,.mv (.t s047),none⟩,255,true)])
 (.seq (.dreg [(1,⟨some s051,.mv (.t s006),none⟩,0,false),(2,⟨some s052,.call (.c (.fn 58 [])) [(.t s051)],none⟩,2,false),(3,⟨some s053,.mv (.t s006),none⟩,0,false),(4,⟨some s054,.idxa 1 (.t s053) (.c (.i .i64 0)),none⟩,8,false),(5,⟨some s055,.ld (.t s054),none⟩,24,false),(6,⟨some s056,.bsl 1 1 [(.i .i64 0)] [(0,1,(.t s055))],none⟩,56,false),(7,⟨some s057,.app 1 8 (.t s052) (.t s056),none⟩,126,true),(0,⟨some s050,.mv (.t s005),none⟩,0,false),(8,⟨some s060,.call (.c (.fn 57 [])) [(.t s050),(.t s057)],none⟩,255,true)])
 (.seq (.reg [⟨some s061,.mv (.t s006),none⟩,⟨some s062,.call (.c (.fn 58 [])) [(.t s061)],none⟩,⟨some s007,.mv (.t s062),none⟩])
 (.seq (.reg [⟨some s063,.mv (.t s007),none⟩,⟨some s064,.call (.c (.fn 52 [])) [(.t s063)],none⟩])
 (.seq (.reg [⟨some s065,.mv (.t s005),none⟩,⟨some s066,.mv (.t s006),none⟩,⟨some s067,.mv (.t s007),none⟩,⟨some s070,.bsl 1 2 [.nils,.nils] [(0,1,(.t s066)),(1,1,(.t s067))],none⟩,⟨some s071,.nilck (.t s065),none⟩,⟨some s072,.flda 3 (.t s071),none⟩,⟨none,.st 1 (.t s072) (.t s070),none⟩])
 (.block 0 (.loop (.block 1 (.seq (.reg [⟨some s073,.mv (.t s005),none⟩,⟨some s074,.call (.c (.fn 59 [])) [(.t s073)],none⟩,⟨some s010,.mv (.t s074),none⟩])
    (.seq (.seq (.reg [⟨some s075,.mv (.t s010),none⟩,⟨some s076,.len (.t s075),none⟩,⟨some s077,.eq .int false (.t s076) (.c (.i .i64 0)),none⟩])
    (.cond (.t s077) (.seq (.reg [⟨some s100,.mv (.t s005),none⟩,⟨some s101,.nilck (.t s100),none⟩,⟨some s102,.flda 3 (.t s101),none⟩,⟨some s103,.ld (.t s102),none⟩,⟨some s004,.mv (.t s103),none⟩])
     (.ret))
    (.skip)))
    (.seq (.reg [⟨some s011,.mv (.c (.i .i64 (-1))),none⟩,⟨some s012,.mv (.c (.i .i64 (-1))),none⟩,⟨some s013,.mv (.c (.i .i64 0)),none⟩])
    (.seq (.seq (.reg [⟨some s104,.mv (.t s010),none⟩,⟨some s105,.len (.t s104),none⟩,⟨some s106,.mv (.c (.i .i64 0)),none⟩])
    (.block 2 (.loop (.seq (.reg [⟨some s107,.bin .lss (.t s106) (.t s105),none⟩])
      (.seq (.cond (.t s107) (.skip)
      (.exit 2))
      (.seq (.block 3 (.seq (.reg [⟨some s110,.mv (.t s106),none⟩,⟨some s111,.idxa 3 (.t s104) (.t s106),none⟩,⟨some s112,.ldn 3 (.t s111),none⟩,⟨some s015,.new [.nilm,.nils,.nils],none⟩,⟨some s014,.mv (.t s110),none⟩,⟨none,.st 3 (.t s015) (.t s112),none⟩])
       (.seq (.reg [⟨some s016,.mv (.c (.i .i64 0)),none⟩,⟨some s017,.mv (.c (.i .i64 (-1))),none⟩])
       (.seq (.seq (.reg [⟨some s113,.mv (.t s005),none⟩,⟨some s114,.nilck (.t s113),none⟩,⟨some s115,.flda 3 (.t s114),none⟩,⟨some s116,.ld (.t s115),none⟩,⟨some s117,.len (.t s116),none⟩,⟨some s120,.mv (.c (.i .i64 0)),none⟩])
       (.block 4 (.loop (.seq (.reg [⟨some s121,.bin .lss (.t s120) (.t s117),none⟩])
         (.seq (.cond (.t s121) (.skip)
         (.exit 4))
         (.seq (.block 5 (.seq (.reg [⟨some s122,.mv (.t s120),none⟩,⟨some s123,.idxa 1 (.t s116) (.t s120),none⟩,⟨some s124,.ld (.t s123),none⟩,⟨some s020,.mv (.t s122),none⟩,⟨some s021,.mv (.t s124),none⟩])
          (.seq (.reg [⟨some s022,.mv (.c (.b true)),none⟩])
          (.seq (.seq (.reg [⟨some s125,.flda 1 (.t s015),none⟩,⟨some s126,.ld (.t s125),none⟩,⟨some s127,.len (.t s126),none⟩,⟨some s130,.mv (.c (.i .i64 0)),none⟩])
          (.block 6 (.loop (.seq (.reg [⟨some s131,.bin .lss (.t s130) (.t s127),none⟩])
            (.seq (.cond (.t s131) (.skip)
            (.exit 6))
            (.seq (.block 7 (.seq (.reg [⟨some s132,.idxa 1 (.t s126) (.t s130),none⟩,⟨some s133,.ld (.t s132),none⟩,⟨some s024,.mv (.t s133),none⟩])
             (.reg [⟨some s134,.mv (.t s022),none⟩,⟨some s135,.mv (.t s134),none⟩,⟨some s136,.mv (.t s021),(some (s135,true))⟩,⟨some s137,.mv (.t s024),(some (s135,true))⟩,⟨some s140,.call (.c (.fn 36 [])) [(.t s136),(.t s137)],(some (s135,true))⟩,⟨some s141,.pick (.t s135) (.t s140) (.c (.b false)),none⟩,⟨some s022,.mv (.t s141),none⟩])))
            (.reg [⟨some s142,.bin .add (.t s130) (.c (.i .i64 1)),none⟩,⟨some s130,.mv (.t s142),none⟩])))))))
          (.seq (.reg [⟨some s143,.mv (.t s022),none⟩])
          (.cond (.t s143) (.seq (.reg [⟨some s144,.mv (.t s016),none⟩,⟨some s145,.bin .add (.t s144) (.c (.i .i64 1)),none⟩,⟨some s016,.mv (.t s145),none⟩])
           (.reg [⟨some s146,.mv (.t s020),none⟩,⟨some s017,.mv (.t s146),none⟩]))
          (.skip)))))))
         (.reg [⟨some s147,.bin .add (.t s120) (.c (.i .i64 1)),none⟩,⟨some s120,.mv (.t s147),none⟩])))))))
       (.seq (.seq (.reg [⟨some s150,.mv (.t s016),none⟩,⟨some s151,.eq .int false (.t s150) (.c (.i .i64 0)),none⟩])
       (.cond (.t s151) (.seq (.reg [⟨some s004,.mv (.c .nils),none⟩])
        (.ret))
       (.skip)))
       (.seq (.reg [⟨some s152,.mv (.t s011),none⟩,⟨some s153,.bin .lss (.t s152) (.c (.i .i64 0)),none⟩,⟨some s154,.mv (.t s153),none⟩,⟨some s155,.mv (.t s016),(some (s154,false))⟩,⟨some s156,.mv (.t s013),(some (s154,false))⟩,⟨some s157,.bin .lss (.t s155) (.t s156),(some (s154,false))⟩,⟨some s160,.pick (.t s154) (.c (.b true)) (.t s157),none⟩])
       (.cond (.t s160) (.reg [⟨some s161,.mv (.t s014),none⟩,⟨some s162,.mv (.t s017),none⟩,⟨some s163,.mv (.t s016),none⟩,⟨some s011,.mv (.t s161),none⟩,⟨some s012,.mv (.t s162),none⟩,⟨some s013,.mv (.t s163),none⟩])
       (.skip))))))))
      (.reg [⟨some s164,.bin .add (.t s106) (.c (.i .i64 1)),none⟩,⟨some s106,.mv (.t s164),none⟩])))))))
    (.reg [⟨some s165,.mv (.t s005),none⟩,⟨some s166,.mv (.t s012),none⟩,⟨some s167,.mv (.t s010),none⟩,⟨some s170,.mv (.t s011),none⟩,⟨some s171,.idxa 3 (.t s167) (.t s170),none⟩,⟨some s172,.flda 2 (.t s171),none⟩,⟨some s173,.ld (.t s172),none⟩,⟨some s174,.call (.c (.fn 60 [])) [(.t s165),(.t s166),(.t s173)],none⟩])))))))))))))))⟩
/-- slices.Index[[]arbor/api.Point,arbor/api.Point] -/
def g45 : AFunc := ⟨2,[.t s004],
 (.seq (.reg [⟨some s003,.box 2 (.t s001),none⟩,⟨some s004,.mv (.c (.i .i64 0)),none⟩])
 (.seq (.seq (.reg [⟨some s006,.mv (.t s000),none⟩,⟨some s007,.len (.t s006),none⟩,⟨some s010,.mv (.c (.i .i64 0)),none⟩])
 (.block 0 (.loop (.seq (.reg [⟨some s011,.bin .lss (.t s010) (.t s007),none⟩])
   (.seq (.cond (.t s011) (.skip)
   (.exit 0))
   (.seq (.block 1 (.seq (.reg [⟨some s012,.mv (.t s010),none⟩,⟨some s005,.mv (.t s012),none⟩])
    (.seq (.dreg [(0,⟨some s013,.ldn 2 (.t s003),none⟩,0,false),(1,⟨some s014,.mv (.t s000),none⟩,0,false),(2,⟨some s015,.mv (.t s005),none⟩,0,false),(3,⟨some s016,.idxa 2 (.t s014) (.t s015),none⟩,6,false),(4,⟨some s017,.ldn 2 (.t s016),none⟩,14,false),(5,⟨some s020,.eq (.ints 2) false (.t s013) (.t s017),none⟩,31,true)])
    (.cond (.t s020) (.seq (.reg [⟨some s021,.mv (.t s005),none⟩,⟨some s004,.mv (.t s021),none⟩])
     (.ret))
    (.skip)))))
   (.reg [⟨some s022,.bin .add (.t s010) (.c (.i .i64 1)),none⟩,⟨some s010,.mv (.t s022),none⟩])))))))
 (.seq (.reg [⟨some s004,.mv (.c (.i .i64 (-1))),none⟩])
 (.ret))))⟩
/-- arbor/draw.turn -/
def g46 : AFunc := ⟨3,[.t s006],
 (.seq (.reg [⟨some s003,.box 2 (.t s000),none⟩,⟨some s004,.box 2 (.t s001),none⟩,⟨some s005,.box 2 (.t s002),none⟩,⟨some s006,.mv (.c (.i .i64 0)),none⟩])
 (.seq (.reg [⟨some s010,.flda 0 (.t s004),none⟩,⟨some s011,.ld (.t s010),none⟩,⟨some s012,.flda 0 (.t s003),none⟩,⟨some s013,.ld (.t s012),none⟩,⟨some s014,.bin .sub (.t s011) (.t s013),none⟩,⟨some s015,.flda 1 (.t s005),none⟩,⟨some s016,.ld (.t s015),none⟩,⟨some s017,.flda 1 (.t s003),none⟩,⟨some s020,.ld (.t s017),none⟩,⟨some s021,.bin .sub (.t s016) (.t s020),none⟩,⟨some s022,.bin .mul (.t s014) (.t s021),none⟩,⟨some s023,.flda 1 (.t s004),none⟩,⟨some s024,.ld (.t s023),none⟩,⟨some s025,.flda 1 (.t s003),none⟩,⟨some s026,.ld (.t s025),none⟩,⟨some s027,.bin .sub (.t s024) (.t s026),none⟩,⟨some s030,.flda 0 (.t s005),none⟩,⟨some s031,.ld (.t s030),none⟩,⟨some s032,.flda 0 (.t s003),none⟩,⟨some s033,.ld (.t s032),none⟩,⟨some s034,.bin .sub (.t s031) (.t s033),none⟩,⟨some s035,.bin .mul (.t s027) (.t s034),none⟩,⟨some s036,.bin .sub (.t s022) (.t s035),none⟩,⟨some s007,.mv (.t s036),none⟩])
 (.seq (.block 0 (.seq (.reg [⟨some s040,.mv (.t s007),none⟩,⟨some s041,.bin .gtr (.t s040) (.c (.i .i64 0)),none⟩,⟨some s037,.mv (.t s041),none⟩])
  (.cond (.t s037) (.seq (.reg [⟨some s006,.mv (.c (.i .i64 1)),none⟩])
   (.ret))
  (.seq (.reg [⟨some s043,.mv (.t s007),none⟩,⟨some s044,.bin .lss (.t s043) (.c (.i .i64 0)),none⟩,⟨some s042,.mv (.t s044),none⟩])
   (.cond (.t s042) (.seq (.reg [⟨some s006,.mv (.c (.i .i64 (-1))),none⟩])
    (.ret))
   (.skip))))))
 (.seq (.reg [⟨some s006,.mv (.c (.i .i64 0)),none⟩])
 (.ret)))))⟩
/-- arbor/graph.fault -/
def g47 : AFunc := ⟨2,[.cell s004 true 2],
 (.seq (.reg [⟨some s004,.new [(.i .i64 0),(.i .i64 0)],none⟩])
 (.seq (.reg [⟨some s005,.mv (.t s000),none⟩,⟨some s006,.mv (.t s001),none⟩,⟨some s007,.build [(.i .i64 0),(.i .i64 0)] [(0,1,(.t s005)),(1,1,(.t s006))],none⟩,⟨none,.st 2 (.t s004) (.t s007),none⟩])
 (.ret)))⟩
/-- slices.SortFunc[[][2]int,[2]int] -/
def g48 : AFunc := ⟨2,[],
 (.seq (.reg [⟨some s005,.mv (.t s000),none⟩,⟨some s006,.len (.t s005),none⟩,⟨some s004,.mv (.t s006),none⟩])
 (.reg [⟨some s007,.mv (.t s000),none⟩,⟨some s010,.mv (.t s004),none⟩,⟨some s011,.mv (.t s004),none⟩,⟨some s012,.conv .u64 (.t s011),none⟩,⟨some s013,.call (.c (.fn 62 [])) [(.t s012)],none⟩,⟨some s014,.mv (.t s001),none⟩,⟨some s015,.call (.c (.fn 61 [])) [(.t s007),(.c (.i .i64 0)),(.t s010),(.t s013),(.t s014)],none⟩]))⟩
/-- arbor/graph.order -/
def g49 : AFunc := ⟨2,[.t s004],
 (.seq (.reg [⟨some s002,.box 2 (.t s000),none⟩,⟨some s003,.box 2 (.t s001),none⟩,⟨some s004,.mv (.c (.i .i64 0)),none⟩])
 (.seq (.dreg [(0,⟨some s005,.idxp 2 1 (.t s002) (.c (.i .i64 0)),none⟩,0,false),(1,⟨some s006,.ld (.t s005),none⟩,1,false),(2,⟨some s007,.idxp 2 1 (.t s003) (.c (.i .i64 0)),none⟩,0,false),(3,⟨some s010,.ld (.t s007),none⟩,4,false),(4,⟨some s011,.call (.c (.fn 64 [])) [(.t s006),(.t s010)],none⟩,15,false),(5,⟨some s012,.idxp 2 1 (.t s002) (.c (.i .i64 1)),none⟩,0,false),(6,⟨some s013,.ld (.t s012),none⟩,32,false),(7,⟨some s014,.idxp 2 1 (.t s003) (.c (.i .i64 1)),none⟩,0,false),(8,⟨some s015,.ld (.t s014),none⟩,128,false),(9,⟨some s016,.call (.c (.fn 64 [])) [(.t s013),(.t s015)],none⟩,511,true),(10,⟨some s017,.bsl 1 2 [(.i .i64 0),(.i .i64 0)] [(0,1,(.t s011)),(1,1,(.t s016))],none⟩,1023,true),(11,⟨some s020,.call (.c (.fn 63 [])) [(.t s017)],none⟩,2047,true),(12,⟨some s004,.mv (.t s020),none⟩,4095,true)])
 (.ret)))⟩
/-- arbor/draw.behind -/
def g50 : AFunc := ⟨3,[.t s006],
 (.seq (.reg [⟨some s006,.mv (.c .nils),none⟩])
 (.seq (.reg [⟨some s010,.mv (.t s000),none⟩,⟨some s011,.mv (.t s001),none⟩,⟨some s012,.idxa 1 (.t s010) (.t s011),none⟩,⟨some s013,.ld (.t s012),none⟩,⟨some s014,.mv (.t s002),none⟩,⟨some s015,.call (.c (.fn 53 [])) [(.t s013),(.t s014)],none⟩,⟨some s007,.mv (.t s015),none⟩])
 (.seq (.dreg [(0,⟨some s016,.mv (.t s000),none⟩,0,false),(1,⟨some s017,.mv (.t s001),none⟩,0,false),(2,⟨some s020,.idxa 1 (.t s016) (.t s017),none⟩,3,false),(3,⟨some s021,.ld (.t s020),none⟩,7,false),(4,⟨some s022,.mv (.t s007),none⟩,0,false),(5,⟨some s023,.slice 1 (.t s021) (some (.t s022)) none none,none⟩,31,false),(6,⟨some s024,.call (.c (.fn 58 [])) [(.t s023)],none⟩,63,false),(7,⟨some s025,.mv (.t s000),none⟩,0,false),(8,⟨some s026,.mv (.t s001),none⟩,0,false),(9,⟨some s027,.idxa 1 (.t s025) (.t s026),none⟩,384,false),(10,⟨some s030,.ld (.t s027),none⟩,896,false),(11,⟨some s031,.mv (.t s007),none⟩,0,false),(12,⟨some s032,.slice 1 (.t s030) none (some (.t s031)) none,none⟩,3968,false),(13,⟨some s033,.app 1 8 (.t s024) (.t s032),none⟩,8191,true),(14,⟨some s006,.mv (.t s033),none⟩,16383,true)])
 (.ret))))⟩
/-- arbor/draw.inside -/
def g51 : AFunc := ⟨5,[.t s012],
 (.seq (.reg [⟨some s006,.box 1 (.t s001),none⟩,⟨some s012,.mv (.c .nils),none⟩])
 (.seq (.reg [⟨some s020,.mv (.t s000),none⟩,⟨some s021,.mv (.t s002),none⟩,⟨some s022,.mv (.t s003),none⟩,⟨some s023,.call (.c (.fn 50 [])) [(.t s020),(.t s021),(.t s022)],none⟩,⟨some s013,.mv (.t s023),none⟩])
 (.seq (.reg [⟨some s024,.mv (.t s013),none⟩,⟨some s025,.mv (.t s004),none⟩,⟨some s026,.call (.c (.fn 53 [])) [(.t s024),(.t s025)],none⟩,⟨some s014,.mv (.t s026),none⟩])
 (.seq (.dreg [(0,⟨some s027,.mv (.t s013),none⟩,0,true),(1,⟨some s030,.mv (.t s014),none⟩,0,true),(2,⟨some s031,.slice 1 (.t s027) (some (.c (.i .i64 1))) (some (.t s030)) none,none⟩,3,true),(3,⟨some s032,.call (.c (.fn 58 [])) [(.t s031)],none⟩,7,true),(4,⟨some s033,.mv (.t s013),none⟩,0,false),(5,⟨some s034,.mv (.t s014),none⟩,0,false),(6,⟨some s035,.bin .add (.t s034) (.c (.i .i64 1)),none⟩,32,false),(7,⟨some s036,.slice 1 (.t s033) (some (.t s035)) none none,none⟩,112,false),(8,⟨some s037,.call (.c (.fn 58 [])) [(.t s036)],none⟩,255,true),(9,⟨some s015,.mv (.t s032),none⟩,511,true),(10,⟨some s016,.mv (.t s037),none⟩,1023,true)])
 (.seq (.reg [⟨some s040,.mv (.t s016),none⟩,⟨some s041,.call (.c (.fn 52 [])) [(.t s040)],none⟩])
 (.seq (.reg [⟨some s042,.mkf 65 [(.t s006)],none⟩,⟨some s017,.mv (.t s042),none⟩])
 (.seq (.seq (.reg [⟨some s043,.mv (.t s017),none⟩,⟨some s044,.mv (.t s015),none⟩,⟨some s045,.call (.t s043) [(.t s044)],none⟩,⟨some s046,.mv (.t s017),none⟩,⟨some s047,.mv (.t s016),none⟩,⟨some s050,.call (.t s046) [(.t s047)],none⟩,⟨some s015,.mv (.t s045),none⟩,⟨some s016,.mv (.t s050),none⟩])
 (.seq (.reg [⟨some s051,.mv (.t s015),none⟩,⟨some s052,.len (.t s051),none⟩,⟨some s053,.bin .gtr (.t s052) (.c (.i .i64 0)),none⟩])
 (.cond (.t s053) (.seq (.reg [⟨some s054,.mv (.t s015),none⟩,⟨some s012,.mv (.t s054),none⟩])
  (.ret))
 (.skip))))
 (.seq (.reg [⟨some s055,.mv (.t s016),none⟩,⟨some s012,.mv (.t s055),none⟩])
 (.ret)))))))))⟩
/-- slices.Reverse[[]int,int] -/
def g52 : AFunc := ⟨1,[],
 (.seq (.reg [⟨some s004,.mv (.t s000),none⟩,⟨some s005,.len (.t s004),none⟩,⟨some s006,.bin .sub (.t s005) (.c (.i .i64 1)),none⟩,⟨some s002,.mv (.c (.i .i64 0)),none⟩,⟨some s003,.mv (.t s006),none⟩])
 (.block 0 (.loop (.seq (.seq (.reg [⟨some s007,.mv (.t s002),none⟩,⟨some s010,.mv (.t s003),none⟩,⟨some s011,.bin .lss (.t s007) (.t s010),none⟩])
   (.cond (.t s011) (.skip)
   (.exit 0)))
   (.seq (.block 1 (.dreg [(0,⟨some s016,.mv (.t s000),none⟩,0,false),(1,⟨some s017,.mv (.t s002),none⟩,0,false),(4,⟨some s022,.mv (.t s000),none⟩,0,false),(5,⟨some s023,.mv (.t s003),none⟩,0,false),(6,⟨some s024,.idxa 1 (.t s022) (.t s023),none⟩,48,false),(7,⟨some s025,.ld (.t s024),none⟩,112,false),(8,⟨some s026,.mv (.t s000),none⟩,0,false),(9,⟨some s027,.mv (.t s002),none⟩,0,false),(10,⟨some s030,.idxa 1 (.t s026) (.t s027),none⟩,768,false),(11,⟨some s031,.ld (.t s030),none⟩,1792,false),(12,⟨some s032,.idxa 1 (.t s016) (.t s017),none⟩,4083,true),(13,⟨none,.st 1 (.t s032) (.t s025),none⟩,8179,true),(2,⟨some s020,.mv (.t s000),none⟩,0,false),(3,⟨some s021,.mv (.t s003),none⟩,0,false),(14,⟨some s033,.idxa 1 (.t s020) (.t s021),none⟩,16383,true),(15,⟨none,.st 1 (.t s033) (.t s031),none⟩,32767,true)]))
   (.reg [⟨some s012,.mv (.t s002),none⟩,⟨some s013,.bin .add (.t s012) (.c (.i .i64 1)),none⟩,⟨some s014,.mv (.t s003),none⟩,⟨some s015,.bin .sub (.t s014) (.c (.i .i64 1)),none⟩,⟨some s002,.mv (.t s013),none⟩,⟨some s003,.mv (.t s015),none⟩]))))))⟩
/-- slices.Index[[]int,int] -/
def g53 : AFunc := ⟨2,[.t s004],
 (.seq (.reg [⟨some s004,.mv (.c (.i .i64 0)),none⟩])
 (.seq (.seq (.reg [⟨some s006,.mv (.t s000),none⟩,⟨some s007,.len (.t s006),none⟩,⟨some s010,.mv (.c (.i .i64 0)),none⟩])
 (.block 0 (.loop (.seq (.reg [⟨some s011,.bin .lss (.t s010) (.t s007),none⟩])
   (.seq (.cond (.t s011) (.skip)
   (.exit 0))
   (.seq (.block 1 (.seq (.reg [⟨some s012,.mv (.t s010),none⟩,⟨some s005,.mv (.t s012),none⟩])
    (.seq (.reg [⟨some s013,.mv (.t s001),none⟩,⟨some s014,.mv (.t s000),none⟩,⟨some s015,.mv (.t s005),none⟩,⟨some s016,.idxa 1 (.t s014) (.t s015),none⟩,⟨some s017,.ld (.t s016),none⟩,⟨some s020,.eq .int false (.t s013) (.t s017),none⟩])
    (.cond (.t s020) (.seq (.reg [⟨some s021,.mv (.t s005),none⟩,⟨some s004,.mv (.t s021),none⟩])
     (.ret))
    (.skip)))))
   (.reg [⟨some s022,.bin .add (.t s010) (.c (.i .i64 1)),none⟩,⟨some s010,.mv (.t s022),none⟩])))))))
 (.seq (.reg [⟨some s004,.mv (.c (.i .i64 (-1))),none⟩])
 (.ret))))⟩
/-- arbor/parts.blocks -/
def g55 : AFunc := ⟨1,[.t s002],
 (.seq (.reg [⟨some s001,.box 2 (.t s000),none⟩,⟨some s002,.mv (.c .nils),none⟩])
 (.seq (.dreg [(0,⟨some s011,.ldn 2 (.t s001),none⟩,0,false),(1,⟨some s012,.call (.c (.fn 68 [])) [(.t s011)],none⟩,1,false),(2,⟨some s013,.flda 0 (.t s001),none⟩,0,false),(3,⟨some s014,.ld (.t s013),none⟩,4,false),(4,⟨some s015,.mks 1 8 [(.i .i64 0)] (.t s014) (.t s014),none⟩,12,false),(5,⟨some s016,.flda 0 (.t s001),none⟩,0,false),(6,⟨some s017,.ld (.t s016),none⟩,32,false),(7,⟨some s020,.mks 1 8 [(.i .i64 0)] (.t s017) (.t s017),none⟩,96,false),(8,⟨some s021,.build [.nils,.nils,.nils,.nils,.nils] [(0,1,(.t s012)),(1,1,(.t s015)),(2,1,(.t s020))],none⟩,255,true),(9,⟨some s022,.box 5 (.t s021),none⟩,511,true),(10,⟨some s003,.mv (.t s022),none⟩,1023,true)])
 (.seq (.reg [⟨some s004,.mv (.c (.i .i64 0)),none⟩])
 (.seq (.seq (.reg [⟨some s023,.flda 0 (.t s001),none⟩,⟨some s024,.ld (.t s023),none⟩,⟨some s025,.mv (.c (.i .i64 0)),none⟩])
 (.block 0 (.loop (.seq (.reg [⟨some s026,.bin .lss (.t s025) (.t s024),none⟩])
   (.seq (.cond (.t s026) (.skip)
   (.exit 0))
   (.seq (.block 1 (.seq (.reg [⟨some s027,.mv (.t s025),none⟩,⟨some s005,.mv (.t s027),none⟩])
    (.seq (.reg [⟨some s030,.mv (.t s003),none⟩,⟨some s031,.nilck (.t s030),none⟩,⟨some s032,.flda 1 (.t s031),none⟩,⟨some s033,.ld (.t s032),none⟩,⟨some s034,.mv (.t s005),none⟩,⟨some s035,.idxa 1 (.t s033) (.t s034),none⟩,⟨some s036,.ld (.t s035),none⟩,⟨some s037,.eq .int false (.t s036) (.c (.i .i64 0)),none⟩])
    (.cond (.t s037) (.reg [⟨some s040,.mv (.t s003),none⟩,⟨some s041,.mv (.t s005),none⟩,⟨some s042,.mv (.t s004),none⟩,⟨some s043,.call (.c (.fn 69 [])) [(.t s040),(.t s041),(.c (.i .i64 (-1))),(.t s042)],none⟩,⟨some s004,.mv (.t s043),none⟩])
    (.skip)))))
   (.reg [⟨some s044,.bin .add (.t s025) (.c (.i .i64 1)),none⟩,⟨some s025,.mv (.t s044),none⟩])))))))
 (.seq (.reg [⟨some s006,.mv (.c .nils),none⟩])
 (.seq (.seq (.reg [⟨some s045,.mv (.t s003),none⟩,⟨some s046,.nilck (.t s045),none⟩,⟨some s047,.flda 4 (.t s046),none⟩,⟨some s050,.ld (.t s047),none⟩,⟨some s051,.len (.t s050),none⟩,⟨some s052,.mv (.c (.i .i64 0)),none⟩])
 (.block 2 (.loop (.seq (.reg [⟨some s053,.bin .lss (.t s052) (.t s051),none⟩])
   (.seq (.cond (.t s053) (.skip)
   (.exit 2))
   (.seq (.block 3 (.seq (.reg [⟨some s054,.idxa 1 (.t s050) (.t s052),none⟩,⟨some s055,.ld (.t s054),none⟩,⟨some s010,.mv (.t s055),none⟩])
    (.reg [⟨some s056,.mv (.t s006),none⟩,⟨some s057,.flda 0 (.t s001),none⟩,⟨some s060,.ld (.t s057),none⟩,⟨some s061,.mv (.t s010),none⟩,⟨some s062,.call (.c (.fn 34 [])) [(.t s060),(.t s061)],none⟩,⟨some s063,.fld false 1 1 (.t s062),none⟩,⟨some s064,.bsl 1 1 [.nils] [(0,1,(.t s063))],none⟩,⟨some s065,.app 1 24 (.t s056) (.t s064),none⟩,⟨some s006,.mv (.t s065),none⟩])))
   (.reg [⟨some s066,.bin .add (.t s052) (.c (.i .i64 1)),none⟩,⟨some s052,.mv (.t s066),none⟩])))))))
 (.seq (.reg [⟨some s067,.mv (.t s006),none⟩,⟨some s070,.call (.c (.fn 70 [])) [(.t s067),(.c (.fn 71 []))],none⟩])
 (.seq (.reg [⟨some s071,.mv (.t s006),none⟩,⟨some s002,.mv (.t s071),none⟩])
 (.ret)))))))))⟩
/-- arbor/plane.first -/
def g56 : AFunc := ⟨2,[.t s004],
 (.seq (.reg [⟨some s003,.box 2 (.t s001),none⟩,⟨some s004,.mv (.c .nils),none⟩])
 (.seq (.reg [⟨some s014,.mv (.t s000),none⟩,⟨some s015,.len (.t s014),none⟩,⟨some s016,.mks 1 8 [(.i .i64 0)] (.t s015) (.t s015),none⟩,⟨some s005,.mv (.t s016),none⟩])
 (.seq (.seq (.reg [⟨some s017,.mv (.t s005),none⟩,⟨some s020,.len (.t s017),none⟩,⟨some s021,.mv (.c (.i .i64 0)),none⟩])
 (.block 0 (.loop (.seq (.reg [⟨some s022,.bin .lss (.t s021) (.t s020),none⟩])
   (.seq (.cond (.t s022) (.skip)
   (.exit 0))
   (.seq (.block 1 (.seq (.reg [⟨some s023,.mv (.t s021),none⟩,⟨some s006,.mv (.t s023),none⟩])
    (.reg [⟨some s024,.mv (.t s005),none⟩,⟨some s025,.mv (.t s006),none⟩,⟨some s026,.idxa 1 (.t s024) (.t s025),none⟩,⟨none,.st 1 (.t s026) (.c (.i .i64 (-1))),none⟩])))
   (.reg [⟨some s027,.bin .add (.t s021) (.c (.i .i64 1)),none⟩,⟨some s021,.mv (.t s027),none⟩])))))))
 (.seq (.reg [⟨some s030,.mv (.t s005),none⟩,⟨some s031,.idxp 2 1 (.t s003) (.c (.i .i64 0)),none⟩,⟨some s032,.ld (.t s031),none⟩,⟨some s033,.idxp 2 1 (.t s003) (.c (.i .i64 0)),none⟩,⟨some s034,.ld (.t s033),none⟩,⟨some s035,.idxa 1 (.t s030) (.t s032),none⟩,⟨none,.st 1 (.t s035) (.t s034),none⟩])
 (.seq (.seq (.reg [⟨some s036,.idxp 2 1 (.t s003) (.c (.i .i64 0)),none⟩,⟨some s037,.ld (.t s036),none⟩,⟨some s040,.bsl 1 1 [(.i .i64 0)] [(0,1,(.t s037))],none⟩,⟨some s007,.mv (.t s040),none⟩])
 (.block 2 (.loop (.seq (.seq (.reg [⟨some s041,.mv (.t s007),none⟩,⟨some s042,.len (.t s041),none⟩,⟨some s043,.bin .gtr (.t s042) (.c (.i .i64 0)),none⟩])
   (.cond (.t s043) (.skip)
   (.exit 2)))
   (.seq (.block 3 (.seq (.reg [⟨some s046,.mv (.t s000),none⟩,⟨some s047,.mv (.t s007),none⟩,⟨some s050,.idxa 1 (.t s047) (.c (.i .i64 0)),none⟩,⟨some s051,.ld (.t s050),none⟩,⟨some s052,.idxa 1 (.t s046) (.t s051),none⟩,⟨some s053,.ld (.t s052),none⟩,⟨some s054,.len (.t s053),none⟩,⟨some s055,.mv (.c (.i .i64 0)),none⟩])
    (.block 4 (.loop (.seq (.reg [⟨some s056,.bin .lss (.t s055) (.t s054),none⟩])
      (.seq (.cond (.t s056) (.skip)
      (.exit 4))
      (.seq (.block 5 (.seq (.reg [⟨some s057,.mv (.t s055),none⟩,⟨some s060,.idxa 1 (.t s053) (.t s055),none⟩,⟨some s061,.ld (.t s060),none⟩,⟨some s010,.mv (.t s057),none⟩,⟨some s011,.mv (.t s061),none⟩])
       (.seq (.dreg [(0,⟨some s062,.mv (.t s011),none⟩,0,true),(1,⟨some s063,.mv (.t s062),none⟩,1,true),(2,⟨some s064,.mv (.t s005),(some (s063,true))⟩,3,true),(3,⟨some s065,.mv (.t s010),(some (s063,true))⟩,3,true),(4,⟨some s066,.idxa 1 (.t s064) (.t s065),(some (s063,true))⟩,15,true),(5,⟨some s067,.ld (.t s066),(some (s063,true))⟩,31,true),(6,⟨some s070,.bin .lss (.t s067) (.c (.i .i64 0)),(some (s063,true))⟩,63,true),(7,⟨some s071,.pick (.t s063) (.t s070) (.c (.b false)),none⟩,127,true),(8,⟨some s072,.mv (.t s071),none⟩,255,true),(9,⟨some s073,.mv (.t s007),(some (s072,true))⟩,511,false),(10,⟨some s074,.idxa 1 (.t s073) (.c (.i .i64 0)),(some (s072,true))⟩,1023,false),(11,⟨some s075,.ld (.t s074),(some (s072,true))⟩,2047,false),(12,⟨some s076,.idxp 2 1 (.t s003) (.c (.i .i64 0)),(some (s072,true))⟩,511,false),(13,⟨some s077,.ld (.t s076),(some (s072,true))⟩,4607,false),(14,⟨some s100,.eq .int false (.t s075) (.t s077),(some (s072,true))⟩,16383,true),(15,⟨some s101,.mv (.t s100),(some (s072,true))⟩,32767,true),(16,⟨some s102,.mv (.t s010),(some (s101,true))⟩,65535,false),(17,⟨some s103,.idxp 2 1 (.t s003) (.c (.i .i64 1)),(some (s101,true))⟩,65535,true),(18,⟨some s104,.ld (.t s103),(some (s101,true))⟩,196607,true),(19,⟨some s105,.eq .int false (.t s102) (.t s104),(some (s101,true))⟩,524287,true),(20,⟨some s106,.pick (.t s101) (.t s105) (.c (.b false)),(some (s072,true))⟩,1048575,true),(21,⟨some s107,.un .not (.t s106),(some (s072,true))⟩,2097151,true),(22,⟨some s110,.pick (.t s072) (.t s107) (.c (.b false)),none⟩,4194303,true)])
       (.cond (.t s110) (.seq (.reg [⟨some s111,.mv (.t s005),none⟩,⟨some s112,.mv (.t s010),none⟩,⟨some s113,.mv (.t s007),none⟩,⟨some s114,.idxa 1 (.t s113) (.c (.i .i64 0)),none⟩,⟨some s115,.ld (.t s114),none⟩,⟨some s116,.idxa 1 (.t s111) (.t s112),none⟩,⟨none,.st 1 (.t s116) (.t s115),none⟩])
        (.reg [⟨some s117,.mv (.t s007),none⟩,⟨some s120,.mv (.t s010),none⟩,⟨some s121,.bsl 1 1 [(.i .i64 0)] [(0,1,(.t s120))],none⟩,⟨some s122,.app 1 8 (.t s117) (.t s121),none⟩,⟨some s007,.mv (.t s122),none⟩]))
       (.skip)))))
      (.reg [⟨some s123,.bin .add (.t s055) (.c (.i .i64 1)),none⟩,⟨some s055,.mv (.t s123),none⟩]))))))))
   (.reg [⟨some s044,.mv (.t s007),none⟩,⟨some s045,.slice 1 (.t s044) (some (.c (.i .i64 1))) none none,none⟩,⟨some s007,.mv (.t s045),none⟩]))))))
 (.seq (.reg [⟨some s012,.mv (.c .nils),none⟩])
 (.seq (.seq (.reg [⟨some s124,.idxp 2 1 (.t s003) (.c (.i .i64 1)),none⟩,⟨some s125,.ld (.t s124),none⟩,⟨some s013,.mv (.t s125),none⟩])
 (.block 6 (.loop (.seq (.seq (.reg [⟨some s126,.mv (.t s013),none⟩,⟨some s127,.idxp 2 1 (.t s003) (.c (.i .i64 0)),none⟩,⟨some s130,.ld (.t s127),none⟩,⟨some s131,.eq .int true (.t s126) (.t s130),none⟩])
   (.cond (.t s131) (.skip)
   (.exit 6)))
   (.seq (.block 7 (.reg [⟨some s136,.mv (.t s012),none⟩,⟨some s137,.mv (.t s013),none⟩,⟨some s140,.bsl 1 1 [(.i .i64 0)] [(0,1,(.t s137))],none⟩,⟨some s141,.app 1 8 (.t s136) (.t s140),none⟩,⟨some s012,.mv (.t s141),none⟩]))
   (.reg [⟨some s132,.mv (.t s005),none⟩,⟨some s133,.mv (.t s013),none⟩,⟨some s134,.idxa 1 (.t s132) (.t s133),none⟩,⟨some s135,.ld (.t s134),none⟩,⟨some s013,.mv (.t s135),none⟩]))))))
 (.seq (.reg [⟨some s142,.mv (.t s012),none⟩,⟨some s143,.idxp 2 1 (.t s003) (.c (.i .i64 0)),none⟩,⟨some s144,.ld (.t s143),none⟩,⟨some s145,.bsl 1 1 [(.i .i64 0)] [(0,1,(.t s144))],none⟩,⟨some s146,.app 1 8 (.t s142) (.t s145),none⟩,⟨some s004,.mv (.t s146),none⟩])
 (.ret)))))))))⟩
/-- (*arbor/plane.block).lay -/
def g57 : AFunc := ⟨2,[],
 (.seq (.reg [⟨some s006,.mv (.t s001),none⟩,⟨some s007,.len (.t s006),none⟩,⟨some s010,.mv (.c (.i .i64 0)),none⟩])
 (.block 0 (.loop (.seq (.reg [⟨some s011,.bin .lss (.t s010) (.t s007),none⟩])
   (.seq (.cond (.t s011) (.skip)
   (.exit 0))
   (.seq (.block 1 (.seq (.reg [⟨some s012,.mv (.t s010),none⟩,⟨some s013,.idxa 1 (.t s006) (.t s010),none⟩,⟨some s014,.ld (.t s013),none⟩,⟨some s004,.mv (.t s012),none⟩,⟨some s005,.mv (.t s014),none⟩])
    (.seq (.reg [⟨some s015,.mv (.t s000),none⟩,⟨some s016,.nilck (.t s015),none⟩,⟨some s017,.flda 2 (.t s016),none⟩,⟨some s020,.ld (.t s017),none⟩,⟨some s021,.mv (.t s005),none⟩,⟨some s022,.idxa 1 (.t s020) (.t s021),none⟩,⟨none,.st 1 (.t s022) (.c (.b true)),none⟩])
    (.seq (.reg [⟨some s023,.mv (.t s004),none⟩,⟨some s024,.bin .gtr (.t s023) (.c (.i .i64 0)),none⟩])
    (.cond (.t s024) (.dreg [(0,⟨some s025,.mv (.t s000),none⟩,0,false),(1,⟨some s026,.nilck (.t s025),none⟩,1,false),(2,⟨some s027,.flda 1 (.t s026),none⟩,3,false),(3,⟨some s030,.ld (.t s027),none⟩,7,false),(4,⟨some s031,.mv (.t s005),none⟩,0,false),(5,⟨some s032,.idxa 1 (.t s030) (.t s031),none⟩,31,false),(6,⟨some s033,.ld (.t s032),none⟩,63,false),(7,⟨some s034,.mv (.t s001),none⟩,0,false),(8,⟨some s035,.mv (.t s004),none⟩,0,false),(9,⟨some s036,.bin .sub (.t s035) (.c (.i .i64 1)),none⟩,256,false),(10,⟨some s037,.idxa 1 (.t s034) (.t s036),none⟩,896,false),(11,⟨some s040,.ld (.t s037),none⟩,1920,false),(12,⟨some s041,.mv (.t s000),none⟩,0,false),(13,⟨some s042,.nilck (.t s041),none⟩,4096,false),(14,⟨some s043,.flda 1 (.t s042),none⟩,12288,false),(15,⟨some s044,.ld (.t s043),none⟩,28672,false),(16,⟨some s045,.mv (.t s001),none⟩,0,false),(17,⟨some s046,.mv (.t s004),none⟩,0,false),(18,⟨some s047,.bin .sub (.t s046) (.c (.i .i64 1)),none⟩,131072,false),(19,⟨some s050,.idxa 1 (.t s045) (.t s047),none⟩,458752,false),(20,⟨some s051,.ld (.t s050),none⟩,983040,false),(21,⟨some s052,.idxa 1 (.t s044) (.t s051),none⟩,2093056,false),(22,⟨some s053,.ld (.t s052),none⟩,4190208,false),(24,⟨some s055,.idxa 1 (.t s033) (.t s040),none⟩,8388607,true),(25,⟨none,.st 1 (.t s055) (.c (.b true)),none⟩,25165823,true),(23,⟨some s054,.mv (.t s005),none⟩,0,false),(26,⟨some s056,.idxa 1 (.t s053) (.t s054),none⟩,67108863,true),(27,⟨none,.st 1 (.t s056) (.c (.b true)),none⟩,134217727,true)])
    (.skip))))))
   (.reg [⟨some s057,.bin .add (.t s010) (.c (.i .i64 1)),none⟩,⟨some s010,.mv (.t s057),none⟩])))))))⟩
/-- slices.Clone[[]int,int] -/
def g58 : AFunc := ⟨1,[.t s002],
 (.seq (.reg [⟨some s002,.mv (.c .nils),none⟩])
 (.seq (.seq (.reg [⟨some s003,.mv (.t s000),none⟩,⟨some s004,.eq .slice false (.t s003) (.c .nils),none⟩])
 (.cond (.t s004) (.seq (.reg [⟨some s002,.mv (.c .nils),none⟩])
  (.ret))
 (.skip)))
 (.seq (.reg [⟨some s005,.bsl 1 0 [] [],none⟩,⟨some s006,.mv (.t s000),none⟩,⟨some s007,.app 1 8 (.t s005) (.t s006),none⟩,⟨some s002,.mv (.t s007),none⟩])
 (.ret))))⟩
/-- (*arbor/plane.block).pieces -/
def g59 : AFunc := ⟨1,[.t s002],
 (.seq (.reg [⟨some s002,.mv (.c .nils),none⟩])
 (.seq (.reg [⟨some s003,.mv (.c .nils),none⟩])
 (.seq (.seq (.reg [⟨some s016,.mv (.t s000),none⟩,⟨some s017,.nilck (.t s016),none⟩,⟨some s020,.flda 0 (.t s017),none⟩,⟨some s021,.ld (.t s020),none⟩,⟨some s022,.len (.t s021),none⟩,⟨some s023,.mv (.c (.i .i64 0)),none⟩])
 (.block 0 (.loop (.seq (.reg [⟨some s024,.bin .lss (.t s023) (.t s022),none⟩])
   (.seq (.cond (.t s024) (.skip)
   (.exit 0))
   (.seq (.block 1 (.seq (.reg [⟨some s025,.mv (.t s023),none⟩,⟨some s004,.mv (.t s025),none⟩])
    (.seq (.reg [⟨some s026,.mv (.t s004),none⟩,⟨some s027,.mv (.c (.i .i64 0)),none⟩])
    (.block 2 (.loop (.seq (.reg [⟨some s030,.bin .lss (.t s027) (.t s026),none⟩])
      (.seq (.cond (.t s030) (.skip)
      (.exit 2))
      (.seq (.block 3 (.seq (.reg [⟨some s031,.mv (.t s027),none⟩,⟨some s005,.mv (.t s031),none⟩])
       (.seq (.reg [⟨some s032,.mv (.t s000),none⟩,⟨some s033,.nilck (.t s032),none⟩,⟨some s034,.flda 2 (.t s033),none⟩,⟨some s035,.ld (.t s034),none⟩,⟨some s036,.mv (.t s004),none⟩,⟨some s037,.idxa 1 (.t s035) (.t s036),none⟩,⟨some s040,.ld (.t s037),none⟩,⟨some s041,.mv (.t s040),none⟩,⟨some s042,.mv (.t s000),(some (s041,true))⟩,⟨some s043,.nilck (.t s042),(some (s041,true))⟩,⟨some s044,.flda 2 (.t s043),(some (s041,true))⟩,⟨some s045,.ld (.t s044),(some (s041,true))⟩,⟨some s046,.mv (.t s005),(some (s041,true))⟩,⟨some s047,.idxa 1 (.t s045) (.t s046),(some (s041,true))⟩,⟨some s050,.ld (.t s047),(some (s041,true))⟩,⟨some s051,.pick (.t s041) (.t s050) (.c (.b false)),none⟩,⟨some s052,.mv (.t s051),none⟩,⟨some s053,.mv (.t s000),(some (s052,true))⟩,⟨some s054,.nilck (.t s053),(some (s052,true))⟩,⟨some s055,.flda 0 (.t s054),(some (s052,true))⟩,⟨some s056,.ld (.t s055),(some (s052,true))⟩,⟨some s057,.mv (.t s004),(some (s052,true))⟩,⟨some s060,.idxa 1 (.t s056) (.t s057),(some (s052,true))⟩,⟨some s061,.ld (.t s060),(some (s052,true))⟩,⟨some s062,.mv (.t s005),(some (s052,true))⟩,⟨some s063,.idxa 1 (.t s061) (.t s062),(some (s052,true))⟩,⟨some s064,.ld (.t s063),(some (s052,true))⟩,⟨some s065,.pick (.t s052) (.t s064) (.c (.b false)),none⟩,⟨some s066,.mv (.t s065),none⟩,⟨some s067,.mv (.t s000),(some (s066,true))⟩,⟨some s070,.nilck (.t s067),(some (s066,true))⟩,⟨some s071,.flda 1 (.t s070),(some (s066,true))⟩,⟨some s072,.ld (.t s071),(some (s066,true))⟩,⟨some s073,.mv (.t s004),(some (s066,true))⟩,⟨some s074,.idxa 1 (.t s072) (.t s073),(some (s066,true))⟩,⟨some s075,.ld (.t s074),(some (s066,true))⟩,⟨some s076,.mv (.t s005),(some (s066,true))⟩,⟨some s077,.idxa 1 (.t s075) (.t s076),(some (s066,true))⟩,⟨some s100,.ld (.t s077),(some (s066,true))⟩,⟨some s101,.un .not (.t s100),(some (s066,true))⟩,⟨some s102,.pick (.t s066) (.t s101) (.c (.b false)),none⟩])
       (.cond (.t s102) (.reg [⟨some s103,.mv (.t s003),none⟩,⟨some s104,.mv (.t s005),none⟩,⟨some s105,.mv (.t s004),none⟩,⟨some s106,.bsl 1 2 [(.i .i64 0),(.i .i64 0)] [(0,1,(.t s104)),(1,1,(.t s105))],none⟩,⟨some s107,.mv (.t s005),none⟩,⟨some s110,.mv (.t s004),none⟩,⟨some s111,.bsl 1 2 [(.i .i64 0),(.i .i64 0)] [(0,1,(.t s107)),(1,1,(.t s110))],none⟩,⟨some s112,.build [.nilm,.nils,.nils] [(1,1,(.t s106)),(2,1,(.t s111))],none⟩,⟨some s113,.bsl 3 1 [.nilm,.nils,.nils] [(0,3,(.t s112))],none⟩,⟨some s114,.app 3 56 (.t s103) (.t s113),none⟩,⟨some s003,.mv (.t s114),none⟩])
       (.skip)))))
      (.reg [⟨some s115,.bin .add (.t s027) (.c (.i .i64 1)),none⟩,⟨some s027,.mv (.t s115),none⟩])))))))))
   (.reg [⟨some s116,.bin .add (.t s023) (.c (.i .i64 1)),none⟩,⟨some s023,.mv (.t s116),none⟩])))))))
 (.seq (.reg [⟨some s117,.mv (.t s000),none⟩,⟨some s120,.nilck (.t s117),none⟩,⟨some s121,.flda 0 (.t s120),none⟩,⟨some s122,.ld (.t s121),none⟩,⟨some s123,.len (.t s122),none⟩,⟨some s124,.mks 1 1 [(.b false)] (.t s123) (.t s123),none⟩,⟨some s006,.mv (.t s124),none⟩])
 (.seq (.seq (.reg [⟨some s125,.mv (.t s000),none⟩,⟨some s126,.nilck (.t s125),none⟩,⟨some s127,.flda 0 (.t s126),none⟩,⟨some s130,.ld (.t s127),none⟩,⟨some s131,.len (.t s130),none⟩,⟨some s132,.mv (.c (.i .i64 0)),none⟩])
 (.block 4 (.loop (.seq (.reg [⟨some s133,.bin .lss (.t s132) (.t s131),none⟩])
   (.seq (.cond (.t s133) (.skip)
   (.exit 4))
   (.seq (.block 5 (.seq (.reg [⟨some s134,.mv (.t s132),none⟩,⟨some s007,.mv (.t s134),none⟩])
    (.seq (.seq (.reg [⟨some s135,.mv (.t s006),none⟩,⟨some s136,.mv (.t s007),none⟩,⟨some s137,.idxa 1 (.t s135) (.t s136),none⟩,⟨some s140,.ld (.t s137),none⟩,⟨some s141,.mv (.t s140),none⟩,⟨some s142,.mv (.t s000),(some (s141,false))⟩,⟨some s143,.nilck (.t s142),(some (s141,false))⟩,⟨some s144,.flda 2 (.t s143),(some (s141,false))⟩,⟨some s145,.ld (.t s144),(some (s141,false))⟩,⟨some s146,.mv (.t s007),(some (s141,false))⟩,⟨some s147,.idxa 1 (.t s145) (.t s146),(some (s141,false))⟩,⟨some s150,.ld (.t s147),(some (s141,false))⟩,⟨some s151,.pick (.t s141) (.c (.b true)) (.t s150),none⟩,⟨some s152,.mv (.t s151),none⟩,⟨some s153,.mv (.t s000),(some (s152,false))⟩,⟨some s154,.nilck (.t s153),(some (s152,false))⟩,⟨some s155,.flda 0 (.t s154),(some (s152,false))⟩,⟨some s156,.ld (.t s155),(some (s152,false))⟩,⟨some s157,.mv (.t s007),(some (s152,false))⟩,⟨some s160,.idxa 1 (.t s156) (.t s157),(some (s152,false))⟩,⟨some s161,.ld (.t s160),(some (s152,false))⟩,⟨some s162,.call (.c (.fn 72 [])) [(.t s161),(.c (.b true))],(some (s152,false))⟩,⟨some s163,.un .not (.t s162),(some (s152,false))⟩,⟨some s164,.pick (.t s152) (.c (.b true)) (.t s163),none⟩])
    (.cond (.t s164) (.exit 5)
    (.skip)))
    (.seq (.reg [⟨some s165,.mkmap,none⟩,⟨some s166,.mv (.t s007),none⟩,⟨none,.mapup .int (.t s165) (.t s166) (.c (.b true)),none⟩,⟨some s167,.mv (.t s165),none⟩,⟨some s170,.build [.nilm,.nils,.nils] [(0,1,(.t s167))],none⟩,⟨some s010,.new [.nilm,.nils,.nils],none⟩,⟨none,.st 3 (.t s010) (.t s170),none⟩])
    (.seq (.reg [⟨some s171,.mv (.t s006),none⟩,⟨some s172,.mv (.t s007),none⟩,⟨some s173,.idxa 1 (.t s171) (.t s172),none⟩,⟨none,.st 1 (.t s173) (.c (.b true)),none⟩])
    (.seq (.reg [⟨some s174,.mkmap,none⟩,⟨some s011,.mv (.t s174),none⟩])
    (.seq (.seq (.reg [⟨some s175,.mv (.t s007),none⟩,⟨some s176,.bsl 1 1 [(.i .i64 0)] [(0,1,(.t s175))],none⟩,⟨some s012,.mv (.t s176),none⟩])
    (.block 6 (.loop (.seq (.seq (.reg [⟨some s177,.mv (.t s012),none⟩,⟨some s200,.len (.t s177),none⟩,⟨some s201,.bin .gtr (.t s200) (.c (.i .i64 0)),none⟩])
      (.cond (.t s201) (.skip)
      (.exit 6)))
      (.seq (.block 7 (.seq (.dreg [(0,⟨some s204,.mv (.t s000),none⟩,0,false),(1,⟨some s205,.nilck (.t s204),none⟩,1,false),(2,⟨some s206,.flda 0 (.t s205),none⟩,3,false),(3,⟨some s207,.ld (.t s206),none⟩,7,false),(4,⟨some s210,.mv (.t s012),none⟩,0,false),(5,⟨some s211,.idxa 1 (.t s210) (.c (.i .i64 0)),none⟩,16,false),(6,⟨some s212,.ld (.t s211),none⟩,48,false),(7,⟨some s213,.idxa 1 (.t s207) (.t s212),none⟩,127,true),(8,⟨some s214,.ld (.t s213),none⟩,255,true),(9,⟨some s215,.len (.t s214),none⟩,511,true),(10,⟨some s216,.mv (.c (.i .i64 0)),none⟩,0,false)])
       (.block 8 (.loop (.seq (.reg [⟨some s217,.bin .lss (.t s216) (.t s215),none⟩])
         (.seq (.cond (.t s217) (.skip)
         (.exit 8))
         (.seq (.block 9 (.seq (.reg [⟨some s220,.mv (.t s216),none⟩,⟨some s221,.idxa 1 (.t s214) (.t s216),none⟩,⟨some s222,.ld (.t s221),none⟩,⟨some s013,.mv (.t s220),none⟩,⟨some s014,.mv (.t s222),none⟩])
          (.block 10 (.seq (.reg [⟨some s224,.mv (.t s014),none⟩,⟨some s225,.un .not (.t s224),none⟩,⟨some s223,.mv (.t s225),none⟩])
           (.cond (.t s223) (.skip)
           (.seq (.reg [⟨some s227,.mv (.t s000),none⟩,⟨some s230,.nilck (.t s227),none⟩,⟨some s231,.flda 2 (.t s230),none⟩,⟨some s232,.ld (.t s231),none⟩,⟨some s233,.mv (.t s013),none⟩,⟨some s234,.idxa 1 (.t s232) (.t s233),none⟩,⟨some s235,.ld (.t s234),none⟩,⟨some s226,.mv (.t s235),none⟩])
            (.cond (.t s226) (.reg [⟨some s236,.mv (.t s011),none⟩,⟨some s237,.mv (.t s013),none⟩,⟨none,.mapup .int (.t s236) (.t s237) (.c (.b true)),none⟩])
            (.seq (.reg [⟨some s241,.mv (.t s006),none⟩,⟨some s242,.mv (.t s013),none⟩,⟨some s243,.idxa 1 (.t s241) (.t s242),none⟩,⟨some s244,.ld (.t s243),none⟩,⟨some s245,.un .not (.t s244),none⟩,⟨some s240,.mv (.t s245),none⟩])
             (.cond (.t s240) (.seq (.dreg [(0,⟨some s246,.mv (.t s006),none⟩,0,false),(1,⟨some s247,.mv (.t s013),none⟩,0,false),(5,⟨some s253,.idxa 1 (.t s246) (.t s247),none⟩,3,false),(6,⟨none,.st 1 (.t s253) (.c (.b true)),none⟩,35,false),(2,⟨some s250,.flda 0 (.t s010),none⟩,0,false),(3,⟨some s251,.ld (.t s250),none⟩,4,false),(4,⟨some s252,.mv (.t s013),none⟩,0,false),(7,⟨none,.mapup .int (.t s251) (.t s252) (.c (.b true)),none⟩,127,true)])
              (.reg [⟨some s254,.mv (.t s012),none⟩,⟨some s255,.mv (.t s013),none⟩,⟨some s256,.bsl 1 1 [(.i .i64 0)] [(0,1,(.t s255))],none⟩,⟨some s257,.app 1 8 (.t s254) (.t s256),none⟩,⟨some s012,.mv (.t s257),none⟩]))
             (.skip))))))))))
         (.reg [⟨some s260,.bin .add (.t s216) (.c (.i .i64 1)),none⟩,⟨some s216,.mv (.t s260),none⟩]))))))))
      (.reg [⟨some s202,.mv (.t s012),none⟩,⟨some s203,.slice 1 (.t s202) (some (.c (.i .i64 1))) none none,none⟩,⟨some s012,.mv (.t s203),none⟩]))))))
    (.seq (.seq (.reg [⟨some s261,.mv (.t s000),none⟩,⟨some s262,.nilck (.t s261),none⟩,⟨some s263,.flda 0 (.t s262),none⟩,⟨some s264,.ld (.t s263),none⟩,⟨some s265,.len (.t s264),none⟩,⟨some s266,.mv (.c (.i .i64 0)),none⟩])
    (.block 11 (.loop (.seq (.reg [⟨some s267,.bin .lss (.t s266) (.t s265),none⟩])
      (.seq (.cond (.t s267) (.skip)
      (.exit 11))
      (.seq (.block 12 (.seq (.reg [⟨some s270,.mv (.t s266),none⟩,⟨some s015,.mv (.t s270),none⟩])
       (.seq (.reg [⟨some s271,.mv (.t s011),none⟩,⟨some s272,.mv (.t s015),none⟩,⟨some s273,.lookup (.b false) false .int (.t s271) (.t s272),none⟩])
       (.cond (.t s273) (.reg [⟨some s274,.flda 1 (.t s010),none⟩,⟨some s275,.ld (.t s274),none⟩,⟨some s276,.mv (.t s015),none⟩,⟨some s277,.bsl 1 1 [(.i .i64 0)] [(0,1,(.t s276))],none⟩,⟨some s300,.app 1 8 (.t s275) (.t s277),none⟩,⟨some s301,.flda 1 (.t s010),none⟩,⟨none,.st 1 (.t s301) (.t s300),none⟩])
       (.skip)))))
      (.reg [⟨some s302,.bin .add (.t s266) (.c (.i .i64 1)),none⟩,⟨some s266,.mv (.t s302),none⟩])))))))
    (.seq (.reg [⟨some s303,.mv (.t s000),none⟩,⟨some s304,.ldn 3 (.t s010),none⟩,⟨some s305,.call (.c (.fn 73 [])) [(.t s303),(.t s304)],none⟩,⟨some s306,.flda 2 (.t s010),none⟩,⟨none,.st 1 (.t s306) (.t s305),none⟩])
    (.reg [⟨some s307,.mv (.t s003),none⟩,⟨some s310,.ldn 3 (.t s010),none⟩,⟨some s311,.bsl 3 1 [.nilm,.nils,.nils] [(0,3,(.t s310))],none⟩,⟨some s312,.app 3 56 (.t s307) (.t s311),none⟩,⟨some s003,.mv (.t s312),none⟩]))))))))))
   (.reg [⟨some s313,.bin .add (.t s132) (.c (.i .i64 1)),none⟩,⟨some s132,.mv (.t s313),none⟩])))))))
 (.seq (.reg [⟨some s314,.mv (.t s003),none⟩,⟨some s002,.mv (.t s314),none⟩])
 (.ret)))))))⟩
/-- (*arbor/plane.block).split -/
def g60 : AFunc := ⟨3,[],
 (.seq (.reg [⟨some s014,.mv (.t s000),none⟩,⟨some s015,.nilck (.t s014),none⟩,⟨some s016,.flda 3 (.t s015),none⟩,⟨some s017,.ld (.t s016),none⟩,⟨some s020,.mv (.t s001),none⟩,⟨some s021,.idxa 1 (.t s017) (.t s020),none⟩,⟨some s022,.ld (.t s021),none⟩,⟨some s006,.new [.nils],none⟩,⟨none,.st 1 (.t s006) (.t s022),none⟩])
 (.seq (.dreg [(0,⟨some s023,.ld (.t s006),none⟩,0,false),(1,⟨some s024,.mv (.t s002),none⟩,0,false),(2,⟨some s025,.idxa 1 (.t s024) (.c (.i .i64 0)),none⟩,2,false),(3,⟨some s026,.ld (.t s025),none⟩,6,false),(4,⟨some s027,.call (.c (.fn 53 [])) [(.t s023),(.t s026)],none⟩,15,false),(5,⟨some s030,.ld (.t s006),none⟩,0,false),(6,⟨some s031,.mv (.t s002),none⟩,0,false),(7,⟨some s032,.mv (.t s002),none⟩,0,false),(8,⟨some s033,.len (.t s032),none⟩,128,false),(9,⟨some s034,.bin .sub (.t s033) (.c (.i .i64 1)),none⟩,384,false),(10,⟨some s035,.idxa 1 (.t s031) (.t s034),none⟩,960,false),(11,⟨some s036,.ld (.t s035),none⟩,1984,false),(12,⟨some s037,.call (.c (.fn 53 [])) [(.t s030),(.t s036)],none⟩,4095,true),(13,⟨some s007,.mv (.t s027),none⟩,8191,true),(14,⟨some s010,.mv (.t s037),none⟩,16383,true)])
 (.seq (.reg [⟨some s040,.mv (.t s002),none⟩,⟨some s041,.mv (.t s002),none⟩,⟨some s042,.len (.t s041),none⟩,⟨some s043,.bin .sub (.t s042) (.c (.i .i64 1)),none⟩,⟨some s044,.slice 1 (.t s040) (some (.c (.i .i64 1))) (some (.t s043)) none,none⟩,⟨some s011,.mv (.t s044),none⟩])
 (.seq (.reg [⟨some s045,.mkf 74 [(.t s006)],none⟩,⟨some s012,.mv (.t s045),none⟩])
 (.seq (.reg [⟨some s046,.mv (.t s011),none⟩,⟨some s047,.call (.c (.fn 58 [])) [(.t s046)],none⟩,⟨some s013,.mv (.t s047),none⟩])
 (.seq (.reg [⟨some s050,.mv (.t s013),none⟩,⟨some s051,.call (.c (.fn 52 [])) [(.t s050)],none⟩])
 (.seq (.dreg [(5,⟨some s057,.mv (.t s012),none⟩,0,false),(6,⟨some s060,.mv (.t s007),none⟩,0,false),(7,⟨some s061,.mv (.t s010),none⟩,0,false),(8,⟨some s062,.call (.t s057) [(.t s060),(.t s061)],none⟩,224,false),(9,⟨some s063,.mv (.t s013),none⟩,0,false),(10,⟨some s064,.app 1 8 (.t s062) (.t s063),none⟩,992,false),(0,⟨some s052,.mv (.t s000),none⟩,0,false),(1,⟨some s053,.nilck (.t s052),none⟩,1,false),(2,⟨some s054,.flda 3 (.t s053),none⟩,3,false),(3,⟨some s055,.ld (.t s054),none⟩,7,false),(4,⟨some s056,.mv (.t s001),none⟩,0,false),(11,⟨some s065,.idxa 1 (.t s055) (.t s056),none⟩,2047,true),(12,⟨none,.st 1 (.t s065) (.t s064),none⟩,4095,true)])
 (.seq (.dreg [(5,⟨some s073,.mv (.t s012),none⟩,0,false),(6,⟨some s074,.mv (.t s010),none⟩,0,false),(7,⟨some s075,.mv (.t s007),none⟩,0,false),(8,⟨some s076,.call (.t s073) [(.t s074),(.t s075)],none⟩,224,false),(9,⟨some s077,.mv (.t s011),none⟩,0,false),(10,⟨some s100,.app 1 8 (.t s076) (.t s077),none⟩,992,false),(1,⟨some s067,.mv (.t s000),none⟩,0,false),(2,⟨some s070,.nilck (.t s067),none⟩,2,false),(3,⟨some s071,.flda 3 (.t s070),none⟩,6,false),(4,⟨some s072,.ld (.t s071),none⟩,14,false),(11,⟨some s101,.bsl 1 1 [.nils] [(0,1,(.t s100))],none⟩,2016,false),(12,⟨some s102,.app 1 24 (.t s072) (.t s101),none⟩,4094,true),(0,⟨some s066,.mv (.t s000),none⟩,0,false),(13,⟨some s103,.nilck (.t s066),none⟩,8191,true),(14,⟨some s104,.flda 3 (.t s103),none⟩,16383,true),(15,⟨none,.st 1 (.t s104) (.t s102),none⟩,32767,true)])
 (.reg [⟨some s105,.mv (.t s000),none⟩,⟨some s106,.mv (.t s002),none⟩,⟨some s107,.call (.c (.fn 57 [])) [(.t s105),(.t s106)],none⟩])))))))))⟩
theorem c7 : compFunc Go.Proofs.Tryz.prog some Go.Proofs.Tryz.f7 = some g7 := by kernel_rfl
theorem c8 : compFunc Go.Proofs.Tryz.prog some Go.Proofs.Tryz.f8 = some g8 := by kernel_rfl
theorem c10 : compFunc Go.Proofs.Tryz.prog some Go.Proofs.Tryz.f10 = some g10 := by kernel_rfl
theorem c11 : compFunc Go.Proofs.Tryz.prog some Go.Proofs.Tryz.f11 = some g11 := by kernel_rfl
theorem c13 : compFunc Go.Proofs.Tryz.prog some Go.Proofs.Tryz.f13 = some g13 := by kernel_rfl
theorem c17 : compFunc Go.Proofs.Tryz.prog some Go.Proofs.Tryz.f17 = some g17 := by kernel_rfl
theorem c18 : compFunc Go.Proofs.Tryz.prog some Go.Proofs.Tryz.f18 = some g18 := by kernel_rfl
theorem c19 : compFunc Go.Proofs.Tryz.prog some Go.Proofs.Tryz.f19 = some g19 := by kernel_rfl
theorem c20 : compFunc Go.Proofs.Tryz.prog some Go.Proofs.Tryz.f20 = some g20 := by kernel_rfl
theorem c21 : compFunc Go.Proofs.Tryz.prog some Go.Proofs.Tryz.f21 = some g21 := by kernel_rfl
theorem c22 : compFunc Go.Proofs.Tryz.prog some Go.Proofs.Tryz.f22 = some g22 := by kernel_rfl
theorem c24 : compFunc Go.Proofs.Tryz.prog some Go.Proofs.Tryz.f24 = some g24 := by kernel_rfl
theorem c25 : compFunc Go.Proofs.Tryz.prog some Go.Proofs.Tryz.f25 = some g25 := by kernel_rfl
theorem c30 : compFunc Go.Proofs.Tryz.prog some Go.Proofs.Tryz.f30 = some g30 := by kernel_rfl
theorem c31 : compFunc Go.Proofs.Tryz.prog some Go.Proofs.Tryz.f31 = some g31 := by kernel_rfl
theorem c32 : compFunc Go.Proofs.Tryz.prog some Go.Proofs.Tryz.f32 = some g32 := by kernel_rfl
theorem c33 : compFunc Go.Proofs.Tryz.prog some Go.Proofs.Tryz.f33 = some g33 := by kernel_rfl
theorem c34 : compFunc Go.Proofs.Tryz.prog some Go.Proofs.Tryz.f34 = some g34 := by kernel_rfl
theorem c35 : compFunc Go.Proofs.Tryz.prog some Go.Proofs.Tryz.f35 = some g35 := by kernel_rfl
theorem c36 : compFunc Go.Proofs.Tryz.prog some Go.Proofs.Tryz.f36 = some g36 := by kernel_rfl
theorem c38 : compFunc Go.Proofs.Tryz.prog some Go.Proofs.Tryz.f38 = some g38 := by kernel_rfl
theorem c39 : compFunc Go.Proofs.Tryz.prog some Go.Proofs.Tryz.f39 = some g39 := by kernel_rfl
theorem c40 : compFunc Go.Proofs.Tryz.prog some Go.Proofs.Tryz.f40 = some g40 := by kernel_rfl
theorem c41 : compFunc Go.Proofs.Tryz.prog some Go.Proofs.Tryz.f41 = some g41 := by kernel_rfl
theorem c42 : compFunc Go.Proofs.Tryz.prog some Go.Proofs.Tryz.f42 = some g42 := by kernel_rfl
theorem c45 : compFunc Go.Proofs.Tryz.prog some Go.Proofs.Tryz.f45 = some g45 := by kernel_rfl
theorem c46 : compFunc Go.Proofs.Tryz.prog some Go.Proofs.Tryz.f46 = some g46 := by kernel_rfl
theorem c47 : compFunc Go.Proofs.Tryz.prog some Go.Proofs.Tryz.f47 = some g47 := by kernel_rfl
theorem c48 : compFunc Go.Proofs.Tryz.prog some Go.Proofs.Tryz.f48 = some g48 := by kernel_rfl
theorem c49 : compFunc Go.Proofs.Tryz.prog some Go.Proofs.Tryz.f49 = some g49 := by kernel_rfl
theorem c50 : compFunc Go.Proofs.Tryz.prog some Go.Proofs.Tryz.f50 = some g50 := by kernel_rfl
theorem c51 : compFunc Go.Proofs.Tryz.prog some Go.Proofs.Tryz.f51 = some g51 := by kernel_rfl
theorem c52 : compFunc Go.Proofs.Tryz.prog some Go.Proofs.Tryz.f52 = some g52 := by kernel_rfl
theorem c53 : compFunc Go.Proofs.Tryz.prog some Go.Proofs.Tryz.f53 = some g53 := by kernel_rfl
theorem c55 : compFunc Go.Proofs.Tryz.prog some Go.Proofs.Tryz.f55 = some g55 := by kernel_rfl
theorem c56 : compFunc Go.Proofs.Tryz.prog some Go.Proofs.Tryz.f56 = some g56 := by kernel_rfl
theorem c57 : compFunc Go.Proofs.Tryz.prog some Go.Proofs.Tryz.f57 = some g57 := by kernel_rfl
theorem c58 : compFunc Go.Proofs.Tryz.prog some Go.Proofs.Tryz.f58 = some g58 := by kernel_rfl
theorem c59 : compFunc Go.Proofs.Tryz.prog some Go.Proofs.Tryz.f59 = some g59 := by kernel_rfl
theorem c60 : compFunc Go.Proofs.Tryz.prog some Go.Proofs.Tryz.f60 = some g60 := by kernel_rfl
end Go.AM.Zd
end
section
/- What the functions become that the walk of the abstract machine reaches. No condition. -/
namespace Go.AM.Zd
set_option maxRecDepth 100000
/-- slices.pdqsortCmpFunc[[2]int] -/
def g61 : AFunc := ⟨5,[],
 (.seq (.reg [⟨some s012,.mv (.c (.b true)),none⟩])
 (.seq (.reg [⟨some s013,.mv (.c (.b true)),none⟩])
 (.block 0 (.loop (.block 1 (.seq (.reg [⟨some s025,.mv (.t s002),none⟩,⟨some s026,.mv (.t s001),none⟩,⟨some s027,.bin .sub (.t s025) (.t s026),none⟩,⟨some s014,.mv (.t s027),none⟩])
    (.seq (.seq (.reg [⟨some s030,.mv (.t s014),none⟩,⟨some s031,.bin .leq (.t s030) (.c (.i .i64 12)),none⟩])
    (.cond (.t s031) (.seq (.reg [⟨some s032,.mv (.t s000),none⟩,⟨some s033,.mv (.t s001),none⟩,⟨some s034,.mv (.t s002),none⟩,⟨some s035,.mv (.t s004),none⟩,⟨some s036,.call (.c (.fn 75 [])) [(.t s032),(.t s033),(.t s034),(.t s035)],none⟩])
     (.ret))
    (.skip)))
    (.seq (.seq (.reg [⟨some s037,.mv (.t s003),none⟩,⟨some s040,.eq .int false (.t s037) (.c (.i .i64 0)),none⟩])
    (.cond (.t s040) (.seq (.reg [⟨some s041,.mv (.t s000),none⟩,⟨some s042,.mv (.t s001),none⟩,⟨some s043,.mv (.t s002),none⟩,⟨some s044,.mv (.t s004),none⟩,⟨some s045,.call (.c (.fn 76 [])) [(.t s041),(.t s042),(.t s043),(.t s044)],none⟩])
     (.ret))
    (.skip)))
    (.seq (.seq (.reg [⟨some s046,.mv (.t s012),none⟩,⟨some s047,.un .not (.t s046),none⟩])
    (.cond (.t s047) (.seq (.reg [⟨some s050,.mv (.t s000),none⟩,⟨some s051,.mv (.t s001),none⟩,⟨some s052,.mv (.t s002),none⟩,⟨some s053,.mv (.t s004),none⟩,⟨some s054,.call (.c (.fn 77 [])) [(.t s050),(.t s051),(.t s052),(.t s053)],none⟩])
     (.reg [⟨some s055,.mv (.t s003),none⟩,⟨some s056,.bin .sub (.t s055) (.c (.i .i64 1)),none⟩,⟨some s003,.mv (.t s056),none⟩]))
    (.skip)))
    (.seq (.reg [⟨some s060,.mv (.t s000),none⟩,⟨some s061,.mv (.t s001),none⟩,⟨some s062,.mv (.t s002),none⟩,⟨some s063,.mv (.t s004),none⟩,⟨some s064,.call (.c (.fn 78 [])) [(.t s060),(.t s061),(.t s062),(.t s063)],none⟩,⟨some s057,.mv (.t s064),none⟩,⟨some s065,.ext (.t s057) 0,none⟩,⟨some s066,.ext (.t s057) 1,none⟩,⟨some s015,.mv (.t s065),none⟩,⟨some s016,.mv (.t s066),none⟩])
    (.seq (.seq (.reg [⟨some s067,.mv (.t s016),none⟩,⟨some s070,.eq .int false (.t s067) (.c (.i .i64 2)),none⟩])
    (.cond (.t s070) (.seq (.reg [⟨some s071,.mv (.t s000),none⟩,⟨some s072,.mv (.t s001),none⟩,⟨some s073,.mv (.t s002),none⟩,⟨some s074,.mv (.t s004),none⟩,⟨some s075,.call (.c (.fn 79 [])) [(.t s071),(.t s072),(.t s073),(.t s074)],none⟩])
     (.seq (.reg [⟨some s076,.mv (.t s002),none⟩,⟨some s077,.bin .sub (.t s076) (.c (.i .i64 1)),none⟩,⟨some s100,.mv (.t s015),none⟩,⟨some s101,.mv (.t s001),none⟩,⟨some s102,.bin .sub (.t s100) (.t s101),none⟩,⟨some s103,.bin .sub (.t s077) (.t s102),none⟩,⟨some s015,.mv (.t s103),none⟩])
     (.reg [⟨some s016,.mv (.c (.i .i64 1)),none⟩])))
    (.skip)))
    (.seq (.seq (.reg [⟨some s104,.mv (.t s012),none⟩,⟨some s105,.mv (.t s104),none⟩,⟨some s106,.mv (.t s013),(some (s105,true))⟩,⟨some s107,.pick (.t s105) (.t s106) (.c (.b false)),none⟩,⟨some s110,.mv (.t s107),none⟩,⟨some s111,.mv (.t s016),(some (s110,true))⟩,⟨some s112,.eq .int false (.t s111) (.c (.i .i64 1)),(some (s110,true))⟩,⟨some s113,.pick (.t s110) (.t s112) (.c (.b false)),none⟩])
    (.cond (.t s113) (.seq (.reg [⟨some s114,.mv (.t s000),none⟩,⟨some s115,.mv (.t s001),none⟩,⟨some s116,.mv (.t s002),none⟩,⟨some s117,.mv (.t s004),none⟩,⟨some s120,.call (.c (.fn 80 [])) [(.t s114),(.t s115),(.t s116),(.t s117)],none⟩])
     (.cond (.t s120) (.ret)
     (.skip)))
    (.skip)))
    (.seq (.seq (.dreg [(0,⟨some s121,.mv (.t s001),none⟩,0,true),(1,⟨some s122,.bin .gtr (.t s121) (.c (.i .i64 0)),none⟩,1,true),(2,⟨some s123,.mv (.t s122),none⟩,3,true),(3,⟨some s124,.mv (.t s004),(some (s123,true))⟩,7,false),(4,⟨some s125,.mv (.t s000),(some (s123,true))⟩,7,false),(5,⟨some s126,.mv (.t s001),(some (s123,true))⟩,7,false),(6,⟨some s127,.bin .sub (.t s126) (.c (.i .i64 1)),(some (s123,true))⟩,39,false),(7,⟨some s130,.idxa 2 (.t s125) (.t s127),(some (s123,true))⟩,119,false),(8,⟨some s131,.ldn 2 (.t s130),(some (s123,true))⟩,247,false),(9,⟨some s132,.mv (.t s000),(some (s123,true))⟩,7,false),(10,⟨some s133,.mv (.t s015),(some (s123,true))⟩,7,false),(11,⟨some s134,.idxa 2 (.t s132) (.t s133),(some (s123,true))⟩,1543,false),(12,⟨some s135,.ldn 2 (.t s134),(some (s123,true))⟩,3591,false),(13,⟨some s136,.call (.t s124) [(.t s131),(.t s135)],(some (s123,true))⟩,8191,true),(14,⟨some s137,.bin .lss (.t s136) (.c (.i .i64 0)),(some (s123,true))⟩,16383,true),(15,⟨some s140,.un .not (.t s137),(some (s123,true))⟩,32767,true),(16,⟨some s141,.pick (.t s123) (.t s140) (.c (.b false)),none⟩,65535,true)])
    (.cond (.t s141) (.seq (.reg [⟨some s142,.mv (.t s000),none⟩,⟨some s143,.mv (.t s001),none⟩,⟨some s144,.mv (.t s002),none⟩,⟨some s145,.mv (.t s015),none⟩,⟨some s146,.mv (.t s004),none⟩,⟨some s147,.call (.c (.fn 81 [])) [(.t s142),(.t s143),(.t s144),(.t s145),(.t s146)],none⟩,⟨some s017,.mv (.t s147),none⟩])
     (.seq (.reg [⟨some s150,.mv (.t s017),none⟩,⟨some s001,.mv (.t s150),none⟩])
     (.exit 1)))
    (.skip)))
    (.seq (.reg [⟨some s152,.mv (.t s000),none⟩,⟨some s153,.mv (.t s001),none⟩,⟨some s154,.mv (.t s002),none⟩,⟨some s155,.mv (.t s015),none⟩,⟨some s156,.mv (.t s004),none⟩,⟨some s157,.call (.c (.fn 82 [])) [(.t s152),(.t s153),(.t s154),(.t s155),(.t s156)],none⟩,⟨some s151,.mv (.t s157),none⟩,⟨some s160,.ext (.t s151) 0,none⟩,⟨some s161,.ext (.t s151) 1,none⟩,⟨some s020,.mv (.t s160),none⟩,⟨some s021,.mv (.t s161),none⟩])
    (.seq (.reg [⟨some s162,.mv (.t s021),none⟩,⟨some s013,.mv (.t s162),none⟩])
    (.seq (.reg [⟨some s163,.mv (.t s020),none⟩,⟨some s164,.mv (.t s001),none⟩,⟨some s165,.bin .sub (.t s163) (.t s164),none⟩,⟨some s166,.mv (.t s002),none⟩,⟨some s167,.mv (.t s020),none⟩,⟨some s170,.bin .sub (.t s166) (.t s167),none⟩,⟨some s022,.mv (.t s165),none⟩,⟨some s023,.mv (.t s170),none⟩])
    (.seq (.reg [⟨some s171,.mv (.t s014),none⟩,⟨some s172,.bin .quo (.t s171) (.c (.i .i64 8)),none⟩,⟨some s024,.mv (.t s172),none⟩])
    (.seq (.reg [⟨some s173,.mv (.t s022),none⟩,⟨some s174,.mv (.t s023),none⟩,⟨some s175,.bin .lss (.t s173) (.t s174),none⟩])
    (.cond (.t s175) (.seq (.reg [⟨some s176,.mv (.t s022),none⟩,⟨some s177,.mv (.t s024),none⟩,⟨some s200,.bin .geq (.t s176) (.t s177),none⟩,⟨some s012,.mv (.t s200),none⟩])
     (.seq (.reg [⟨some s201,.mv (.t s000),none⟩,⟨some s202,.mv (.t s001),none⟩,⟨some s203,.mv (.t s020),none⟩,⟨some s204,.mv (.t s003),none⟩,⟨some s205,.mv (.t s004),none⟩,⟨some s206,.call (.c (.fn 61 [])) [(.t s201),(.t s202),(.t s203),(.t s204),(.t s205)],none⟩])
     (.reg [⟨some s207,.mv (.t s020),none⟩,⟨some s210,.bin .add (.t s207) (.c (.i .i64 1)),none⟩,⟨some s001,.mv (.t s210),none⟩])))
    (.seq (.reg [⟨some s211,.mv (.t s023),none⟩,⟨some s212,.mv (.t s024),none⟩,⟨some s213,.bin .geq (.t s211) (.t s212),none⟩,⟨some s012,.mv (.t s213),none⟩])
     (.seq (.reg [⟨some s214,.mv (.t s000),none⟩,⟨some s215,.mv (.t s020),none⟩,⟨some s216,.bin .add (.t s215) (.c (.i .i64 1)),none⟩,⟨some s217,.mv (.t s002),none⟩,⟨some s220,.mv (.t s003),none⟩,⟨some s221,.mv (.t s004),none⟩,⟨some s222,.call (.c (.fn 61 [])) [(.t s214),(.t s216),(.t s217),(.t s220),(.t s221)],none⟩])
     (.reg [⟨some s223,.mv (.t s020),none⟩,⟨some s002,.mv (.t s223),none⟩]))))))))))))))))))))))⟩
/-- math/bits.Len -/
def g62 : AFunc := ⟨1,[.t s002],
 (.seq (.reg [⟨some s002,.mv (.c (.i .i64 0)),none⟩])
 (.seq (.cond (.c (.b false)) (.seq (.reg [⟨some s003,.mv (.t s000),none⟩,⟨some s004,.conv .u32 (.t s003),none⟩,⟨some s005,.call (.c (.fn 83 [])) [(.t s004)],none⟩,⟨some s002,.mv (.t s005),none⟩])
  (.ret))
 (.skip))
 (.seq (.reg [⟨some s006,.mv (.t s000),none⟩,⟨some s007,.call (.c (.fn 84 [])) [(.t s006)],none⟩,⟨some s002,.mv (.t s007),none⟩])
 (.ret))))⟩
/-- cmp.Or[int] -/
def g63 : AFunc := ⟨1,[.t s002],
 (.seq (.reg [⟨some s002,.mv (.c (.i .i64 0)),none⟩])
 (.seq (.reg [⟨some s003,.mv (.c (.i .i64 0)),none⟩])
 (.seq (.seq (.reg [⟨some s006,.mv (.t s000),none⟩,⟨some s007,.len (.t s006),none⟩,⟨some s010,.mv (.c (.i .i64 0)),none⟩])
 (.block 0 (.loop (.seq (.reg [⟨some s011,.bin .lss (.t s010) (.t s007),none⟩])
   (.seq (.cond (.t s011) (.skip)
   (.exit 0))
   (.seq (.block 1 (.seq (.reg [⟨some s012,.idxa 1 (.t s006) (.t s010),none⟩,⟨some s013,.ld (.t s012),none⟩,⟨some s005,.mv (.t s013),none⟩])
    (.seq (.reg [⟨some s014,.mv (.t s005),none⟩,⟨some s015,.mv (.t s003),none⟩,⟨some s016,.eq .int true (.t s014) (.t s015),none⟩])
    (.cond (.t s016) (.seq (.reg [⟨some s017,.mv (.t s005),none⟩,⟨some s002,.mv (.t s017),none⟩])
     (.ret))
    (.skip)))))
   (.reg [⟨some s020,.bin .add (.t s010) (.c (.i .i64 1)),none⟩,⟨some s010,.mv (.t s020),none⟩])))))))
 (.seq (.reg [⟨some s021,.mv (.t s003),none⟩,⟨some s002,.mv (.t s021),none⟩])
 (.ret)))))⟩
/-- cmp.Compare[int] -/
def g64 : AFunc := ⟨2,[.t s004],
 (.seq (.reg [⟨some s004,.mv (.c (.i .i64 0)),none⟩])
 (.seq (.reg [⟨some s007,.mv (.t s000),none⟩,⟨some s010,.call (.c (.fn 85 [])) [(.t s007)],none⟩,⟨some s005,.mv (.t s010),none⟩])
 (.seq (.reg [⟨some s011,.mv (.t s001),none⟩,⟨some s012,.call (.c (.fn 85 [])) [(.t s011)],none⟩,⟨some s006,.mv (.t s012),none⟩])
 (.seq (.seq (.reg [⟨some s013,.mv (.t s005),none⟩])
 (.cond (.t s013) (.seq (.seq (.reg [⟨some s014,.mv (.t s006),none⟩])
  (.cond (.t s014) (.seq (.reg [⟨some s004,.mv (.c (.i .i64 0)),none⟩])
   (.ret))
  (.skip)))
  (.seq (.reg [⟨some s004,.mv (.c (.i .i64 (-1))),none⟩])
  (.ret)))
 (.skip)))
 (.seq (.seq (.reg [⟨some s015,.mv (.t s006),none⟩])
 (.cond (.t s015) (.seq (.reg [⟨some s004,.mv (.c (.i .i64 1)),none⟩])
  (.ret))
 (.skip)))
 (.seq (.seq (.reg [⟨some s016,.mv (.t s000),none⟩,⟨some s017,.mv (.t s001),none⟩,⟨some s020,.bin .lss (.t s016) (.t s017),none⟩])
 (.cond (.t s020) (.seq (.reg [⟨some s004,.mv (.c (.i .i64 (-1))),none⟩])
  (.ret))
 (.skip)))
 (.seq (.seq (.reg [⟨some s021,.mv (.t s000),none⟩,⟨some s022,.mv (.t s001),none⟩,⟨some s023,.bin .gtr (.t s021) (.t s022),none⟩])
 (.cond (.t s023) (.seq (.reg [⟨some s004,.mv (.c (.i .i64 1)),none⟩])
  (.ret))
 (.skip)))
 (.seq (.reg [⟨some s004,.mv (.c (.i .i64 0)),none⟩])
 (.ret)))))))))⟩
/-- arbor/draw.inside$1 -/
def g65 : AFunc := ⟨2,[.t s003],
 (.seq (.reg [⟨some s003,.mv (.c .nils),none⟩])
 (.seq (.reg [⟨some s004,.mv (.t s000),none⟩,⟨some s005,.mkf 67 [(.t s001)],none⟩,⟨some s006,.call (.c (.fn 66 [])) [(.t s004),(.t s005)],none⟩,⟨some s003,.mv (.t s006),none⟩])
 (.ret)))⟩
/-- arbor/draw.inside$1$1 -/
def g67 : AFunc := ⟨2,[.t s003],
 (.seq (.reg [⟨some s003,.mv (.c (.b false)),none⟩])
 (.seq (.reg [⟨some s004,.ld (.t s001),none⟩,⟨some s005,.mv (.t s000),none⟩,⟨some s006,.idxa 1 (.t s004) (.t s005),none⟩,⟨some s007,.ld (.t s006),none⟩,⟨some s003,.mv (.t s007),none⟩])
 (.ret)))⟩
/-- arbor/graph.Lists -/
def g68 : AFunc := ⟨1,[.t s002],
 (.seq (.reg [⟨some s001,.box 2 (.t s000),none⟩,⟨some s002,.mv (.c .nils),none⟩])
 (.seq (.reg [⟨some s010,.flda 0 (.t s001),none⟩,⟨some s011,.ld (.t s010),none⟩,⟨some s012,.mks 1 24 [.nils] (.t s011) (.t s011),none⟩,⟨some s003,.mv (.t s012),none⟩])
 (.seq (.seq (.reg [⟨some s013,.flda 1 (.t s001),none⟩,⟨some s014,.ld (.t s013),none⟩,⟨some s015,.len (.t s014),none⟩,⟨some s016,.mv (.c (.i .i64 0)),none⟩])
 (.block 0 (.loop (.seq (.reg [⟨some s017,.bin .lss (.t s016) (.t s015),none⟩])
   (.seq (.cond (.t s017) (.skip)
   (.exit 0))
   (.seq (.block 1 (.seq (.reg [⟨some s020,.idxa 2 (.t s014) (.t s016),none⟩,⟨some s021,.ldn 2 (.t s020),none⟩,⟨some s005,.new [(.i .i64 0),(.i .i64 0)],none⟩,⟨none,.st 2 (.t s005) (.t s021),none⟩])
    (.seq (.dreg [(3,⟨some s025,.mv (.t s003),none⟩,0,false),(4,⟨some s026,.idxp 2 1 (.t s005) (.c (.i .i64 0)),none⟩,0,false),(5,⟨some s027,.ld (.t s026),none⟩,16,false),(6,⟨some s030,.idxa 1 (.t s025) (.t s027),none⟩,56,false),(7,⟨some s031,.ld (.t s030),none⟩,120,false),(8,⟨some s032,.idxp 2 1 (.t s005) (.c (.i .i64 1)),none⟩,0,false),(9,⟨some s033,.ld (.t s032),none⟩,256,false),(10,⟨some s034,.bsl 1 1 [(.i .i64 0)] [(0,1,(.t s033))],none⟩,768,false),(11,⟨some s035,.app 1 8 (.t s031) (.t s034),none⟩,2040,false),(0,⟨some s022,.mv (.t s003),none⟩,0,false),(1,⟨some s023,.idxp 2 1 (.t s005) (.c (.i .i64 0)),none⟩,0,false),(2,⟨some s024,.ld (.t s023),none⟩,2,false),(12,⟨some s036,.idxa 1 (.t s022) (.t s024),none⟩,4095,true),(13,⟨none,.st 1 (.t s036) (.t s035),none⟩,8191,true)])
    (.dreg [(3,⟨some s042,.mv (.t s003),none⟩,0,false),(4,⟨some s043,.idxp 2 1 (.t s005) (.c (.i .i64 1)),none⟩,0,false),(5,⟨some s044,.ld (.t s043),none⟩,16,false),(6,⟨some s045,.idxa 1 (.t s042) (.t s044),none⟩,56,false),(7,⟨some s046,.ld (.t s045),none⟩,120,false),(8,⟨some s047,.idxp 2 1 (.t s005) (.c (.i .i64 0)),none⟩,0,false),(9,⟨some s050,.ld (.t s047),none⟩,256,false),(10,⟨some s051,.bsl 1 1 [(.i .i64 0)] [(0,1,(.t s050))],none⟩,768,false),(11,⟨some s052,.app 1 8 (.t s046) (.t s051),none⟩,2040,false),(0,⟨some s037,.mv (.t s003),none⟩,0,false),(1,⟨some s040,.idxp 2 1 (.t s005) (.c (.i .i64 1)),none⟩,0,false),(2,⟨some s041,.ld (.t s040),none⟩,2,false),(12,⟨some s053,.idxa 1 (.t s037) (.t s041),none⟩,4095,true),(13,⟨none,.st 1 (.t s053) (.t s052),none⟩,8191,true)]))))
   (.reg [⟨some s054,.bin .add (.t s016) (.c (.i .i64 1)),none⟩,⟨some s016,.mv (.t s054),none⟩])))))))
 (.seq (.seq (.reg [⟨some s055,.mv (.t s003),none⟩,⟨some s056,.len (.t s055),none⟩,⟨some s057,.mv (.c (.i .i64 0)),none⟩])
 (.block 2 (.loop (.seq (.reg [⟨some s060,.bin .lss (.t s057) (.t s056),none⟩])
   (.seq (.cond (.t s060) (.skip)
   (.exit 2))
   (.seq (.block 3 (.seq (.reg [⟨some s061,.idxa 1 (.t s055) (.t s057),none⟩,⟨some s062,.ld (.t s061),none⟩,⟨some s007,.mv (.t s062),none⟩])
    (.reg [⟨some s063,.mv (.t s007),none⟩,⟨some s064,.call (.c (.fn 87 [])) [(.t s063)],none⟩])))
   (.reg [⟨some s065,.bin .add (.t s057) (.c (.i .i64 1)),none⟩,⟨some s057,.mv (.t s065),none⟩])))))))
 (.seq (.reg [⟨some s066,.mv (.t s003),none⟩,⟨some s002,.mv (.t s066),none⟩])
 (.ret))))))⟩
/-- (*arbor/parts.deep).walk -/
def g69 : AFunc := ⟨4,[.t s010],
 (.seq (.reg [⟨some s010,.mv (.c (.i .i64 0)),none⟩])
 (.seq (.reg [⟨some s014,.mv (.t s003),none⟩,⟨some s015,.bin .add (.t s014) (.c (.i .i64 1)),none⟩,⟨some s003,.mv (.t s015),none⟩])
 (.seq (.dreg [(0,⟨some s016,.mv (.t s000),none⟩,0,false),(1,⟨some s017,.nilck (.t s016),none⟩,1,false),(2,⟨some s020,.flda 1 (.t s017),none⟩,3,false),(3,⟨some s021,.ld (.t s020),none⟩,7,false),(4,⟨some s022,.mv (.t s001),none⟩,0,false),(5,⟨some s023,.mv (.t s000),none⟩,0,false),(6,⟨some s024,.nilck (.t s023),none⟩,32,false),(7,⟨some s025,.flda 2 (.t s024),none⟩,96,false),(8,⟨some s026,.ld (.t s025),none⟩,224,false),(10,⟨some s030,.mv (.t s003),none⟩,0,false),(12,⟨some s032,.idxa 1 (.t s021) (.t s022),none⟩,1535,true),(13,⟨none,.st 1 (.t s032) (.t s030),none⟩,5631,true),(9,⟨some s027,.mv (.t s001),none⟩,0,false),(11,⟨some s031,.mv (.t s003),none⟩,0,false),(14,⟨some s033,.idxa 1 (.t s026) (.t s027),none⟩,16383,true),(15,⟨none,.st 1 (.t s033) (.t s031),none⟩,32767,true)])
 (.seq (.seq (.reg [⟨some s034,.mv (.t s000),none⟩,⟨some s035,.nilck (.t s034),none⟩,⟨some s036,.flda 0 (.t s035),none⟩,⟨some s037,.ld (.t s036),none⟩,⟨some s040,.mv (.t s001),none⟩,⟨some s041,.idxa 1 (.t s037) (.t s040),none⟩,⟨some s042,.ld (.t s041),none⟩,⟨some s043,.len (.t s042),none⟩,⟨some s044,.mv (.c (.i .i64 0)),none⟩])
 (.block 0 (.loop (.seq (.reg [⟨some s045,.bin .lss (.t s044) (.t s043),none⟩])
   (.seq (.cond (.t s045) (.skip)
   (.exit 0))
   (.seq (.block 1 (.seq (.reg [⟨some s046,.idxa 1 (.t s042) (.t s044),none⟩,⟨some s047,.ld (.t s046),none⟩,⟨some s012,.mv (.t s047),none⟩])
    (.seq (.seq (.reg [⟨some s050,.mv (.t s012),none⟩,⟨some s051,.mv (.t s002),none⟩,⟨some s052,.eq .int false (.t s050) (.t s051),none⟩])
    (.cond (.t s052) (.exit 1)
    (.skip)))
    (.seq (.seq (.reg [⟨some s053,.mv (.t s000),none⟩,⟨some s054,.nilck (.t s053),none⟩,⟨some s055,.flda 1 (.t s054),none⟩,⟨some s056,.ld (.t s055),none⟩,⟨some s057,.mv (.t s012),none⟩,⟨some s060,.idxa 1 (.t s056) (.t s057),none⟩,⟨some s061,.ld (.t s060),none⟩,⟨some s062,.bin .gtr (.t s061) (.c (.i .i64 0)),none⟩])
    (.cond (.t s062) (.seq (.seq (.dreg [(0,⟨some s063,.mv (.t s000),none⟩,0,false),(1,⟨some s064,.nilck (.t s063),none⟩,1,false),(2,⟨some s065,.flda 1 (.t s064),none⟩,3,false),(3,⟨some s066,.ld (.t s065),none⟩,7,false),(4,⟨some s067,.mv (.t s012),none⟩,0,false),(5,⟨some s070,.idxa 1 (.t s066) (.t s067),none⟩,31,false),(6,⟨some s071,.ld (.t s070),none⟩,63,false),(7,⟨some s072,.mv (.t s000),none⟩,0,false),(8,⟨some s073,.nilck (.t s072),none⟩,128,false),(9,⟨some s074,.flda 1 (.t s073),none⟩,384,false),(10,⟨some s075,.ld (.t s074),none⟩,896,false),(11,⟨some s076,.mv (.t s001),none⟩,0,false),(12,⟨some s077,.idxa 1 (.t s075) (.t s076),none⟩,3968,false),(13,⟨some s100,.ld (.t s077),none⟩,8064,false),(14,⟨some s101,.bin .lss (.t s071) (.t s100),none⟩,16383,true)])
     (.cond (.t s101) (.seq (.reg [⟨some s102,.mv (.t s000),none⟩,⟨some s103,.mv (.t s000),none⟩,⟨some s104,.nilck (.t s103),none⟩,⟨some s105,.flda 3 (.t s104),none⟩,⟨some s106,.ld (.t s105),none⟩,⟨some s107,.mv (.t s001),none⟩,⟨some s110,.mv (.t s012),none⟩,⟨some s111,.build [(.i .i64 0),(.i .i64 0)] [(0,1,(.t s107)),(1,1,(.t s110))],none⟩,⟨some s112,.bsl 2 1 [(.i .i64 0),(.i .i64 0)] [(0,2,(.t s111))],none⟩,⟨some s113,.app 2 16 (.t s106) (.t s112),none⟩,⟨some s114,.nilck (.t s102),none⟩,⟨some s115,.flda 3 (.t s114),none⟩,⟨none,.st 1 (.t s115) (.t s113),none⟩])
      (.dreg [(0,⟨some s116,.mv (.t s000),none⟩,0,false),(1,⟨some s117,.nilck (.t s116),none⟩,1,false),(2,⟨some s120,.flda 2 (.t s117),none⟩,3,false),(3,⟨some s121,.ld (.t s120),none⟩,7,false),(4,⟨some s122,.mv (.t s001),none⟩,0,false),(5,⟨some s123,.mv (.t s000),none⟩,0,false),(6,⟨some s124,.nilck (.t s123),none⟩,32,false),(7,⟨some s125,.flda 2 (.t s124),none⟩,96,false),(8,⟨some s126,.ld (.t s125),none⟩,224,false),(9,⟨some s127,.mv (.t s001),none⟩,0,false),(10,⟨some s130,.idxa 1 (.t s126) (.t s127),none⟩,992,false),(11,⟨some s131,.ld (.t s130),none⟩,2016,false),(12,⟨some s132,.mv (.t s000),none⟩,0,false),(13,⟨some s133,.nilck (.t s132),none⟩,4096,false),(14,⟨some s134,.flda 1 (.t s133),none⟩,12288,false),(15,⟨some s135,.ld (.t s134),none⟩,28672,false),(16,⟨some s136,.mv (.t s012),none⟩,0,false),(17,⟨some s137,.idxa 1 (.t s135) (.t s136),none⟩,126976,false),(18,⟨some s140,.ld (.t s137),none⟩,258048,false),(19,⟨some s141,.min [(.t s131),(.t s140)],none⟩,524256,false),(20,⟨some s142,.idxa 1 (.t s121) (.t s122),none⟩,1048575,true),(21,⟨none,.st 1 (.t s142) (.t s141),none⟩,2097151,true)]))
     (.skip)))
     (.exit 1))
    (.skip)))
    (.seq (.reg [⟨some s143,.mv (.t s000),none⟩,⟨some s144,.nilck (.t s143),none⟩,⟨some s145,.flda 3 (.t s144),none⟩,⟨some s146,.ld (.t s145),none⟩,⟨some s147,.len (.t s146),none⟩,⟨some s013,.mv (.t s147),none⟩])
    (.seq (.reg [⟨some s150,.mv (.t s000),none⟩,⟨some s151,.mv (.t s000),none⟩,⟨some s152,.nilck (.t s151),none⟩,⟨some s153,.flda 3 (.t s152),none⟩,⟨some s154,.ld (.t s153),none⟩,⟨some s155,.mv (.t s001),none⟩,⟨some s156,.mv (.t s012),none⟩,⟨some s157,.build [(.i .i64 0),(.i .i64 0)] [(0,1,(.t s155)),(1,1,(.t s156))],none⟩,⟨some s160,.bsl 2 1 [(.i .i64 0),(.i .i64 0)] [(0,2,(.t s157))],none⟩,⟨some s161,.app 2 16 (.t s154) (.t s160),none⟩,⟨some s162,.nilck (.t s150),none⟩,⟨some s163,.flda 3 (.t s162),none⟩,⟨none,.st 1 (.t s163) (.t s161),none⟩])
    (.seq (.reg [⟨some s164,.mv (.t s000),none⟩,⟨some s165,.mv (.t s012),none⟩,⟨some s166,.mv (.t s001),none⟩,⟨some s167,.mv (.t s003),none⟩,⟨some s170,.call (.c (.fn 69 [])) [(.t s164),(.t s165),(.t s166),(.t s167)],none⟩,⟨some s003,.mv (.t s170),none⟩])
    (.seq (.dreg [(0,⟨some s171,.mv (.t s000),none⟩,0,false),(1,⟨some s172,.nilck (.t s171),none⟩,1,false),(2,⟨some s173,.flda 2 (.t s172),none⟩,3,false),(3,⟨some s174,.ld (.t s173),none⟩,7,false),(4,⟨some s175,.mv (.t s001),none⟩,0,false),(5,⟨some s176,.mv (.t s000),none⟩,0,false),(6,⟨some s177,.nilck (.t s176),none⟩,32,false),(7,⟨some s200,.flda 2 (.t s177),none⟩,96,false),(8,⟨some s201,.ld (.t s200),none⟩,224,false),(9,⟨some s202,.mv (.t s001),none⟩,0,false),(10,⟨some s203,.idxa 1 (.t s201) (.t s202),none⟩,992,false),(11,⟨some s204,.ld (.t s203),none⟩,2016,false),(12,⟨some s205,.mv (.t s000),none⟩,0,false),(13,⟨some s206,.nilck (.t s205),none⟩,4096,false),(14,⟨some s207,.flda 2 (.t s206),none⟩,12288,false),(15,⟨some s210,.ld (.t s207),none⟩,28672,false),(16,⟨some s211,.mv (.t s012),none⟩,0,false),(17,⟨some s212,.idxa 1 (.t s210) (.t s211),none⟩,126976,false),(18,⟨some s213,.ld (.t s212),none⟩,258048,false),(19,⟨some s214,.min [(.t s204),(.t s213)],none⟩,524256,false),(20,⟨some s215,.idxa 1 (.t s174) (.t s175),none⟩,1048575,true),(21,⟨none,.st 1 (.t s215) (.t s214),none⟩,2097151,true)])
    (.seq (.dreg [(0,⟨some s216,.mv (.t s000),none⟩,0,false),(1,⟨some s217,.nilck (.t s216),none⟩,1,false),(2,⟨some s220,.flda 2 (.t s217),none⟩,3,false),(3,⟨some s221,.ld (.t s220),none⟩,7,false),(4,⟨some s222,.mv (.t s012),none⟩,0,false),(5,⟨some s223,.idxa 1 (.t s221) (.t s222),none⟩,31,false),(6,⟨some s224,.ld (.t s223),none⟩,63,false),(7,⟨some s225,.mv (.t s000),none⟩,0,false),(8,⟨some s226,.nilck (.t s225),none⟩,128,false),(9,⟨some s227,.flda 1 (.t s226),none⟩,384,false),(10,⟨some s230,.ld (.t s227),none⟩,896,false),(11,⟨some s231,.mv (.t s001),none⟩,0,false),(12,⟨some s232,.idxa 1 (.t s230) (.t s231),none⟩,3968,false),(13,⟨some s233,.ld (.t s232),none⟩,8064,false),(14,⟨some s234,.bin .geq (.t s224) (.t s233),none⟩,16383,true)])
    (.cond (.t s234) (.seq (.dreg [(5,⟨some s242,.mv (.t s000),none⟩,0,false),(6,⟨some s243,.nilck (.t s242),none⟩,32,false),(7,⟨some s244,.flda 3 (.t s243),none⟩,96,false),(8,⟨some s245,.ld (.t s244),none⟩,224,false),(9,⟨some s246,.mv (.t s013),none⟩,0,false),(10,⟨some s247,.slice 2 (.t s245) (some (.t s246)) none none,none⟩,992,false),(11,⟨some s250,.app 2 16 (.c .nils) (.t s247),none⟩,2016,false),(1,⟨some s236,.mv (.t s000),none⟩,0,false),(2,⟨some s237,.nilck (.t s236),none⟩,2,false),(3,⟨some s240,.flda 4 (.t s237),none⟩,6,false),(4,⟨some s241,.ld (.t s240),none⟩,14,false),(12,⟨some s251,.bsl 1 1 [.nils] [(0,1,(.t s250))],none⟩,4064,false),(13,⟨some s252,.app 1 24 (.t s241) (.t s251),none⟩,8190,true),(0,⟨some s235,.mv (.t s000),none⟩,0,false),(14,⟨some s253,.nilck (.t s235),none⟩,16383,true),(15,⟨some s254,.flda 4 (.t s253),none⟩,32767,true),(16,⟨none,.st 1 (.t s254) (.t s252),none⟩,65535,true)])
     (.reg [⟨some s255,.mv (.t s000),none⟩,⟨some s256,.mv (.t s000),none⟩,⟨some s257,.nilck (.t s256),none⟩,⟨some s260,.flda 3 (.t s257),none⟩,⟨some s261,.ld (.t s260),none⟩,⟨some s262,.mv (.t s013),none⟩,⟨some s263,.slice 2 (.t s261) none (some (.t s262)) none,none⟩,⟨some s264,.nilck (.t s255),none⟩,⟨some s265,.flda 3 (.t s264),none⟩,⟨none,.st 1 (.t s265) (.t s263),none⟩]))
    (.skip)))))))))))
   (.reg [⟨some s266,.bin .add (.t s044) (.c (.i .i64 1)),none⟩,⟨some s044,.mv (.t s266),none⟩])))))))
 (.seq (.reg [⟨some s267,.mv (.t s003),none⟩,⟨some s010,.mv (.t s267),none⟩])
 (.ret))))))⟩
/-- slices.SortFunc[[][][2]int,[][2]int] -/
def g70 : AFunc := ⟨2,[],
 (.seq (.reg [⟨some s005,.mv (.t s000),none⟩,⟨some s006,.len (.t s005),none⟩,⟨some s004,.mv (.t s006),none⟩])
 (.reg [⟨some s007,.mv (.t s000),none⟩,⟨some s010,.mv (.t s004),none⟩,⟨some s011,.mv (.t s004),none⟩,⟨some s012,.conv .u64 (.t s011),none⟩,⟨some s013,.call (.c (.fn 62 [])) [(.t s012)],none⟩,⟨some s014,.mv (.t s001),none⟩,⟨some s015,.call (.c (.fn 88 [])) [(.t s007),(.c (.i .i64 0)),(.t s010),(.t s013),(.t s014)],none⟩]))⟩
/-- arbor/parts.blocks$1 -/
def g71 : AFunc := ⟨2,[.t s004],
 (.seq (.reg [⟨some s004,.mv (.c (.i .i64 0)),none⟩])
 (.seq (.dreg [(0,⟨some s005,.mv (.t s000),none⟩,0,false),(1,⟨some s006,.idxa 2 (.t s005) (.c (.i .i64 0)),none⟩,1,false),(2,⟨some s007,.idxp 2 1 (.t s006) (.c (.i .i64 0)),none⟩,3,false),(3,⟨some s010,.ld (.t s007),none⟩,7,false),(4,⟨some s011,.mv (.t s001),none⟩,0,false),(5,⟨some s012,.idxa 2 (.t s011) (.c (.i .i64 0)),none⟩,16,false),(6,⟨some s013,.idxp 2 1 (.t s012) (.c (.i .i64 0)),none⟩,48,false),(7,⟨some s014,.ld (.t s013),none⟩,112,false),(8,⟨some s015,.call (.c (.fn 64 [])) [(.t s010),(.t s014)],none⟩,255,false),(9,⟨some s016,.mv (.t s000),none⟩,0,false),(10,⟨some s017,.idxa 2 (.t s016) (.c (.i .i64 0)),none⟩,512,false),(11,⟨some s020,.idxp 2 1 (.t s017) (.c (.i .i64 1)),none⟩,1536,false),(12,⟨some s021,.ld (.t s020),none⟩,3584,false),(13,⟨some s022,.mv (.t s001),none⟩,0,false),(14,⟨some s023,.idxa 2 (.t s022) (.c (.i .i64 0)),none⟩,8192,false),(15,⟨some s024,.idxp 2 1 (.t s023) (.c (.i .i64 1)),none⟩,24576,false),(16,⟨some s025,.ld (.t s024),none⟩,57344,false),(17,⟨some s026,.call (.c (.fn 64 [])) [(.t s021),(.t s025)],none⟩,131071,true),(18,⟨some s027,.bsl 1 2 [(.i .i64 0),(.i .i64 0)] [(0,1,(.t s015)),(1,1,(.t s026))],none⟩,262143,true),(19,⟨some s030,.call (.c (.fn 63 [])) [(.t s027)],none⟩,524287,true),(20,⟨some s004,.mv (.t s030),none⟩,1048575,true)])
 (.ret)))⟩
/-- slices.Contains[[]bool,bool] -/
def g72 : AFunc := ⟨2,[.t s004],
 (.seq (.reg [⟨some s004,.mv (.c (.b false)),none⟩])
 (.seq (.reg [⟨some s005,.mv (.t s000),none⟩,⟨some s006,.mv (.t s001),none⟩,⟨some s007,.call (.c (.fn 89 [])) [(.t s005),(.t s006)],none⟩,⟨some s010,.bin .geq (.t s007) (.c (.i .i64 0)),none⟩,⟨some s004,.mv (.t s010),none⟩])
 (.ret)))⟩
/-- (*arbor/plane.block).through -/
def g73 : AFunc := ⟨2,[.t s004],
 (.seq (.reg [⟨some s003,.box 3 (.t s001),none⟩,⟨some s004,.mv (.c .nils),none⟩])
 (.seq (.reg [⟨some s015,.mkmap,none⟩,⟨some s016,.flda 1 (.t s003),none⟩,⟨some s017,.ld (.t s016),none⟩,⟨some s020,.idxa 1 (.t s017) (.c (.i .i64 0)),none⟩,⟨some s021,.ld (.t s020),none⟩,⟨none,.mapup .int (.t s015) (.t s021) (.c (.i .i64 (-1))),none⟩,⟨some s022,.mv (.t s015),none⟩,⟨some s005,.mv (.t s022),none⟩])
 (.seq (.seq (.reg [⟨some s023,.flda 1 (.t s003),none⟩,⟨some s024,.ld (.t s023),none⟩,⟨some s025,.idxa 1 (.t s024) (.c (.i .i64 0)),none⟩,⟨some s026,.ld (.t s025),none⟩,⟨some s027,.bsl 1 1 [(.i .i64 0)] [(0,1,(.t s026))],none⟩,⟨some s006,.mv (.t s027),none⟩])
 (.block 0 (.loop (.seq (.seq (.reg [⟨some s030,.mv (.t s006),none⟩,⟨some s031,.len (.t s030),none⟩,⟨some s032,.bin .gtr (.t s031) (.c (.i .i64 0)),none⟩])
   (.cond (.t s032) (.skip)
   (.exit 0)))
   (.seq (.block 1 (.seq (.dreg [(0,⟨some s035,.mv (.t s000),none⟩,0,false),(1,⟨some s036,.nilck (.t s035),none⟩,1,false),(2,⟨some s037,.flda 0 (.t s036),none⟩,3,false),(3,⟨some s040,.ld (.t s037),none⟩,7,false),(4,⟨some s041,.mv (.t s006),none⟩,0,false),(5,⟨some s042,.idxa 1 (.t s041) (.c (.i .i64 0)),none⟩,16,false),(6,⟨some s043,.ld (.t s042),none⟩,48,false),(7,⟨some s044,.idxa 1 (.t s040) (.t s043),none⟩,127,true),(8,⟨some s045,.ld (.t s044),none⟩,255,true),(9,⟨some s046,.len (.t s045),none⟩,511,true),(10,⟨some s047,.mv (.c (.i .i64 0)),none⟩,0,false)])
    (.block 2 (.loop (.seq (.reg [⟨some s050,.bin .lss (.t s047) (.t s046),none⟩])
      (.seq (.cond (.t s050) (.skip)
      (.exit 2))
      (.seq (.block 3 (.seq (.reg [⟨some s051,.mv (.t s047),none⟩,⟨some s052,.idxa 1 (.t s045) (.t s047),none⟩,⟨some s053,.ld (.t s052),none⟩,⟨some s007,.mv (.t s051),none⟩,⟨some s010,.mv (.t s053),none⟩])
       (.seq (.seq (.reg [⟨some s055,.mv (.t s005),none⟩,⟨some s056,.mv (.t s007),none⟩,⟨some s057,.lookup (.i .i64 0) true .int (.t s055) (.t s056),none⟩,⟨some s054,.mv (.t s057),none⟩,⟨some s060,.ext (.t s054) 0,none⟩,⟨some s061,.ext (.t s054) 1,none⟩,⟨some s011,.mv (.t s060),none⟩,⟨some s012,.mv (.t s061),none⟩])
       (.seq (.reg [⟨some s062,.mv (.t s012),none⟩,⟨some s063,.mv (.t s062),none⟩,⟨some s064,.mv (.t s010),(some (s063,false))⟩,⟨some s065,.un .not (.t s064),(some (s063,false))⟩,⟨some s066,.pick (.t s063) (.c (.b true)) (.t s065),none⟩])
       (.cond (.t s066) (.exit 3)
       (.skip))))
       (.seq (.reg [⟨some s067,.flda 0 (.t s003),none⟩,⟨some s070,.ld (.t s067),none⟩,⟨some s071,.mv (.t s007),none⟩,⟨some s072,.lookup (.b false) false .int (.t s070) (.t s071),none⟩])
       (.cond (.t s072) (.seq (.reg [⟨some s073,.mv (.t s005),none⟩,⟨some s074,.mv (.t s007),none⟩,⟨some s075,.mv (.t s006),none⟩,⟨some s076,.idxa 1 (.t s075) (.c (.i .i64 0)),none⟩,⟨some s077,.ld (.t s076),none⟩,⟨none,.mapup .int (.t s073) (.t s074) (.t s077),none⟩])
        (.reg [⟨some s100,.mv (.t s006),none⟩,⟨some s101,.mv (.t s007),none⟩,⟨some s102,.bsl 1 1 [(.i .i64 0)] [(0,1,(.t s101))],none⟩,⟨some s103,.app 1 8 (.t s100) (.t s102),none⟩,⟨some s006,.mv (.t s103),none⟩]))
       (.seq (.dreg [(0,⟨some s104,.flda 0 (.t s003),none⟩,0,false),(1,⟨some s105,.ld (.t s104),none⟩,1,false),(2,⟨some s106,.mv (.t s006),none⟩,0,false),(3,⟨some s107,.idxa 1 (.t s106) (.c (.i .i64 0)),none⟩,4,false),(4,⟨some s110,.ld (.t s107),none⟩,12,false),(5,⟨some s111,.lookup (.b false) false .int (.t s105) (.t s110),none⟩,31,true)])
        (.cond (.t s111) (.seq (.reg [⟨some s112,.mv (.t s007),none⟩,⟨some s113,.bsl 1 1 [(.i .i64 0)] [(0,1,(.t s112))],none⟩,⟨some s013,.mv (.t s113),none⟩])
         (.seq (.seq (.reg [⟨some s114,.mv (.t s006),none⟩,⟨some s115,.idxa 1 (.t s114) (.c (.i .i64 0)),none⟩,⟨some s116,.ld (.t s115),none⟩,⟨some s014,.mv (.t s116),none⟩])
         (.block 4 (.loop (.seq (.seq (.reg [⟨some s117,.mv (.t s014),none⟩,⟨some s120,.bin .geq (.t s117) (.c (.i .i64 0)),none⟩])
           (.cond (.t s120) (.skip)
           (.exit 4)))
           (.seq (.block 5 (.reg [⟨some s124,.mv (.t s013),none⟩,⟨some s125,.mv (.t s014),none⟩,⟨some s126,.bsl 1 1 [(.i .i64 0)] [(0,1,(.t s125))],none⟩,⟨some s127,.app 1 8 (.t s124) (.t s126),none⟩,⟨some s013,.mv (.t s127),none⟩]))
           (.reg [⟨some s121,.mv (.t s005),none⟩,⟨some s122,.mv (.t s014),none⟩,⟨some s123,.lookup (.i .i64 0) false .int (.t s121) (.t s122),none⟩,⟨some s014,.mv (.t s123),none⟩]))))))
         (.seq (.reg [⟨some s130,.mv (.t s013),none⟩,⟨some s004,.mv (.t s130),none⟩])
         (.ret))))
        (.skip))))))))
      (.reg [⟨some s131,.bin .add (.t s047) (.c (.i .i64 1)),none⟩,⟨some s047,.mv (.t s131),none⟩]))))))))
   (.reg [⟨some s033,.mv (.t s006),none⟩,⟨some s034,.slice 1 (.t s033) (some (.c (.i .i64 1))) none none,none⟩,⟨some s006,.mv (.t s034),none⟩]))))))
 (.seq (.reg [⟨some s004,.mv (.c .nils),none⟩])
 (.ret)))))⟩
/-- (*arbor/plane.block).split$1 -/
def g74 : AFunc := ⟨3,[.t s005],
 (.seq (.reg [⟨some s005,.mv (.c .nils),none⟩])
 (.seq (.reg [⟨some s006,.mv (.c .nils),none⟩])
 (.seq (.seq (.reg [⟨some s010,.mv (.t s000),none⟩,⟨some s007,.mv (.t s010),none⟩])
 (.block 0 (.loop (.seq (.seq (.reg [⟨some s011,.mv (.t s007),none⟩,⟨some s012,.mv (.t s001),none⟩,⟨some s013,.eq .int true (.t s011) (.t s012),none⟩])
   (.cond (.t s013) (.skip)
   (.exit 0)))
   (.seq (.block 1 (.reg [⟨some s021,.mv (.t s006),none⟩,⟨some s022,.ld (.t s002),none⟩,⟨some s023,.mv (.t s007),none⟩,⟨some s024,.idxa 1 (.t s022) (.t s023),none⟩,⟨some s025,.ld (.t s024),none⟩,⟨some s026,.bsl 1 1 [(.i .i64 0)] [(0,1,(.t s025))],none⟩,⟨some s027,.app 1 8 (.t s021) (.t s026),none⟩,⟨some s006,.mv (.t s027),none⟩]))
   (.reg [⟨some s014,.mv (.t s007),none⟩,⟨some s015,.bin .add (.t s014) (.c (.i .i64 1)),none⟩,⟨some s016,.ld (.t s002),none⟩,⟨some s017,.len (.t s016),none⟩,⟨some s020,.bin .rem (.t s015) (.t s017),none⟩,⟨some s007,.mv (.t s020),none⟩]))))))
 (.seq (.reg [⟨some s030,.mv (.t s006),none⟩,⟨some s031,.ld (.t s002),none⟩,⟨some s032,.mv (.t s001),none⟩,⟨some s033,.idxa 1 (.t s031) (.t s032),none⟩,⟨some s034,.ld (.t s033),none⟩,⟨some s035,.bsl 1 1 [(.i .i64 0)] [(0,1,(.t s034))],none⟩,⟨some s036,.app 1 8 (.t s030) (.t s035),none⟩,⟨some s005,.mv (.t s036),none⟩])
 (.ret)))))⟩
/-- slices.insertionSortCmpFunc[[2]int] -/
def g75 : AFunc := ⟨4,[],
 (.seq (.reg [⟨some s012,.mv (.t s001),none⟩,⟨some s013,.bin .add (.t s012) (.c (.i .i64 1)),none⟩,⟨some s010,.mv (.t s013),none⟩])
 (.block 0 (.loop (.seq (.seq (.reg [⟨some s014,.mv (.t s010),none⟩,⟨some s015,.mv (.t s002),none⟩,⟨some s016,.bin .lss (.t s014) (.t s015),none⟩])
   (.cond (.t s016) (.skip)
   (.exit 0)))
   (.seq (.block 1 (.seq (.reg [⟨some s021,.mv (.t s010),none⟩,⟨some s011,.mv (.t s021),none⟩])
    (.block 2 (.loop (.seq (.seq (.dreg [(0,⟨some s022,.mv (.t s011),none⟩,0,true),(1,⟨some s023,.mv (.t s001),none⟩,0,true),(2,⟨some s024,.bin .gtr (.t s022) (.t s023),none⟩,3,true),(3,⟨some s025,.mv (.t s024),none⟩,7,true),(4,⟨some s026,.mv (.t s003),(some (s025,true))⟩,15,false),(5,⟨some s027,.mv (.t s000),(some (s025,true))⟩,15,false),(6,⟨some s030,.mv (.t s011),(some (s025,true))⟩,15,false),(7,⟨some s031,.idxa 2 (.t s027) (.t s030),(some (s025,true))⟩,111,false),(8,⟨some s032,.ldn 2 (.t s031),(some (s025,true))⟩,239,false),(9,⟨some s033,.mv (.t s000),(some (s025,true))⟩,15,false),(10,⟨some s034,.mv (.t s011),(some (s025,true))⟩,15,false),(11,⟨some s035,.bin .sub (.t s034) (.c (.i .i64 1)),(some (s025,true))⟩,1039,false),(12,⟨some s036,.idxa 2 (.t s033) (.t s035),(some (s025,true))⟩,3599,false),(13,⟨some s037,.ldn 2 (.t s036),(some (s025,true))⟩,7695,false),(14,⟨some s040,.call (.t s026) [(.t s032),(.t s037)],(some (s025,true))⟩,16383,true),(15,⟨some s041,.bin .lss (.t s040) (.c (.i .i64 0)),(some (s025,true))⟩,32767,true),(16,⟨some s042,.pick (.t s025) (.t s041) (.c (.b false)),none⟩,65535,true)])
      (.cond (.t s042) (.skip)
      (.exit 2)))
      (.seq (.block 3 (.dreg [(0,⟨some s045,.mv (.t s000),none⟩,0,false),(1,⟨some s046,.mv (.t s011),none⟩,0,false),(5,⟨some s052,.mv (.t s000),none⟩,0,false),(6,⟨some s053,.mv (.t s011),none⟩,0,false),(7,⟨some s054,.bin .sub (.t s053) (.c (.i .i64 1)),none⟩,64,false),(8,⟨some s055,.idxa 2 (.t s052) (.t s054),none⟩,224,false),(9,⟨some s056,.ldn 2 (.t s055),none⟩,480,false),(10,⟨some s057,.mv (.t s000),none⟩,0,false),(11,⟨some s060,.mv (.t s011),none⟩,0,false),(12,⟨some s061,.idxa 2 (.t s057) (.t s060),none⟩,3072,false),(13,⟨some s062,.ldn 2 (.t s061),none⟩,7168,false),(14,⟨some s063,.idxa 2 (.t s045) (.t s046),none⟩,16355,true),(15,⟨none,.st 2 (.t s063) (.t s056),none⟩,32739,true),(2,⟨some s047,.mv (.t s000),none⟩,0,false),(3,⟨some s050,.mv (.t s011),none⟩,0,false),(4,⟨some s051,.bin .sub (.t s050) (.c (.i .i64 1)),none⟩,8,false),(16,⟨some s064,.idxa 2 (.t s047) (.t s051),none⟩,65535,true),(17,⟨none,.st 2 (.t s064) (.t s062),none⟩,131071,true)]))
      (.reg [⟨some s043,.mv (.t s011),none⟩,⟨some s044,.bin .sub (.t s043) (.c (.i .i64 1)),none⟩,⟨some s011,.mv (.t s044),none⟩])))))))
   (.reg [⟨some s017,.mv (.t s010),none⟩,⟨some s020,.bin .add (.t s017) (.c (.i .i64 1)),none⟩,⟨some s010,.mv (.t s020),none⟩]))))))⟩
/-- slices.heapSortCmpFunc[[2]int] -/
def g76 : AFunc := ⟨4,[],
 (.seq (.reg [⟨some s015,.mv (.t s001),none⟩,⟨some s010,.mv (.t s015),none⟩])
 (.seq (.reg [⟨some s011,.mv (.c (.i .i64 0)),none⟩])
 (.seq (.reg [⟨some s016,.mv (.t s002),none⟩,⟨some s017,.mv (.t s001),none⟩,⟨some s020,.bin .sub (.t s016) (.t s017),none⟩,⟨some s012,.mv (.t s020),none⟩])
 (.seq (.seq (.reg [⟨some s021,.mv (.t s012),none⟩,⟨some s022,.bin .sub (.t s021) (.c (.i .i64 1)),none⟩,⟨some s023,.bin .quo (.t s022) (.c (.i .i64 2)),none⟩,⟨some s013,.mv (.t s023),none⟩])
 (.block 0 (.loop (.seq (.seq (.reg [⟨some s024,.mv (.t s013),none⟩,⟨some s025,.bin .geq (.t s024) (.c (.i .i64 0)),none⟩])
   (.cond (.t s025) (.skip)
   (.exit 0)))
   (.seq (.block 1 (.reg [⟨some s030,.mv (.t s000),none⟩,⟨some s031,.mv (.t s013),none⟩,⟨some s032,.mv (.t s012),none⟩,⟨some s033,.mv (.t s010),none⟩,⟨some s034,.mv (.t s003),none⟩,⟨some s035,.call (.c (.fn 90 [])) [(.t s030),(.t s031),(.t s032),(.t s033),(.t s034)],none⟩]))
   (.reg [⟨some s026,.mv (.t s013),none⟩,⟨some s027,.bin .sub (.t s026) (.c (.i .i64 1)),none⟩,⟨some s013,.mv (.t s027),none⟩]))))))
 (.seq (.reg [⟨some s036,.mv (.t s012),none⟩,⟨some s037,.bin .sub (.t s036) (.c (.i .i64 1)),none⟩,⟨some s014,.mv (.t s037),none⟩])
 (.block 2 (.loop (.seq (.seq (.reg [⟨some s040,.mv (.t s014),none⟩,⟨some s041,.bin .geq (.t s040) (.c (.i .i64 0)),none⟩])
   (.cond (.t s041) (.skip)
   (.exit 2)))
   (.seq (.block 3 (.seq (.dreg [(0,⟨some s044,.mv (.t s000),none⟩,0,false),(1,⟨some s045,.mv (.t s010),none⟩,0,false),(6,⟨some s052,.mv (.t s000),none⟩,0,false),(7,⟨some s053,.mv (.t s010),none⟩,0,false),(8,⟨some s054,.mv (.t s014),none⟩,0,false),(9,⟨some s055,.bin .add (.t s053) (.t s054),none⟩,384,false),(10,⟨some s056,.idxa 2 (.t s052) (.t s055),none⟩,960,false),(11,⟨some s057,.ldn 2 (.t s056),none⟩,1984,false),(12,⟨some s060,.mv (.t s000),none⟩,0,false),(13,⟨some s061,.mv (.t s010),none⟩,0,false),(14,⟨some s062,.idxa 2 (.t s060) (.t s061),none⟩,12288,false),(15,⟨some s063,.ldn 2 (.t s062),none⟩,28672,false),(16,⟨some s064,.idxa 2 (.t s044) (.t s045),none⟩,65475,true),(17,⟨none,.st 2 (.t s064) (.t s057),none⟩,131011,true),(2,⟨some s046,.mv (.t s000),none⟩,0,false),(3,⟨some s047,.mv (.t s010),none⟩,0,false),(4,⟨some s050,.mv (.t s014),none⟩,0,false),(5,⟨some s051,.bin .add (.t s047) (.t s050),none⟩,24,false),(18,⟨some s065,.idxa 2 (.t s046) (.t s051),none⟩,262143,true),(19,⟨none,.st 2 (.t s065) (.t s063),none⟩,524287,true)])
    (.reg [⟨some s066,.mv (.t s000),none⟩,⟨some s067,.mv (.t s011),none⟩,⟨some s070,.mv (.t s014),none⟩,⟨some s071,.mv (.t s010),none⟩,⟨some s072,.mv (.t s003),none⟩,⟨some s073,.call (.c (.fn 90 [])) [(.t s066),(.t s067),(.t s070),(.t s071),(.t s072)],none⟩])))
   (.reg [⟨some s042,.mv (.t s014),none⟩,⟨some s043,.bin .sub (.t s042) (.c (.i .i64 1)),none⟩,⟨some s014,.mv (.t s043),none⟩]))))))))))⟩
/-- slices.breakPatternsCmpFunc[[2]int] -/
def g77 : AFunc := ⟨4,[],
 (.seq (.reg [⟨some s015,.mv (.t s002),none⟩,⟨some s016,.mv (.t s001),none⟩,⟨some s017,.bin .sub (.t s015) (.t s016),none⟩,⟨some s010,.mv (.t s017),none⟩])
 (.seq (.reg [⟨some s020,.mv (.t s010),none⟩,⟨some s021,.bin .geq (.t s020) (.c (.i .i64 8)),none⟩])
 (.cond (.t s021) (.seq (.reg [⟨some s022,.mv (.t s010),none⟩,⟨some s023,.conv .u64 (.t s022),none⟩,⟨some s011,.new [(.i .u64 0)],none⟩,⟨none,.st 1 (.t s011) (.t s023),none⟩])
  (.seq (.reg [⟨some s024,.mv (.t s010),none⟩,⟨some s025,.call (.c (.fn 91 [])) [(.t s024)],none⟩,⟨some s012,.mv (.t s025),none⟩])
  (.seq (.reg [⟨some s026,.mv (.t s001),none⟩,⟨some s027,.mv (.t s010),none⟩,⟨some s030,.bin .quo (.t s027) (.c (.i .i64 4)),none⟩,⟨some s031,.bin .mul (.t s030) (.c (.i .i64 2)),none⟩,⟨some s032,.bin .add (.t s026) (.t s031),none⟩,⟨some s033,.bin .sub (.t s032) (.c (.i .i64 1)),none⟩,⟨some s013,.mv (.t s033),none⟩])
  (.block 0 (.loop (.seq (.seq (.reg [⟨some s034,.mv (.t s013),none⟩,⟨some s035,.mv (.t s001),none⟩,⟨some s036,.mv (.t s010),none⟩,⟨some s037,.bin .quo (.t s036) (.c (.i .i64 4)),none⟩,⟨some s040,.bin .mul (.t s037) (.c (.i .i64 2)),none⟩,⟨some s041,.bin .add (.t s035) (.t s040),none⟩,⟨some s042,.bin .add (.t s041) (.c (.i .i64 1)),none⟩,⟨some s043,.bin .leq (.t s034) (.t s042),none⟩])
    (.cond (.t s043) (.skip)
    (.exit 0)))
    (.seq (.block 1 (.seq (.reg [⟨some s046,.call (.c (.fn 92 [])) [(.t s011)],none⟩,⟨some s047,.mv (.t s012),none⟩,⟨some s050,.bin .sub (.t s047) (.c (.i .u64 1)),none⟩,⟨some s051,.bin .and (.t s046) (.t s050),none⟩,⟨some s052,.conv .i64 (.t s051),none⟩,⟨some s014,.mv (.t s052),none⟩])
     (.seq (.seq (.reg [⟨some s053,.mv (.t s014),none⟩,⟨some s054,.mv (.t s010),none⟩,⟨some s055,.bin .geq (.t s053) (.t s054),none⟩])
     (.cond (.t s055) (.reg [⟨some s056,.mv (.t s014),none⟩,⟨some s057,.mv (.t s010),none⟩,⟨some s060,.bin .sub (.t s056) (.t s057),none⟩,⟨some s014,.mv (.t s060),none⟩])
     (.skip)))
     (.dreg [(0,⟨some s061,.mv (.t s000),none⟩,0,false),(1,⟨some s062,.mv (.t s013),none⟩,0,false),(6,⟨some s067,.mv (.t s000),none⟩,0,false),(7,⟨some s070,.mv (.t s001),none⟩,0,false),(8,⟨some s071,.mv (.t s014),none⟩,0,false),(9,⟨some s072,.bin .add (.t s070) (.t s071),none⟩,384,false),(10,⟨some s073,.idxa 2 (.t s067) (.t s072),none⟩,960,false),(11,⟨some s074,.ldn 2 (.t s073),none⟩,1984,false),(12,⟨some s075,.mv (.t s000),none⟩,0,false),(13,⟨some s076,.mv (.t s013),none⟩,0,false),(14,⟨some s077,.idxa 2 (.t s075) (.t s076),none⟩,12288,false),(15,⟨some s100,.ldn 2 (.t s077),none⟩,28672,false),(16,⟨some s101,.idxa 2 (.t s061) (.t s062),none⟩,65475,true),(17,⟨none,.st 2 (.t s101) (.t s074),none⟩,131011,true),(2,⟨some s063,.mv (.t s000),none⟩,0,false),(3,⟨some s064,.mv (.t s001),none⟩,0,false),(4,⟨some s065,.mv (.t s014),none⟩,0,false),(5,⟨some s066,.bin .add (.t s064) (.t s065),none⟩,24,false),(18,⟨some s102,.idxa 2 (.t s063) (.t s066),none⟩,262143,true),(19,⟨none,.st 2 (.t s102) (.t s100),none⟩,524287,true)]))))
    (.reg [⟨some s044,.mv (.t s013),none⟩,⟨some s045,.bin .add (.t s044) (.c (.i .i64 1)),none⟩,⟨some s013,.mv (.t s045),none⟩]))))))))
 (.skip))))⟩
/-- slices.choosePivotCmpFunc[[2]int] -/
def g78 : AFunc := ⟨4,[.t s010,.t s011],
 (.seq (.reg [⟨some s010,.mv (.c (.i .i64 0)),none⟩,⟨some s011,.mv (.c (.i .i64 0)),none⟩])
 (.seq (.reg [⟨some s017,.mv (.t s002),none⟩,⟨some s020,.mv (.t s001),none⟩,⟨some s021,.bin .sub (.t s017) (.t s020),none⟩,⟨some s012,.mv (.t s021),none⟩])
 (.seq (.reg [⟨some s013,.new [(.i .i64 0)],none⟩])
 (.seq (.reg [⟨some s022,.mv (.t s001),none⟩,⟨some s023,.mv (.t s012),none⟩,⟨some s024,.bin .quo (.t s023) (.c (.i .i64 4)),none⟩,⟨some s025,.bin .mul (.t s024) (.c (.i .i64 1)),none⟩,⟨some s026,.bin .add (.t s022) (.t s025),none⟩,⟨some s014,.mv (.t s026),none⟩])
 (.seq (.reg [⟨some s027,.mv (.t s001),none⟩,⟨some s030,.mv (.t s012),none⟩,⟨some s031,.bin .quo (.t s030) (.c (.i .i64 4)),none⟩,⟨some s032,.bin .mul (.t s031) (.c (.i .i64 2)),none⟩,⟨some s033,.bin .add (.t s027) (.t s032),none⟩,⟨some s015,.mv (.t s033),none⟩])
 (.seq (.reg [⟨some s034,.mv (.t s001),none⟩,⟨some s035,.mv (.t s012),none⟩,⟨some s036,.bin .quo (.t s035) (.c (.i .i64 4)),none⟩,⟨some s037,.bin .mul (.t s036) (.c (.i .i64 3)),none⟩,⟨some s040,.bin .add (.t s034) (.t s037),none⟩,⟨some s016,.mv (.t s040),none⟩])
 (.seq (.seq (.reg [⟨some s041,.mv (.t s012),none⟩,⟨some s042,.bin .geq (.t s041) (.c (.i .i64 8)),none⟩])
 (.cond (.t s042) (.seq (.seq (.reg [⟨some s043,.mv (.t s012),none⟩,⟨some s044,.bin .geq (.t s043) (.c (.i .i64 50)),none⟩])
  (.cond (.t s044) (.seq (.reg [⟨some s045,.mv (.t s000),none⟩,⟨some s046,.mv (.t s014),none⟩,⟨some s047,.mv (.t s003),none⟩,⟨some s050,.call (.c (.fn 93 [])) [(.t s045),(.t s046),(.t s013),(.t s047)],none⟩,⟨some s014,.mv (.t s050),none⟩])
   (.seq (.reg [⟨some s051,.mv (.t s000),none⟩,⟨some s052,.mv (.t s015),none⟩,⟨some s053,.mv (.t s003),none⟩,⟨some s054,.call (.c (.fn 93 [])) [(.t s051),(.t s052),(.t s013),(.t s053)],none⟩,⟨some s015,.mv (.t s054),none⟩])
   (.reg [⟨some s055,.mv (.t s000),none⟩,⟨some s056,.mv (.t s016),none⟩,⟨some s057,.mv (.t s003),none⟩,⟨some s060,.call (.c (.fn 93 [])) [(.t s055),(.t s056),(.t s013),(.t s057)],none⟩,⟨some s016,.mv (.t s060),none⟩])))
  (.skip)))
  (.reg [⟨some s061,.mv (.t s000),none⟩,⟨some s062,.mv (.t s014),none⟩,⟨some s063,.mv (.t s015),none⟩,⟨some s064,.mv (.t s016),none⟩,⟨some s065,.mv (.t s003),none⟩,⟨some s066,.call (.c (.fn 94 [])) [(.t s061),(.t s062),(.t s063),(.t s064),(.t s013),(.t s065)],none⟩,⟨some s015,.mv (.t s066),none⟩]))
 (.skip)))
 (.seq (.reg [⟨some s067,.ld (.t s013),none⟩])
 (.block 0 (.seq (.reg [⟨some s072,.eq .int false (.t s067) (.c (.i .i64 0)),none⟩,⟨some s071,.mv (.t s072),none⟩])
  (.cond (.t s071) (.seq (.reg [⟨some s073,.mv (.t s015),none⟩,⟨some s010,.mv (.t s073),none⟩,⟨some s011,.mv (.c (.i .i64 1)),none⟩])
   (.ret))
  (.seq (.reg [⟨some s075,.eq .int false (.t s067) (.c (.i .i64 12)),none⟩,⟨some s074,.mv (.t s075),none⟩])
   (.cond (.t s074) (.seq (.reg [⟨some s076,.mv (.t s015),none⟩,⟨some s010,.mv (.t s076),none⟩,⟨some s011,.mv (.c (.i .i64 2)),none⟩])
    (.ret))
   (.seq (.reg [⟨some s070,.mv (.t s015),none⟩,⟨some s010,.mv (.t s070),none⟩,⟨some s011,.mv (.c (.i .i64 0)),none⟩])
    (.ret)))))))))))))))⟩
/-- slices.reverseRangeCmpFunc[[2]int] -/
def g79 : AFunc := ⟨4,[],
 (.seq (.reg [⟨some s012,.mv (.t s001),none⟩,⟨some s010,.mv (.t s012),none⟩])
 (.seq (.reg [⟨some s013,.mv (.t s002),none⟩,⟨some s014,.bin .sub (.t s013) (.c (.i .i64 1)),none⟩,⟨some s011,.mv (.t s014),none⟩])
 (.block 0 (.loop (.seq (.seq (.reg [⟨some s015,.mv (.t s010),none⟩,⟨some s016,.mv (.t s011),none⟩,⟨some s017,.bin .lss (.t s015) (.t s016),none⟩])
   (.cond (.t s017) (.skip)
   (.exit 0)))
   (.block 1 (.seq (.dreg [(0,⟨some s020,.mv (.t s000),none⟩,0,false),(1,⟨some s021,.mv (.t s010),none⟩,0,false),(4,⟨some s024,.mv (.t s000),none⟩,0,false),(5,⟨some s025,.mv (.t s011),none⟩,0,false),(6,⟨some s026,.idxa 2 (.t s024) (.t s025),none⟩,48,false),(7,⟨some s027,.ldn 2 (.t s026),none⟩,112,false),(8,⟨some s030,.mv (.t s000),none⟩,0,false),(9,⟨some s031,.mv (.t s010),none⟩,0,false),(10,⟨some s032,.idxa 2 (.t s030) (.t s031),none⟩,768,false),(11,⟨some s033,.ldn 2 (.t s032),none⟩,1792,false),(12,⟨some s034,.idxa 2 (.t s020) (.t s021),none⟩,4083,true),(13,⟨none,.st 2 (.t s034) (.t s027),none⟩,8179,true),(2,⟨some s022,.mv (.t s000),none⟩,0,false),(3,⟨some s023,.mv (.t s011),none⟩,0,false),(14,⟨some s035,.idxa 2 (.t s022) (.t s023),none⟩,16383,true),(15,⟨none,.st 2 (.t s035) (.t s033),none⟩,32767,true)])
    (.seq (.reg [⟨some s036,.mv (.t s010),none⟩,⟨some s037,.bin .add (.t s036) (.c (.i .i64 1)),none⟩,⟨some s010,.mv (.t s037),none⟩])
    (.reg [⟨some s040,.mv (.t s011),none⟩,⟨some s041,.bin .sub (.t s040) (.c (.i .i64 1)),none⟩,⟨some s011,.mv (.t s041),none⟩])))))))))⟩
/-- slices.partialInsertionSortCmpFunc[[2]int] -/
def g80 : AFunc := ⟨4,[.t s010],
 (.seq (.reg [⟨some s010,.mv (.c (.b false)),none⟩])
 (.seq (.reg [⟨some s015,.mv (.t s001),none⟩,⟨some s016,.bin .add (.t s015) (.c (.i .i64 1)),none⟩,⟨some s011,.mv (.t s016),none⟩])
 (.seq (.seq (.reg [⟨some s012,.mv (.c (.i .i64 0)),none⟩])
 (.block 0 (.loop (.seq (.seq (.reg [⟨some s017,.mv (.t s012),none⟩,⟨some s020,.bin .lss (.t s017) (.c (.i .i64 5)),none⟩])
   (.cond (.t s020) (.skip)
   (.exit 0)))
   (.seq (.block 1 (.seq (.block 2 (.loop (.seq (.seq (.dreg [(0,⟨some s023,.mv (.t s011),none⟩,0,true),(1,⟨some s024,.mv (.t s002),none⟩,0,true),(2,⟨some s025,.bin .lss (.t s023) (.t s024),none⟩,3,true),(3,⟨some s026,.mv (.t s025),none⟩,7,true),(4,⟨some s027,.mv (.t s003),(some (s026,true))⟩,15,false),(5,⟨some s030,.mv (.t s000),(some (s026,true))⟩,15,false),(6,⟨some s031,.mv (.t s011),(some (s026,true))⟩,15,false),(7,⟨some s032,.idxa 2 (.t s030) (.t s031),(some (s026,true))⟩,111,false),(8,⟨some s033,.ldn 2 (.t s032),(some (s026,true))⟩,239,false),(9,⟨some s034,.mv (.t s000),(some (s026,true))⟩,15,false),(10,⟨some s035,.mv (.t s011),(some (s026,true))⟩,15,false),(11,⟨some s036,.bin .sub (.t s035) (.c (.i .i64 1)),(some (s026,true))⟩,1039,false),(12,⟨some s037,.idxa 2 (.t s034) (.t s036),(some (s026,true))⟩,3599,false),(13,⟨some s040,.ldn 2 (.t s037),(some (s026,true))⟩,7695,false),(14,⟨some s041,.call (.t s027) [(.t s033),(.t s040)],(some (s026,true))⟩,16383,true),(15,⟨some s042,.bin .lss (.t s041) (.c (.i .i64 0)),(some (s026,true))⟩,32767,true),(16,⟨some s043,.un .not (.t s042),(some (s026,true))⟩,65535,true),(17,⟨some s044,.pick (.t s026) (.t s043) (.c (.b false)),none⟩,131071,true)])
      (.cond (.t s044) (.skip)
      (.exit 2)))
      (.block 3 (.reg [⟨some s045,.mv (.t s011),none⟩,⟨some s046,.bin .add (.t s045) (.c (.i .i64 1)),none⟩,⟨some s011,.mv (.t s046),none⟩])))))
    (.seq (.seq (.reg [⟨some s047,.mv (.t s011),none⟩,⟨some s050,.mv (.t s002),none⟩,⟨some s051,.eq .int false (.t s047) (.t s050),none⟩])
    (.cond (.t s051) (.seq (.reg [⟨some s010,.mv (.c (.b true)),none⟩])
     (.ret))
    (.skip)))
    (.seq (.seq (.reg [⟨some s052,.mv (.t s002),none⟩,⟨some s053,.mv (.t s001),none⟩,⟨some s054,.bin .sub (.t s052) (.t s053),none⟩,⟨some s055,.bin .lss (.t s054) (.c (.i .i64 50)),none⟩])
    (.cond (.t s055) (.seq (.reg [⟨some s010,.mv (.c (.b false)),none⟩])
     (.ret))
    (.skip)))
    (.seq (.dreg [(0,⟨some s056,.mv (.t s000),none⟩,0,false),(1,⟨some s057,.mv (.t s011),none⟩,0,false),(5,⟨some s063,.mv (.t s000),none⟩,0,false),(6,⟨some s064,.mv (.t s011),none⟩,0,false),(7,⟨some s065,.bin .sub (.t s064) (.c (.i .i64 1)),none⟩,64,false),(8,⟨some s066,.idxa 2 (.t s063) (.t s065),none⟩,224,false),(9,⟨some s067,.ldn 2 (.t s066),none⟩,480,false),(10,⟨some s070,.mv (.t s000),none⟩,0,false),(11,⟨some s071,.mv (.t s011),none⟩,0,false),(12,⟨some s072,.idxa 2 (.t s070) (.t s071),none⟩,3072,false),(13,⟨some s073,.ldn 2 (.t s072),none⟩,7168,false),(14,⟨some s074,.idxa 2 (.t s056) (.t s057),none⟩,16355,true),(15,⟨none,.st 2 (.t s074) (.t s067),none⟩,32739,true),(2,⟨some s060,.mv (.t s000),none⟩,0,false),(3,⟨some s061,.mv (.t s011),none⟩,0,false),(4,⟨some s062,.bin .sub (.t s061) (.c (.i .i64 1)),none⟩,8,false),(16,⟨some s075,.idxa 2 (.t s060) (.t s062),none⟩,65535,true),(17,⟨none,.st 2 (.t s075) (.t s073),none⟩,131071,true)])
    (.seq (.seq (.reg [⟨some s076,.mv (.t s011),none⟩,⟨some s077,.mv (.t s001),none⟩,⟨some s100,.bin .sub (.t s076) (.t s077),none⟩,⟨some s101,.bin .geq (.t s100) (.c (.i .i64 2)),none⟩])
    (.cond (.t s101) (.seq (.reg [⟨some s102,.mv (.t s011),none⟩,⟨some s103,.bin .sub (.t s102) (.c (.i .i64 1)),none⟩,⟨some s013,.mv (.t s103),none⟩])
     (.block 4 (.loop (.seq (.seq (.reg [⟨some s104,.mv (.t s013),none⟩,⟨some s105,.bin .geq (.t s104) (.c (.i .i64 1)),none⟩])
       (.cond (.t s105) (.skip)
       (.exit 4)))
       (.seq (.block 5 (.seq (.seq (.dreg [(0,⟨some s110,.mv (.t s003),none⟩,0,false),(1,⟨some s111,.mv (.t s000),none⟩,0,false),(2,⟨some s112,.mv (.t s013),none⟩,0,false),(3,⟨some s113,.idxa 2 (.t s111) (.t s112),none⟩,6,false),(4,⟨some s114,.ldn 2 (.t s113),none⟩,14,false),(5,⟨some s115,.mv (.t s000),none⟩,0,false),(6,⟨some s116,.mv (.t s013),none⟩,0,false),(7,⟨some s117,.bin .sub (.t s116) (.c (.i .i64 1)),none⟩,64,false),(8,⟨some s120,.idxa 2 (.t s115) (.t s117),none⟩,224,false),(9,⟨some s121,.ldn 2 (.t s120),none⟩,480,false),(10,⟨some s122,.call (.t s110) [(.t s114),(.t s121)],none⟩,1023,true),(11,⟨some s123,.bin .lss (.t s122) (.c (.i .i64 0)),none⟩,2047,true),(12,⟨some s124,.un .not (.t s123),none⟩,4095,true)])
        (.cond (.t s124) (.exit 4)
        (.skip)))
        (.dreg [(0,⟨some s125,.mv (.t s000),none⟩,0,false),(1,⟨some s126,.mv (.t s013),none⟩,0,false),(5,⟨some s132,.mv (.t s000),none⟩,0,false),(6,⟨some s133,.mv (.t s013),none⟩,0,false),(7,⟨some s134,.bin .sub (.t s133) (.c (.i .i64 1)),none⟩,64,false),(8,⟨some s135,.idxa 2 (.t s132) (.t s134),none⟩,224,false),(9,⟨some s136,.ldn 2 (.t s135),none⟩,480,false),(10,⟨some s137,.mv (.t s000),none⟩,0,false),(11,⟨some s140,.mv (.t s013),none⟩,0,false),(12,⟨some s141,.idxa 2 (.t s137) (.t s140),none⟩,3072,false),(13,⟨some s142,.ldn 2 (.t s141),none⟩,7168,false),(14,⟨some s143,.idxa 2 (.t s125) (.t s126),none⟩,16355,true),(15,⟨none,.st 2 (.t s143) (.t s136),none⟩,32739,true),(2,⟨some s127,.mv (.t s000),none⟩,0,false),(3,⟨some s130,.mv (.t s013),none⟩,0,false),(4,⟨some s131,.bin .sub (.t s130) (.c (.i .i64 1)),none⟩,8,false),(16,⟨some s144,.idxa 2 (.t s127) (.t s131),none⟩,65535,true),(17,⟨none,.st 2 (.t s144) (.t s142),none⟩,131071,true)])))
       (.reg [⟨some s106,.mv (.t s013),none⟩,⟨some s107,.bin .sub (.t s106) (.c (.i .i64 1)),none⟩,⟨some s013,.mv (.t s107),none⟩]))))))
    (.skip)))
    (.seq (.reg [⟨some s145,.mv (.t s002),none⟩,⟨some s146,.mv (.t s011),none⟩,⟨some s147,.bin .sub (.t s145) (.t s146),none⟩,⟨some s150,.bin .geq (.t s147) (.c (.i .i64 2)),none⟩])
    (.cond (.t s150) (.seq (.reg [⟨some s151,.mv (.t s011),none⟩,⟨some s152,.bin .add (.t s151) (.c (.i .i64 1)),none⟩,⟨some s014,.mv (.t s152),none⟩])
     (.block 6 (.loop (.seq (.seq (.reg [⟨some s153,.mv (.t s014),none⟩,⟨some s154,.mv (.t s002),none⟩,⟨some s155,.bin .lss (.t s153) (.t s154),none⟩])
       (.cond (.t s155) (.skip)
       (.exit 6)))
       (.seq (.block 7 (.seq (.seq (.dreg [(0,⟨some s160,.mv (.t s003),none⟩,0,false),(1,⟨some s161,.mv (.t s000),none⟩,0,false),(2,⟨some s162,.mv (.t s014),none⟩,0,false),(3,⟨some s163,.idxa 2 (.t s161) (.t s162),none⟩,6,false),(4,⟨some s164,.ldn 2 (.t s163),none⟩,14,false),(5,⟨some s165,.mv (.t s000),none⟩,0,false),(6,⟨some s166,.mv (.t s014),none⟩,0,false),(7,⟨some s167,.bin .sub (.t s166) (.c (.i .i64 1)),none⟩,64,false),(8,⟨some s170,.idxa 2 (.t s165) (.t s167),none⟩,224,false),(9,⟨some s171,.ldn 2 (.t s170),none⟩,480,false),(10,⟨some s172,.call (.t s160) [(.t s164),(.t s171)],none⟩,1023,true),(11,⟨some s173,.bin .lss (.t s172) (.c (.i .i64 0)),none⟩,2047,true),(12,⟨some s174,.un .not (.t s173),none⟩,4095,true)])
        (.cond (.t s174) (.exit 6)
        (.skip)))
        (.dreg [(0,⟨some s175,.mv (.t s000),none⟩,0,false),(1,⟨some s176,.mv (.t s014),none⟩,0,false),(5,⟨some s202,.mv (.t s000),none⟩,0,false),(6,⟨some s203,.mv (.t s014),none⟩,0,false),(7,⟨some s204,.bin .sub (.t s203) (.c (.i .i64 1)),none⟩,64,false),(8,⟨some s205,.idxa 2 (.t s202) (.t s204),none⟩,224,false),(9,⟨some s206,.ldn 2 (.t s205),none⟩,480,false),(10,⟨some s207,.mv (.t s000),none⟩,0,false),(11,⟨some s210,.mv (.t s014),none⟩,0,false),(12,⟨some s211,.idxa 2 (.t s207) (.t s210),none⟩,3072,false),(13,⟨some s212,.ldn 2 (.t s211),none⟩,7168,false),(14,⟨some s213,.idxa 2 (.t s175) (.t s176),none⟩,16355,true),(15,⟨none,.st 2 (.t s213) (.t s206),none⟩,32739,true),(2,⟨some s177,.mv (.t s000),none⟩,0,false),(3,⟨some s200,.mv (.t s014),none⟩,0,false),(4,⟨some s201,.bin .sub (.t s200) (.c (.i .i64 1)),none⟩,8,false),(16,⟨some s214,.idxa 2 (.t s177) (.t s201),none⟩,65535,true),(17,⟨none,.st 2 (.t s214) (.t s212),none⟩,131071,true)])))
       (.reg [⟨some s156,.mv (.t s014),none⟩,⟨some s157,.bin .add (.t s156) (.c (.i .i64 1)),none⟩,⟨some s014,.mv (.t s157),none⟩]))))))
    (.skip)))))))))
   (.reg [⟨some s021,.mv (.t s012),none⟩,⟨some s022,.bin .add (.t s021) (.c (.i .i64 1)),none⟩,⟨some s012,.mv (.t s022),none⟩]))))))
 (.seq (.reg [⟨some s010,.mv (.c (.b false)),none⟩])
 (.ret)))))⟩
/-- slices.partitionEqualCmpFunc[[2]int] -/
def g81 : AFunc := ⟨5,[.t s012],
 (.seq (.reg [⟨some s012,.mv (.c (.i .i64 0)),none⟩])
 (.seq (.dreg [(0,⟨some s015,.mv (.t s000),none⟩,0,false),(1,⟨some s016,.mv (.t s001),none⟩,0,false),(4,⟨some s021,.mv (.t s000),none⟩,0,false),(5,⟨some s022,.mv (.t s003),none⟩,0,false),(6,⟨some s023,.idxa 2 (.t s021) (.t s022),none⟩,48,false),(7,⟨some s024,.ldn 2 (.t s023),none⟩,112,false),(8,⟨some s025,.mv (.t s000),none⟩,0,false),(9,⟨some s026,.mv (.t s001),none⟩,0,false),(10,⟨some s027,.idxa 2 (.t s025) (.t s026),none⟩,768,false),(11,⟨some s030,.ldn 2 (.t s027),none⟩,1792,false),(12,⟨some s031,.idxa 2 (.t s015) (.t s016),none⟩,4083,true),(13,⟨none,.st 2 (.t s031) (.t s024),none⟩,8179,true),(2,⟨some s017,.mv (.t s000),none⟩,0,false),(3,⟨some s020,.mv (.t s003),none⟩,0,false),(14,⟨some s032,.idxa 2 (.t s017) (.t s020),none⟩,16383,true),(15,⟨none,.st 2 (.t s032) (.t s030),none⟩,32767,true)])
 (.seq (.reg [⟨some s033,.mv (.t s001),none⟩,⟨some s034,.bin .add (.t s033) (.c (.i .i64 1)),none⟩,⟨some s035,.mv (.t s002),none⟩,⟨some s036,.bin .sub (.t s035) (.c (.i .i64 1)),none⟩,⟨some s013,.mv (.t s034),none⟩,⟨some s014,.mv (.t s036),none⟩])
 (.seq (.block 0 (.loop (.block 1 (.seq (.block 2 (.loop (.seq (.seq (.dreg [(0,⟨some s037,.mv (.t s013),none⟩,0,true),(1,⟨some s040,.mv (.t s014),none⟩,0,true),(2,⟨some s041,.bin .leq (.t s037) (.t s040),none⟩,3,true),(3,⟨some s042,.mv (.t s041),none⟩,7,true),(4,⟨some s043,.mv (.t s004),(some (s042,true))⟩,15,false),(5,⟨some s044,.mv (.t s000),(some (s042,true))⟩,15,false),(6,⟨some s045,.mv (.t s001),(some (s042,true))⟩,15,false),(7,⟨some s046,.idxa 2 (.t s044) (.t s045),(some (s042,true))⟩,111,false),(8,⟨some s047,.ldn 2 (.t s046),(some (s042,true))⟩,239,false),(9,⟨some s050,.mv (.t s000),(some (s042,true))⟩,15,false),(10,⟨some s051,.mv (.t s013),(some (s042,true))⟩,15,false),(11,⟨some s052,.idxa 2 (.t s050) (.t s051),(some (s042,true))⟩,1551,false),(12,⟨some s053,.ldn 2 (.t s052),(some (s042,true))⟩,3599,false),(13,⟨some s054,.call (.t s043) [(.t s047),(.t s053)],(some (s042,true))⟩,8191,true),(14,⟨some s055,.bin .lss (.t s054) (.c (.i .i64 0)),(some (s042,true))⟩,16383,true),(15,⟨some s056,.un .not (.t s055),(some (s042,true))⟩,32767,true),(16,⟨some s057,.pick (.t s042) (.t s056) (.c (.b false)),none⟩,65535,true)])
      (.cond (.t s057) (.skip)
      (.exit 2)))
      (.block 3 (.reg [⟨some s060,.mv (.t s013),none⟩,⟨some s061,.bin .add (.t s060) (.c (.i .i64 1)),none⟩,⟨some s013,.mv (.t s061),none⟩])))))
    (.seq (.block 4 (.loop (.seq (.seq (.dreg [(0,⟨some s062,.mv (.t s013),none⟩,0,true),(1,⟨some s063,.mv (.t s014),none⟩,0,true),(2,⟨some s064,.bin .leq (.t s062) (.t s063),none⟩,3,true),(3,⟨some s065,.mv (.t s064),none⟩,7,true),(4,⟨some s066,.mv (.t s004),(some (s065,true))⟩,15,false),(5,⟨some s067,.mv (.t s000),(some (s065,true))⟩,15,false),(6,⟨some s070,.mv (.t s001),(some (s065,true))⟩,15,false),(7,⟨some s071,.idxa 2 (.t s067) (.t s070),(some (s065,true))⟩,111,false),(8,⟨some s072,.ldn 2 (.t s071),(some (s065,true))⟩,239,false),(9,⟨some s073,.mv (.t s000),(some (s065,true))⟩,15,false),(10,⟨some s074,.mv (.t s014),(some (s065,true))⟩,15,false),(11,⟨some s075,.idxa 2 (.t s073) (.t s074),(some (s065,true))⟩,1551,false),(12,⟨some s076,.ldn 2 (.t s075),(some (s065,true))⟩,3599,false),(13,⟨some s077,.call (.t s066) [(.t s072),(.t s076)],(some (s065,true))⟩,8191,true),(14,⟨some s100,.bin .lss (.t s077) (.c (.i .i64 0)),(some (s065,true))⟩,16383,true),(15,⟨some s101,.pick (.t s065) (.t s100) (.c (.b false)),none⟩,32767,true)])
      (.cond (.t s101) (.skip)
      (.exit 4)))
      (.block 5 (.reg [⟨some s102,.mv (.t s014),none⟩,⟨some s103,.bin .sub (.t s102) (.c (.i .i64 1)),none⟩,⟨some s014,.mv (.t s103),none⟩])))))
    (.seq (.seq (.reg [⟨some s104,.mv (.t s013),none⟩,⟨some s105,.mv (.t s014),none⟩,⟨some s106,.bin .gtr (.t s104) (.t s105),none⟩])
    (.cond (.t s106) (.exit 0)
    (.skip)))
    (.seq (.dreg [(0,⟨some s107,.mv (.t s000),none⟩,0,false),(1,⟨some s110,.mv (.t s013),none⟩,0,false),(4,⟨some s113,.mv (.t s000),none⟩,0,false),(5,⟨some s114,.mv (.t s014),none⟩,0,false),(6,⟨some s115,.idxa 2 (.t s113) (.t s114),none⟩,48,false),(7,⟨some s116,.ldn 2 (.t s115),none⟩,112,false),(8,⟨some s117,.mv (.t s000),none⟩,0,false),(9,⟨some s120,.mv (.t s013),none⟩,0,false),(10,⟨some s121,.idxa 2 (.t s117) (.t s120),none⟩,768,false),(11,⟨some s122,.ldn 2 (.t s121),none⟩,1792,false),(12,⟨some s123,.idxa 2 (.t s107) (.t s110),none⟩,4083,true),(13,⟨none,.st 2 (.t s123) (.t s116),none⟩,8179,true),(2,⟨some s111,.mv (.t s000),none⟩,0,false),(3,⟨some s112,.mv (.t s014),none⟩,0,false),(14,⟨some s124,.idxa 2 (.t s111) (.t s112),none⟩,16383,true),(15,⟨none,.st 2 (.t s124) (.t s122),none⟩,32767,true)])
    (.seq (.reg [⟨some s125,.mv (.t s013),none⟩,⟨some s126,.bin .add (.t s125) (.c (.i .i64 1)),none⟩,⟨some s013,.mv (.t s126),none⟩])
    (.reg [⟨some s127,.mv (.t s014),none⟩,⟨some s130,.bin .sub (.t s127) (.c (.i .i64 1)),none⟩,⟨some s014,.mv (.t s130),none⟩])))))))))
 (.seq (.reg [⟨some s131,.mv (.t s013),none⟩,⟨some s012,.mv (.t s131),none⟩])
 (.ret))))))⟩
/-- slices.partitionCmpFunc[[2]int] -/
def g82 : AFunc := ⟨5,[.t s012,.t s013],
 (.seq (.reg [⟨some s012,.mv (.c (.i .i64 0)),none⟩,⟨some s013,.mv (.c (.b false)),none⟩])
 (.seq (.dreg [(0,⟨some s016,.mv (.t s000),none⟩,0,false),(1,⟨some s017,.mv (.t s001),none⟩,0,false),(4,⟨some s022,.mv (.t s000),none⟩,0,false),(5,⟨some s023,.mv (.t s003),none⟩,0,false),(6,⟨some s024,.idxa 2 (.t s022) (.t s023),none⟩,48,false),(7,⟨some s025,.ldn 2 (.t s024),none⟩,112,false),(8,⟨some s026,.mv (.t s000),none⟩,0,false),(9,⟨some s027,.mv (.t s001),none⟩,0,false),(10,⟨some s030,.idxa 2 (.t s026) (.t s027),none⟩,768,false),(11,⟨some s031,.ldn 2 (.t s030),none⟩,1792,false),(12,⟨some s032,.idxa 2 (.t s016) (.t s017),none⟩,4083,true),(13,⟨none,.st 2 (.t s032) (.t s025),none⟩,8179,true),(2,⟨some s020,.mv (.t s000),none⟩,0,false),(3,⟨some s021,.mv (.t s003),none⟩,0,false),(14,⟨some s033,.idxa 2 (.t s020) (.t s021),none⟩,16383,true),(15,⟨none,.st 2 (.t s033) (.t s031),none⟩,32767,true)])
 (.seq (.reg [⟨some s034,.mv (.t s001),none⟩,⟨some s035,.bin .add (.t s034) (.c (.i .i64 1)),none⟩,⟨some s036,.mv (.t s002),none⟩,⟨some s037,.bin .sub (.t s036) (.c (.i .i64 1)),none⟩,⟨some s014,.mv (.t s035),none⟩,⟨some s015,.mv (.t s037),none⟩])
 (.seq (.block 0 (.loop (.seq (.seq (.dreg [(0,⟨some s040,.mv (.t s014),none⟩,0,true),(1,⟨some s041,.mv (.t s015),none⟩,0,true),(2,⟨some s042,.bin .leq (.t s040) (.t s041),none⟩,3,true),(3,⟨some s043,.mv (.t s042),none⟩,7,true),(4,⟨some s044,.mv (.t s004),(some (s043,true))⟩,15,false),(5,⟨some s045,.mv (.t s000),(some (s043,true))⟩,15,false),(6,⟨some s046,.mv (.t s014),(some (s043,true))⟩,15,false),(7,⟨some s047,.idxa 2 (.t s045) (.t s046),(some (s043,true))⟩,111,false),(8,⟨some s050,.ldn 2 (.t s047),(some (s043,true))⟩,239,false),(9,⟨some s051,.mv (.t s000),(some (s043,true))⟩,15,false),(10,⟨some s052,.mv (.t s001),(some (s043,true))⟩,15,false),(11,⟨some s053,.idxa 2 (.t s051) (.t s052),(some (s043,true))⟩,1551,false),(12,⟨some s054,.ldn 2 (.t s053),(some (s043,true))⟩,3599,false),(13,⟨some s055,.call (.t s044) [(.t s050),(.t s054)],(some (s043,true))⟩,8191,true),(14,⟨some s056,.bin .lss (.t s055) (.c (.i .i64 0)),(some (s043,true))⟩,16383,true),(15,⟨some s057,.pick (.t s043) (.t s056) (.c (.b false)),none⟩,32767,true)])
   (.cond (.t s057) (.skip)
   (.exit 0)))
   (.block 1 (.reg [⟨some s060,.mv (.t s014),none⟩,⟨some s061,.bin .add (.t s060) (.c (.i .i64 1)),none⟩,⟨some s014,.mv (.t s061),none⟩])))))
 (.seq (.block 2 (.loop (.seq (.seq (.dreg [(0,⟨some s062,.mv (.t s014),none⟩,0,true),(1,⟨some s063,.mv (.t s015),none⟩,0,true),(2,⟨some s064,.bin .leq (.t s062) (.t s063),none⟩,3,true),(3,⟨some s065,.mv (.t s064),none⟩,7,true),(4,⟨some s066,.mv (.t s004),(some (s065,true))⟩,15,false),(5,⟨some s067,.mv (.t s000),(some (s065,true))⟩,15,false),(6,⟨some s070,.mv (.t s015),(some (s065,true))⟩,15,false),(7,⟨some s071,.idxa 2 (.t s067) (.t s070),(some (s065,true))⟩,111,false),(8,⟨some s072,.ldn 2 (.t s071),(some (s065,true))⟩,239,false),(9,⟨some s073,.mv (.t s000),(some (s065,true))⟩,15,false),(10,⟨some s074,.mv (.t s001),(some (s065,true))⟩,15,false),(11,⟨some s075,.idxa 2 (.t s073) (.t s074),(some (s065,true))⟩,1551,false),(12,⟨some s076,.ldn 2 (.t s075),(some (s065,true))⟩,3599,false),(13,⟨some s077,.call (.t s066) [(.t s072),(.t s076)],(some (s065,true))⟩,8191,true),(14,⟨some s100,.bin .lss (.t s077) (.c (.i .i64 0)),(some (s065,true))⟩,16383,true),(15,⟨some s101,.un .not (.t s100),(some (s065,true))⟩,32767,true),(16,⟨some s102,.pick (.t s065) (.t s101) (.c (.b false)),none⟩,65535,true)])
   (.cond (.t s102) (.skip)
   (.exit 2)))
   (.block 3 (.reg [⟨some s103,.mv (.t s015),none⟩,⟨some s104,.bin .sub (.t s103) (.c (.i .i64 1)),none⟩,⟨some s015,.mv (.t s104),none⟩])))))
 (.seq (.seq (.reg [⟨some s105,.mv (.t s014),none⟩,⟨some s106,.mv (.t s015),none⟩,⟨some s107,.bin .gtr (.t s105) (.t s106),none⟩])
 (.cond (.t s107) (.seq (.dreg [(0,⟨some s110,.mv (.t s000),none⟩,0,false),(1,⟨some s111,.mv (.t s015),none⟩,0,false),(4,⟨some s114,.mv (.t s000),none⟩,0,false),(5,⟨some s115,.mv (.t s001),none⟩,0,false),(6,⟨some s116,.idxa 2 (.t s114) (.t s115),none⟩,48,false),(7,⟨some s117,.ldn 2 (.t s116),none⟩,112,false),(8,⟨some s120,.mv (.t s000),none⟩,0,false),(9,⟨some s121,.mv (.t s015),none⟩,0,false),(10,⟨some s122,.idxa 2 (.t s120) (.t s121),none⟩,768,false),(11,⟨some s123,.ldn 2 (.t s122),none⟩,1792,false),(12,⟨some s124,.idxa 2 (.t s110) (.t s111),none⟩,4083,true),(13,⟨none,.st 2 (.t s124) (.t s117),none⟩,8179,true),(2,⟨some s112,.mv (.t s000),none⟩,0,false),(3,⟨some s113,.mv (.t s001),none⟩,0,false),(14,⟨some s125,.idxa 2 (.t s112) (.t s113),none⟩,16383,true),(15,⟨none,.st 2 (.t s125) (.t s123),none⟩,32767,true)])
  (.seq (.reg [⟨some s126,.mv (.t s015),none⟩,⟨some s012,.mv (.t s126),none⟩,⟨some s013,.mv (.c (.b true)),none⟩])
  (.ret)))
 (.skip)))
 (.seq (.dreg [(0,⟨some s127,.mv (.t s000),none⟩,0,false),(1,⟨some s130,.mv (.t s014),none⟩,0,false),(4,⟨some s133,.mv (.t s000),none⟩,0,false),(5,⟨some s134,.mv (.t s015),none⟩,0,false),(6,⟨some s135,.idxa 2 (.t s133) (.t s134),none⟩,48,false),(7,⟨some s136,.ldn 2 (.t s135),none⟩,112,false),(8,⟨some s137,.mv (.t s000),none⟩,0,false),(9,⟨some s140,.mv (.t s014),none⟩,0,false),(10,⟨some s141,.idxa 2 (.t s137) (.t s140),none⟩,768,false),(11,⟨some s142,.ldn 2 (.t s141),none⟩,1792,false),(12,⟨some s143,.idxa 2 (.t s127) (.t s130),none⟩,4083,true),(13,⟨none,.st 2 (.t s143) (.t s136),none⟩,8179,true),(2,⟨some s131,.mv (.t s000),none⟩,0,false),(3,⟨some s132,.mv (.t s015),none⟩,0,false),(14,⟨some s144,.idxa 2 (.t s131) (.t s132),none⟩,16383,true),(15,⟨none,.st 2 (.t s144) (.t s142),none⟩,32767,true)])
 (.seq (.reg [⟨some s145,.mv (.t s014),none⟩,⟨some s146,.bin .add (.t s145) (.c (.i .i64 1)),none⟩,⟨some s014,.mv (.t s146),none⟩])
 (.seq (.reg [⟨some s147,.mv (.t s015),none⟩,⟨some s150,.bin .sub (.t s147) (.c (.i .i64 1)),none⟩,⟨some s015,.mv (.t s150),none⟩])
 (.seq (.block 4 (.loop (.block 5 (.seq (.block 6 (.loop (.seq (.seq (.dreg [(0,⟨some s151,.mv (.t s014),none⟩,0,true),(1,⟨some s152,.mv (.t s015),none⟩,0,true),(2,⟨some s153,.bin .leq (.t s151) (.t s152),none⟩,3,true),(3,⟨some s154,.mv (.t s153),none⟩,7,true),(4,⟨some s155,.mv (.t s004),(some (s154,true))⟩,15,false),(5,⟨some s156,.mv (.t s000),(some (s154,true))⟩,15,false),(6,⟨some s157,.mv (.t s014),(some (s154,true))⟩,15,false),(7,⟨some s160,.idxa 2 (.t s156) (.t s157),(some (s154,true))⟩,111,false),(8,⟨some s161,.ldn 2 (.t s160),(some (s154,true))⟩,239,false),(9,⟨some s162,.mv (.t s000),(some (s154,true))⟩,15,false),(10,⟨some s163,.mv (.t s001),(some (s154,true))⟩,15,false),(11,⟨some s164,.idxa 2 (.t s162) (.t s163),(some (s154,true))⟩,1551,false),(12,⟨some s165,.ldn 2 (.t s164),(some (s154,true))⟩,3599,false),(13,⟨some s166,.call (.t s155) [(.t s161),(.t s165)],(some (s154,true))⟩,8191,true),(14,⟨some s167,.bin .lss (.t s166) (.c (.i .i64 0)),(some (s154,true))⟩,16383,true),(15,⟨some s170,.pick (.t s154) (.t s167) (.c (.b false)),none⟩,32767,true)])
      (.cond (.t s170) (.skip)
      (.exit 6)))
      (.block 7 (.reg [⟨some s171,.mv (.t s014),none⟩,⟨some s172,.bin .add (.t s171) (.c (.i .i64 1)),none⟩,⟨some s014,.mv (.t s172),none⟩])))))
    (.seq (.block 8 (.loop (.seq (.seq (.dreg [(0,⟨some s173,.mv (.t s014),none⟩,0,true),(1,⟨some s174,.mv (.t s015),none⟩,0,true),(2,⟨some s175,.bin .leq (.t s173) (.t s174),none⟩,3,true),(3,⟨some s176,.mv (.t s175),none⟩,7,true),(4,⟨some s177,.mv (.t s004),(some (s176,true))⟩,15,false),(5,⟨some s200,.mv (.t s000),(some (s176,true))⟩,15,false),(6,⟨some s201,.mv (.t s015),(some (s176,true))⟩,15,false),(7,⟨some s202,.idxa 2 (.t s200) (.t s201),(some (s176,true))⟩,111,false),(8,⟨some s203,.ldn 2 (.t s202),(some (s176,true))⟩,239,false),(9,⟨some s204,.mv (.t s000),(some (s176,true))⟩,15,false),(10,⟨some s205,.mv (.t s001),(some (s176,true))⟩,15,false),(11,⟨some s206,.idxa 2 (.t s204) (.t s205),(some (s176,true))⟩,1551,false),(12,⟨some s207,.ldn 2 (.t s206),(some (s176,true))⟩,3599,false),(13,⟨some s210,.call (.t s177) [(.t s203),(.t s207)],(some (s176,true))⟩,8191,true),(14,⟨some s211,.bin .lss (.t s210) (.c (.i .i64 0)),(some (s176,true))⟩,16383,true),(15,⟨some s212,.un .not (.t s211),(some (s176,true))⟩,32767,true),(16,⟨some s213,.pick (.t s176) (.t s212) (.c (.b false)),none⟩,65535,true)])
      (.cond (.t s213) (.skip)
      (.exit 8)))
      (.block 9 (.reg [⟨some s214,.mv (.t s015),none⟩,⟨some s215,.bin .sub (.t s214) (.c (.i .i64 1)),none⟩,⟨some s015,.mv (.t s215),none⟩])))))
    (.seq (.seq (.reg [⟨some s216,.mv (.t s014),none⟩,⟨some s217,.mv (.t s015),none⟩,⟨some s220,.bin .gtr (.t s216) (.t s217),none⟩])
    (.cond (.t s220) (.exit 4)
    (.skip)))
    (.seq (.dreg [(0,⟨some s221,.mv (.t s000),none⟩,0,false),(1,⟨some s222,.mv (.t s014),none⟩,0,false),(4,⟨some s225,.mv (.t s000),none⟩,0,false),(5,⟨some s226,.mv (.t s015),none⟩,0,false),(6,⟨some s227,.idxa 2 (.t s225) (.t s226),none⟩,48,false),(7,⟨some s230,.ldn 2 (.t s227),none⟩,112,false),(8,⟨some s231,.mv (.t s000),none⟩,0,false),(9,⟨some s232,.mv (.t s014),none⟩,0,false),(10,⟨some s233,.idxa 2 (.t s231) (.t s232),none⟩,768,false),(11,⟨some s234,.ldn 2 (.t s233),none⟩,1792,false),(12,⟨some s235,.idxa 2 (.t s221) (.t s222),none⟩,4083,true),(13,⟨none,.st 2 (.t s235) (.t s230),none⟩,8179,true),(2,⟨some s223,.mv (.t s000),none⟩,0,false),(3,⟨some s224,.mv (.t s015),none⟩,0,false),(14,⟨some s236,.idxa 2 (.t s223) (.t s224),none⟩,16383,true),(15,⟨none,.st 2 (.t s236) (.t s234),none⟩,32767,true)])
    (.seq (.reg [⟨some s237,.mv (.t s014),none⟩,⟨some s240,.bin .add (.t s237) (.c (.i .i64 1)),none⟩,⟨some s014,.mv (.t s240),none⟩])
    (.reg [⟨some s241,.mv (.t s015),none⟩,⟨some s242,.bin .sub (.t s241) (.c (.i .i64 1)),none⟩,⟨some s015,.mv (.t s242),none⟩])))))))))
 (.seq (.dreg [(0,⟨some s243,.mv (.t s000),none⟩,0,false),(1,⟨some s244,.mv (.t s015),none⟩,0,false),(4,⟨some s247,.mv (.t s000),none⟩,0,false),(5,⟨some s250,.mv (.t s001),none⟩,0,false),(6,⟨some s251,.idxa 2 (.t s247) (.t s250),none⟩,48,false),(7,⟨some s252,.ldn 2 (.t s251),none⟩,112,false),(8,⟨some s253,.mv (.t s000),none⟩,0,false),(9,⟨some s254,.mv (.t s015),none⟩,0,false),(10,⟨some s255,.idxa 2 (.t s253) (.t s254),none⟩,768,false),(11,⟨some s256,.ldn 2 (.t s255),none⟩,1792,false),(12,⟨some s257,.idxa 2 (.t s243) (.t s244),none⟩,4083,true),(13,⟨none,.st 2 (.t s257) (.t s252),none⟩,8179,true),(2,⟨some s245,.mv (.t s000),none⟩,0,false),(3,⟨some s246,.mv (.t s001),none⟩,0,false),(14,⟨some s260,.idxa 2 (.t s245) (.t s246),none⟩,16383,true),(15,⟨none,.st 2 (.t s260) (.t s256),none⟩,32767,true)])
 (.seq (.reg [⟨some s261,.mv (.t s015),none⟩,⟨some s012,.mv (.t s261),none⟩,⟨some s013,.mv (.c (.b false)),none⟩])
 (.ret)))))))))))))⟩
/-- math/bits.Len32 -/
def g83 : AFunc := ⟨1,[.t s002],
 (.seq (.reg [⟨some s002,.mv (.c (.i .i64 0)),none⟩])
 (.seq (.seq (.reg [⟨some s003,.mv (.t s000),none⟩,⟨some s004,.bin .geq (.t s003) (.c (.i .u32 65536)),none⟩])
 (.cond (.t s004) (.seq (.reg [⟨some s005,.mv (.t s000),none⟩,⟨some s006,.bin .shr (.t s005) (.c (.i .u64 16)),none⟩,⟨some s000,.mv (.t s006),none⟩])
  (.reg [⟨some s002,.mv (.c (.i .i64 16)),none⟩]))
 (.skip)))
 (.seq (.seq (.reg [⟨some s007,.mv (.t s000),none⟩,⟨some s010,.bin .geq (.t s007) (.c (.i .u32 256)),none⟩])
 (.cond (.t s010) (.seq (.reg [⟨some s011,.mv (.t s000),none⟩,⟨some s012,.bin .shr (.t s011) (.c (.i .u64 8)),none⟩,⟨some s000,.mv (.t s012),none⟩])
  (.reg [⟨some s013,.mv (.t s002),none⟩,⟨some s014,.bin .add (.t s013) (.c (.i .i64 8)),none⟩,⟨some s002,.mv (.t s014),none⟩]))
 (.skip)))
 (.seq (.reg [⟨some s015,.mv (.t s002),none⟩,⟨some s016,.mv (.t s000),none⟩,⟨some s017,.conv .u8 (.t s016),none⟩,⟨some s020,.idxs (.c (.str [0,1,2,2,3,3,3,3,4,4,4,4,4,4,4,4,5,5,5,5,5,5,5,5,5,5,5,5,5,5,5,5,6,6,6,6,6,6,6,6,6,6,6,6,6,6,6,6,6,6,6,6,6,6,6,6,6,6,6,6,6,6,6,6,7,7,7,7,7,7,7,7,7,7,7,7,7,7,7,7,7,7,7,7,7,7,7,7,7,7,7,7,7,7,7,7,7,7,7,7,7,7,7,7,7,7,7,7,7,7,7,7,7,7,7,7,7,7,7,7,7,7,7,7,7,7,7,7,8,8,8,8,8,8,8,8,8,8,8,8,8,8,8,8,8,8,8,8,8,8,8,8,8,8,8,8,8,8,8,8,8,8,8,8,8,8,8,8,8,8,8,8,8,8,8,8,8,8,8,8,8,8,8,8,8,8,8,8,8,8,8,8,8,8,8,8,8,8,8,8,8,8,8,8,8,8,8,8,8,8,8,8,8,8,8,8,8,8,8,8,8,8,8,8,8,8,8,8,8,8,8,8,8,8,8,8,8,8,8,8,8,8,8,8,8,8,8,8,8,8,8,8,8,8,8,8])) (.t s017),none⟩,⟨some s021,.conv .i64 (.t s020),none⟩,⟨some s022,.bin .add (.t s015) (.t s021),none⟩,⟨some s002,.mv (.t s022),none⟩])
 (.ret)))))⟩
/-- math/bits.Len64 -/
def g84 : AFunc := ⟨1,[.t s002],
 (.seq (.reg [⟨some s002,.mv (.c (.i .i64 0)),none⟩])
 (.seq (.seq (.reg [⟨some s003,.mv (.t s000),none⟩,⟨some s004,.bin .geq (.t s003) (.c (.i .u64 4294967296)),none⟩])
 (.cond (.t s004) (.seq (.reg [⟨some s005,.mv (.t s000),none⟩,⟨some s006,.bin .shr (.t s005) (.c (.i .u64 32)),none⟩,⟨some s000,.mv (.t s006),none⟩])
  (.reg [⟨some s002,.mv (.c (.i .i64 32)),none⟩]))
 (.skip)))
 (.seq (.seq (.reg [⟨some s007,.mv (.t s000),none⟩,⟨some s010,.bin .geq (.t s007) (.c (.i .u64 65536)),none⟩])
 (.cond (.t s010) (.seq (.reg [⟨some s011,.mv (.t s000),none⟩,⟨some s012,.bin .shr (.t s011) (.c (.i .u64 16)),none⟩,⟨some s000,.mv (.t s012),none⟩])
  (.reg [⟨some s013,.mv (.t s002),none⟩,⟨some s014,.bin .add (.t s013) (.c (.i .i64 16)),none⟩,⟨some s002,.mv (.t s014),none⟩]))
 (.skip)))
 (.seq (.seq (.reg [⟨some s015,.mv (.t s000),none⟩,⟨some s016,.bin .geq (.t s015) (.c (.i .u64 256)),none⟩])
 (.cond (.t s016) (.seq (.reg [⟨some s017,.mv (.t s000),none⟩,⟨some s020,.bin .shr (.t s017) (.c (.i .u64 8)),none⟩,⟨some s000,.mv (.t s020),none⟩])
  (.reg [⟨some s021,.mv (.t s002),none⟩,⟨some s022,.bin .add (.t s021) (.c (.i .i64 8)),none⟩,⟨some s002,.mv (.t s022),none⟩]))
 (.skip)))
 (.seq (.reg [⟨some s023,.mv (.t s002),none⟩,⟨some s024,.mv (.t s000),none⟩,⟨some s025,.conv .u8 (.t s024),none⟩,⟨some s026,.idxs (.c (.str [0,1,2,2,3,3,3,3,4,4,4,4,4,4,4,4,5,5,5,5,5,5,5,5,5,5,5,5,5,5,5,5,6,6,6,6,6,6,6,6,6,6,6,6,6,6,6,6,6,6,6,6,6,6,6,6,6,6,6,6,6,6,6,6,7,7,7,7,7,7,7,7,7,7,7,7,7,7,7,7,7,7,7,7,7,7,7,7,7,7,7,7,7,7,7,7,7,7,7,7,7,7,7,7,7,7,7,7,7,7,7,7,7,7,7,7,7,7,7,7,7,7,7,7,7,7,7,7,8,8,8,8,8,8,8,8,8,8,8,8,8,8,8,8,8,8,8,8,8,8,8,8,8,8,8,8,8,8,8,8,8,8,8,8,8,8,8,8,8,8,8,8,8,8,8,8,8,8,8,8,8,8,8,8,8,8,8,8,8,8,8,8,8,8,8,8,8,8,8,8,8,8,8,8,8,8,8,8,8,8,8,8,8,8,8,8,8,8,8,8,8,8,8,8,8,8,8,8,8,8,8,8,8,8,8,8,8,8,8,8,8,8,8,8,8,8,8,8,8,8,8,8,8,8,8,8])) (.t s025),none⟩,⟨some s027,.conv .i64 (.t s026),none⟩,⟨some s030,.bin .add (.t s023) (.t s027),none⟩,⟨some s002,.mv (.t s030),none⟩])
 (.ret))))))⟩
/-- cmp.isNaN[int] -/
def g85 : AFunc := ⟨1,[.t s002],
 (.seq (.reg [⟨some s002,.mv (.c (.b false)),none⟩])
 (.seq (.reg [⟨some s003,.mv (.t s000),none⟩,⟨some s004,.mv (.t s000),none⟩,⟨some s005,.eq .int true (.t s003) (.t s004),none⟩,⟨some s002,.mv (.t s005),none⟩])
 (.ret)))⟩
/-- slices.IndexFunc[[]int,int] -/
def g86 : AFunc := ⟨2,[.t s004],
 (.seq (.reg [⟨some s004,.mv (.c (.i .i64 0)),none⟩])
 (.seq (.seq (.reg [⟨some s006,.mv (.t s000),none⟩,⟨some s007,.len (.t s006),none⟩,⟨some s010,.mv (.c (.i .i64 0)),none⟩])
 (.block 0 (.loop (.seq (.reg [⟨some s011,.bin .lss (.t s010) (.t s007),none⟩])
   (.seq (.cond (.t s011) (.skip)
   (.exit 0))
   (.seq (.block 1 (.seq (.reg [⟨some s012,.mv (.t s010),none⟩,⟨some s005,.mv (.t s012),none⟩])
    (.seq (.reg [⟨some s013,.mv (.t s001),none⟩,⟨some s014,.mv (.t s000),none⟩,⟨some s015,.mv (.t s005),none⟩,⟨some s016,.idxa 1 (.t s014) (.t s015),none⟩,⟨some s017,.ld (.t s016),none⟩,⟨some s020,.call (.t s013) [(.t s017)],none⟩])
    (.cond (.t s020) (.seq (.reg [⟨some s021,.mv (.t s005),none⟩,⟨some s004,.mv (.t s021),none⟩])
     (.ret))
    (.skip)))))
   (.reg [⟨some s022,.bin .add (.t s010) (.c (.i .i64 1)),none⟩,⟨some s010,.mv (.t s022),none⟩])))))))
 (.seq (.reg [⟨some s004,.mv (.c (.i .i64 (-1))),none⟩])
 (.ret))))⟩
/-- slices.Sort[[]int,int] -/
def g87 : AFunc := ⟨1,[],
 (.seq (.reg [⟨some s003,.mv (.t s000),none⟩,⟨some s004,.len (.t s003),none⟩,⟨some s002,.mv (.t s004),none⟩])
 (.reg [⟨some s005,.mv (.t s000),none⟩,⟨some s006,.mv (.t s002),none⟩,⟨some s007,.mv (.t s002),none⟩,⟨some s010,.conv .u64 (.t s007),none⟩,⟨some s011,.call (.c (.fn 62 [])) [(.t s010)],none⟩,⟨some s012,.call (.c (.fn 95 [])) [(.t s005),(.c (.i .i64 0)),(.t s006),(.t s011)],none⟩]))⟩
/-- slices.pdqsortCmpFunc[[][2]int] -/
def g88 : AFunc := ⟨5,[],
 (.seq (.reg [⟨some s012,.mv (.c (.b true)),none⟩])
 (.seq (.reg [⟨some s013,.mv (.c (.b true)),none⟩])
 (.block 0 (.loop (.block 1 (.seq (.reg [⟨some s025,.mv (.t s002),none⟩,⟨some s026,.mv (.t s001),none⟩,⟨some s027,.bin .sub (.t s025) (.t s026),none⟩,⟨some s014,.mv (.t s027),none⟩])
    (.seq (.seq (.reg [⟨some s030,.mv (.t s014),none⟩,⟨some s031,.bin .leq (.t s030) (.c (.i .i64 12)),none⟩])
    (.cond (.t s031) (.seq (.reg [⟨some s032,.mv (.t s000),none⟩,⟨some s033,.mv (.t s001),none⟩,⟨some s034,.mv (.t s002),none⟩,⟨some s035,.mv (.t s004),none⟩,⟨some s036,.call (.c (.fn 96 [])) [(.t s032),(.t s033),(.t s034),(.t s035)],none⟩])
     (.ret))
    (.skip)))
    (.seq (.seq (.reg [⟨some s037,.mv (.t s003),none⟩,⟨some s040,.eq .int false (.t s037) (.c (.i .i64 0)),none⟩])
    (.cond (.t s040) (.seq (.reg [⟨some s041,.mv (.t s000),none⟩,⟨some s042,.mv (.t s001),none⟩,⟨some s043,.mv (.t s002),none⟩,⟨some s044,.mv (.t s004),none⟩,⟨some s045,.call (.c (.fn 97 [])) [(.t s041),(.t s042),(.t s043),(.t s044)],none⟩])
     (.ret))
    (.skip)))
    (.seq (.seq (.reg [⟨some s046,.mv (.t s012),none⟩,⟨some s047,.un .not (.t s046),none⟩])
    (.cond (.t s047) (.seq (.reg [⟨some s050,.mv (.t s000),none⟩,⟨some s051,.mv (.t s001),none⟩,⟨some s052,.mv (.t s002),none⟩,⟨some s053,.mv (.t s004),none⟩,⟨some s054,.call (.c (.fn 98 [])) [(.t s050),(.t s051),(.t s052),(.t s053)],none⟩])
     (.reg [⟨some s055,.mv (.t s003),none⟩,⟨some s056,.bin .sub (.t s055) (.c (.i .i64 1)),none⟩,⟨some s003,.mv (.t s056),none⟩]))
    (.skip)))
    (.seq (.reg [⟨some s060,.mv (.t s000),none⟩,⟨some s061,.mv (.t s001),none⟩,⟨some s062,.mv (.t s002),none⟩,⟨some s063,.mv (.t s004),none⟩,⟨some s064,.call (.c (.fn 99 [])) [(.t s060),(.t s061),(.t s062),(.t s063)],none⟩,⟨some s057,.mv (.t s064),none⟩,⟨some s065,.ext (.t s057) 0,none⟩,⟨some s066,.ext (.t s057) 1,none⟩,⟨some s015,.mv (.t s065),none⟩,⟨some s016,.mv (.t s066),none⟩])
    (.seq (.seq (.reg [⟨some s067,.mv (.t s016),none⟩,⟨some s070,.eq .int false (.t s067) (.c (.i .i64 2)),none⟩])
    (.cond (.t s070) (.seq (.reg [⟨some s071,.mv (.t s000),none⟩,⟨some s072,.mv (.t s001),none⟩,⟨some s073,.mv (.t s002),none⟩,⟨some s074,.mv (.t s004),none⟩,⟨some s075,.call (.c (.fn 100 [])) [(.t s071),(.t s072),(.t s073),(.t s074)],none⟩])
     (.seq (.reg [⟨some s076,.mv (.t s002),none⟩,⟨some s077,.bin .sub (.t s076) (.c (.i .i64 1)),none⟩,⟨some s100,.mv (.t s015),none⟩,⟨some s101,.mv (.t s001),none⟩,⟨some s102,.bin .sub (.t s100) (.t s101),none⟩,⟨some s103,.bin .sub (.t s077) (.t s102),none⟩,⟨some s015,.mv (.t s103),none⟩])
     (.reg [⟨some s016,.mv (.c (.i .i64 1)),none⟩])))
    (.skip)))
    (.seq (.seq (.reg [⟨some s104,.mv (.t s012),none⟩,⟨some s105,.mv (.t s104),none⟩,⟨some s106,.mv (.t s013),(some (s105,true))⟩,⟨some s107,.pick (.t s105) (.t s106) (.c (.b false)),none⟩,⟨some s110,.mv (.t s107),none⟩,⟨some s111,.mv (.t s016),(some (s110,true))⟩,⟨some s112,.eq .int false (.t s111) (.c (.i .i64 1)),(some (s110,true))⟩,⟨some s113,.pick (.t s110) (.t s112) (.c (.b false)),none⟩])
    (.cond (.t s113) (.seq (.reg [⟨some s114,.mv (.t s000),none⟩,⟨some s115,.mv (.t s001),none⟩,⟨some s116,.mv (.t s002),none⟩,⟨some s117,.mv (.t s004),none⟩,⟨some s120,.call (.c (.fn 101 [])) [(.t s114),(.t s115),(.t s116),(.t s117)],none⟩])
     (.cond (.t s120) (.ret)
     (.skip)))
    (.skip)))
    (.seq (.seq (.dreg [(0,⟨some s121,.mv (.t s001),none⟩,0,true),(1,⟨some s122,.bin .gtr (.t s121) (.c (.i .i64 0)),none⟩,1,true),(2,⟨some s123,.mv (.t s122),none⟩,3,true),(3,⟨some s124,.mv (.t s004),(some (s123,true))⟩,7,false),(4,⟨some s125,.mv (.t s000),(some (s123,true))⟩,7,false),(5,⟨some s126,.mv (.t s001),(some (s123,true))⟩,7,false),(6,⟨some s127,.bin .sub (.t s126) (.c (.i .i64 1)),(some (s123,true))⟩,39,false),(7,⟨some s130,.idxa 1 (.t s125) (.t s127),(some (s123,true))⟩,119,false),(8,⟨some s131,.ld (.t s130),(some (s123,true))⟩,247,false),(9,⟨some s132,.mv (.t s000),(some (s123,true))⟩,7,false),(10,⟨some s133,.mv (.t s015),(some (s123,true))⟩,7,false),(11,⟨some s134,.idxa 1 (.t s132) (.t s133),(some (s123,true))⟩,1543,false),(12,⟨some s135,.ld (.t s134),(some (s123,true))⟩,3591,false),(13,⟨some s136,.call (.t s124) [(.t s131),(.t s135)],(some (s123,true))⟩,8191,true),(14,⟨some s137,.bin .lss (.t s136) (.c (.i .i64 0)),(some (s123,true))⟩,16383,true),(15,⟨some s140,.un .not (.t s137),(some (s123,true))⟩,32767,true),(16,⟨some s141,.pick (.t s123) (.t s140) (.c (.b false)),none⟩,65535,true)])
    (.cond (.t s141) (.seq (.reg [⟨some s142,.mv (.t s000),none⟩,⟨some s143,.mv (.t s001),none⟩,⟨some s144,.mv (.t s002),none⟩,⟨some s145,.mv (.t s015),none⟩,⟨some s146,.mv (.t s004),none⟩,⟨some s147,.call (.c (.fn 102 [])) [(.t s142),(.t s143),(.t s144),(.t s145),(.t s146)],none⟩,⟨some s017,.mv (.t s147),none⟩])
     (.seq (.reg [⟨some s150,.mv (.t s017),none⟩,⟨some s001,.mv (.t s150),none⟩])
     (.exit 1)))
    (.skip)))
    (.seq (.reg [⟨some s152,.mv (.t s000),none⟩,⟨some s153,.mv (.t s001),none⟩,⟨some s154,.mv (.t s002),none⟩,⟨some s155,.mv (.t s015),none⟩,⟨some s156,.mv (.t s004),none⟩,⟨some s157,.call (.c (.fn 103 [])) [(.t s152),(.t s153),(.t s154),(.t s155),(.t s156)],none⟩,⟨some s151,.mv (.t s157),none⟩,⟨some s160,.ext (.t s151) 0,none⟩,⟨some s161,.ext (.t s151) 1,none⟩,⟨some s020,.mv (.t s160),none⟩,⟨some s021,.mv (.t s161),none⟩])
    (.seq (.reg [⟨some s162,.mv (.t s021),none⟩,⟨some s013,.mv (.t s162),none⟩])
    (.seq (.reg [⟨some s163,.mv (.t s020),none⟩,⟨some s164,.mv (.t s001),none⟩,⟨some s165,.bin .sub (.t s163) (.t s164),none⟩,⟨some s166,.mv (.t s002),none⟩,⟨some s167,.mv (.t s020),none⟩,⟨some s170,.bin .sub (.t s166) (.t s167),none⟩,⟨some s022,.mv (.t s165),none⟩,⟨some s023,.mv (.t s170),none⟩])
    (.seq (.reg [⟨some s171,.mv (.t s014),none⟩,⟨some s172,.bin .quo (.t s171) (.c (.i .i64 8)),none⟩,⟨some s024,.mv (.t s172),none⟩])
    (.seq (.reg [⟨some s173,.mv (.t s022),none⟩,⟨some s174,.mv (.t s023),none⟩,⟨some s175,.bin .lss (.t s173) (.t s174),none⟩])
    (.cond (.t s175) (.seq (.reg [⟨some s176,.mv (.t s022),none⟩,⟨some s177,.mv (.t s024),none⟩,⟨some s200,.bin .geq (.t s176) (.t s177),none⟩,⟨some s012,.mv (.t s200),none⟩])
     (.seq (.reg [⟨some s201,.mv (.t s000),none⟩,⟨some s202,.mv (.t s001),none⟩,⟨some s203,.mv (.t s020),none⟩,⟨some s204,.mv (.t s003),none⟩,⟨some s205,.mv (.t s004),none⟩,⟨some s206,.call (.c (.fn 88 [])) [(.t s201),(.t s202),(.t s203),(.t s204),(.t s205)],none⟩])
     (.reg [⟨some s207,.mv (.t s020),none⟩,⟨some s210,.bin .add (.t s207) (.c (.i .i64 1)),none⟩,⟨some s001,.mv (.t s210),none⟩])))
    (.seq (.reg [⟨some s211,.mv (.t s023),none⟩,⟨some s212,.mv (.t s024),none⟩,⟨some s213,.bin .geq (.t s211) (.t s212),none⟩,⟨some s012,.mv (.t s213),none⟩])
     (.seq (.reg [⟨some s214,.mv (.t s000),none⟩,⟨some s215,.mv (.t s020),none⟩,⟨some s216,.bin .add (.t s215) (.c (.i .i64 1)),none⟩,⟨some s217,.mv (.t s002),none⟩,⟨some s220,.mv (.t s003),none⟩,⟨some s221,.mv (.t s004),none⟩,⟨some s222,.call (.c (.fn 88 [])) [(.t s214),(.t s216),(.t s217),(.t s220),(.t s221)],none⟩])
     (.reg [⟨some s223,.mv (.t s020),none⟩,⟨some s002,.mv (.t s223),none⟩]))))))))))))))))))))))⟩
/-- slices.Index[[]bool,bool] -/
def g89 : AFunc := ⟨2,[.t s004],
 (.seq (.reg [⟨some s004,.mv (.c (.i .i64 0)),none⟩])
 (.seq (.seq (.reg [⟨some s006,.mv (.t s000),none⟩,⟨some s007,.len (.t s006),none⟩,⟨some s010,.mv (.c (.i .i64 0)),none⟩])
 (.block 0 (.loop (.seq (.reg [⟨some s011,.bin .lss (.t s010) (.t s007),none⟩])
   (.seq (.cond (.t s011) (.skip)
   (.exit 0))
   (.seq (.block 1 (.seq (.reg [⟨some s012,.mv (.t s010),none⟩,⟨some s005,.mv (.t s012),none⟩])
    (.seq (.reg [⟨some s013,.mv (.t s001),none⟩,⟨some s014,.mv (.t s000),none⟩,⟨some s015,.mv (.t s005),none⟩,⟨some s016,.idxa 1 (.t s014) (.t s015),none⟩,⟨some s017,.ld (.t s016),none⟩,⟨some s020,.eq .bool false (.t s013) (.t s017),none⟩])
    (.cond (.t s020) (.seq (.reg [⟨some s021,.mv (.t s005),none⟩,⟨some s004,.mv (.t s021),none⟩])
     (.ret))
    (.skip)))))
   (.reg [⟨some s022,.bin .add (.t s010) (.c (.i .i64 1)),none⟩,⟨some s010,.mv (.t s022),none⟩])))))))
 (.seq (.reg [⟨some s004,.mv (.c (.i .i64 (-1))),none⟩])
 (.ret))))⟩
/-- slices.siftDownCmpFunc[[2]int] -/
def g90 : AFunc := ⟨5,[],
 (.seq (.reg [⟨some s014,.mv (.t s001),none⟩,⟨some s012,.mv (.t s014),none⟩])
 (.block 0 (.loop (.block 1 (.seq (.reg [⟨some s015,.mv (.t s012),none⟩,⟨some s016,.bin .mul (.c (.i .i64 2)) (.t s015),none⟩,⟨some s017,.bin .add (.t s016) (.c (.i .i64 1)),none⟩,⟨some s013,.mv (.t s017),none⟩])
    (.seq (.seq (.reg [⟨some s020,.mv (.t s013),none⟩,⟨some s021,.mv (.t s002),none⟩,⟨some s022,.bin .geq (.t s020) (.t s021),none⟩])
    (.cond (.t s022) (.exit 0)
    (.skip)))
    (.seq (.seq (.dreg [(0,⟨some s023,.mv (.t s013),none⟩,0,true),(1,⟨some s024,.bin .add (.t s023) (.c (.i .i64 1)),none⟩,1,true),(2,⟨some s025,.mv (.t s002),none⟩,0,true),(3,⟨some s026,.bin .lss (.t s024) (.t s025),none⟩,7,true),(4,⟨some s027,.mv (.t s026),none⟩,15,true),(5,⟨some s030,.mv (.t s004),(some (s027,true))⟩,31,false),(6,⟨some s031,.mv (.t s000),(some (s027,true))⟩,31,false),(7,⟨some s032,.mv (.t s003),(some (s027,true))⟩,31,false),(8,⟨some s033,.mv (.t s013),(some (s027,true))⟩,31,false),(9,⟨some s034,.bin .add (.t s032) (.t s033),(some (s027,true))⟩,415,false),(10,⟨some s035,.idxa 2 (.t s031) (.t s034),(some (s027,true))⟩,991,false),(11,⟨some s036,.ldn 2 (.t s035),(some (s027,true))⟩,2015,false),(12,⟨some s037,.mv (.t s000),(some (s027,true))⟩,31,false),(13,⟨some s040,.mv (.t s003),(some (s027,true))⟩,31,false),(14,⟨some s041,.mv (.t s013),(some (s027,true))⟩,31,false),(15,⟨some s042,.bin .add (.t s040) (.t s041),(some (s027,true))⟩,24607,false),(16,⟨some s043,.bin .add (.t s042) (.c (.i .i64 1)),(some (s027,true))⟩,57375,false),(17,⟨some s044,.idxa 2 (.t s037) (.t s043),(some (s027,true))⟩,127007,false),(18,⟨some s045,.ldn 2 (.t s044),(some (s027,true))⟩,258079,false),(19,⟨some s046,.call (.t s030) [(.t s036),(.t s045)],(some (s027,true))⟩,524287,true),(20,⟨some s047,.bin .lss (.t s046) (.c (.i .i64 0)),(some (s027,true))⟩,1048575,true),(21,⟨some s050,.pick (.t s027) (.t s047) (.c (.b false)),none⟩,2097151,true)])
    (.cond (.t s050) (.reg [⟨some s051,.mv (.t s013),none⟩,⟨some s052,.bin .add (.t s051) (.c (.i .i64 1)),none⟩,⟨some s013,.mv (.t s052),none⟩])
    (.skip)))
    (.seq (.seq (.dreg [(0,⟨some s053,.mv (.t s004),none⟩,0,false),(1,⟨some s054,.mv (.t s000),none⟩,0,false),(2,⟨some s055,.mv (.t s003),none⟩,0,false),(3,⟨some s056,.mv (.t s012),none⟩,0,false),(4,⟨some s057,.bin .add (.t s055) (.t s056),none⟩,12,false),(5,⟨some s060,.idxa 2 (.t s054) (.t s057),none⟩,30,false),(6,⟨some s061,.ldn 2 (.t s060),none⟩,62,false),(7,⟨some s062,.mv (.t s000),none⟩,0,false),(8,⟨some s063,.mv (.t s003),none⟩,0,false),(9,⟨some s064,.mv (.t s013),none⟩,0,false),(10,⟨some s065,.bin .add (.t s063) (.t s064),none⟩,768,false),(11,⟨some s066,.idxa 2 (.t s062) (.t s065),none⟩,1920,false),(12,⟨some s067,.ldn 2 (.t s066),none⟩,3968,false),(13,⟨some s070,.call (.t s053) [(.t s061),(.t s067)],none⟩,8191,true),(14,⟨some s071,.bin .lss (.t s070) (.c (.i .i64 0)),none⟩,16383,true),(15,⟨some s072,.un .not (.t s071),none⟩,32767,true)])
    (.cond (.t s072) (.ret)
    (.skip)))
    (.seq (.dreg [(0,⟨some s073,.mv (.t s000),none⟩,0,false),(1,⟨some s074,.mv (.t s003),none⟩,0,false),(2,⟨some s075,.mv (.t s012),none⟩,0,false),(3,⟨some s076,.bin .add (.t s074) (.t s075),none⟩,6,false),(8,⟨some s103,.mv (.t s000),none⟩,0,false),(9,⟨some s104,.mv (.t s003),none⟩,0,false),(10,⟨some s105,.mv (.t s013),none⟩,0,false),(11,⟨some s106,.bin .add (.t s104) (.t s105),none⟩,1536,false),(12,⟨some s107,.idxa 2 (.t s103) (.t s106),none⟩,3840,false),(13,⟨some s110,.ldn 2 (.t s107),none⟩,7936,false),(14,⟨some s111,.mv (.t s000),none⟩,0,false),(15,⟨some s112,.mv (.t s003),none⟩,0,false),(16,⟨some s113,.mv (.t s012),none⟩,0,false),(17,⟨some s114,.bin .add (.t s112) (.t s113),none⟩,98304,false),(18,⟨some s115,.idxa 2 (.t s111) (.t s114),none⟩,245760,false),(19,⟨some s116,.ldn 2 (.t s115),none⟩,507904,false),(20,⟨some s117,.idxa 2 (.t s073) (.t s076),none⟩,1048335,true),(21,⟨none,.st 2 (.t s117) (.t s110),none⟩,2096911,true),(4,⟨some s077,.mv (.t s000),none⟩,0,false),(5,⟨some s100,.mv (.t s003),none⟩,0,false),(6,⟨some s101,.mv (.t s013),none⟩,0,false),(7,⟨some s102,.bin .add (.t s100) (.t s101),none⟩,96,false),(22,⟨some s120,.idxa 2 (.t s077) (.t s102),none⟩,4194303,true),(23,⟨none,.st 2 (.t s120) (.t s116),none⟩,8388607,true)])
    (.reg [⟨some s121,.mv (.t s013),none⟩,⟨some s012,.mv (.t s121),none⟩]))))))))))⟩
/-- slices.nextPowerOfTwo -/
def g91 : AFunc := ⟨1,[.t s002],
 (.seq (.reg [⟨some s002,.mv (.c (.i .u64 0)),none⟩])
 (.seq (.reg [⟨some s003,.mv (.t s000),none⟩,⟨some s004,.conv .u64 (.t s003),none⟩,⟨some s005,.call (.c (.fn 62 [])) [(.t s004)],none⟩,⟨some s006,.bin .shl (.c (.i .u64 1)) (.t s005),none⟩,⟨some s002,.mv (.t s006),none⟩])
 (.ret)))⟩
/-- (*slices.xorshift).Next -/
def g92 : AFunc := ⟨1,[.t s002],
 (.seq (.reg [⟨some s002,.mv (.c (.i .u64 0)),none⟩])
 (.seq (.dreg [(0,⟨some s003,.mv (.t s000),none⟩,0,false),(1,⟨some s004,.nilck (.t s003),none⟩,1,false),(2,⟨some s005,.ld (.t s004),none⟩,3,false),(3,⟨some s006,.mv (.t s000),none⟩,0,false),(4,⟨some s007,.nilck (.t s006),none⟩,8,false),(5,⟨some s010,.ld (.t s007),none⟩,24,false),(6,⟨some s011,.bin .shl (.t s010) (.c (.i .u64 13)),none⟩,56,false),(7,⟨some s012,.bin .xor (.t s005) (.t s011),none⟩,127,true),(8,⟨some s013,.nilck (.t s003),none⟩,255,true),(9,⟨none,.st 1 (.t s013) (.t s012),none⟩,511,true)])
 (.seq (.dreg [(0,⟨some s014,.mv (.t s000),none⟩,0,false),(1,⟨some s015,.nilck (.t s014),none⟩,1,false),(2,⟨some s016,.ld (.t s015),none⟩,3,false),(3,⟨some s017,.mv (.t s000),none⟩,0,false),(4,⟨some s020,.nilck (.t s017),none⟩,8,false),(5,⟨some s021,.ld (.t s020),none⟩,24,false),(6,⟨some s022,.bin .shr (.t s021) (.c (.i .u64 7)),none⟩,56,false),(7,⟨some s023,.bin .xor (.t s016) (.t s022),none⟩,127,true),(8,⟨some s024,.nilck (.t s014),none⟩,255,true),(9,⟨none,.st 1 (.t s024) (.t s023),none⟩,511,true)])
 (.seq (.dreg [(0,⟨some s025,.mv (.t s000),none⟩,0,false),(1,⟨some s026,.nilck (.t s025),none⟩,1,false),(2,⟨some s027,.ld (.t s026),none⟩,3,false),(3,⟨some s030,.mv (.t s000),none⟩,0,false),(4,⟨some s031,.nilck (.t s030),none⟩,8,false),(5,⟨some s032,.ld (.t s031),none⟩,24,false),(6,⟨some s033,.bin .shl (.t s032) (.c (.i .u64 17)),none⟩,56,false),(7,⟨some s034,.bin .xor (.t s027) (.t s033),none⟩,127,true),(8,⟨some s035,.nilck (.t s025),none⟩,255,true),(9,⟨none,.st 1 (.t s035) (.t s034),none⟩,511,true)])
 (.seq (.reg [⟨some s036,.mv (.t s000),none⟩,⟨some s037,.nilck (.t s036),none⟩,⟨some s040,.ld (.t s037),none⟩,⟨some s002,.mv (.t s040),none⟩])
 (.ret))))))⟩
/-- slices.medianAdjacentCmpFunc[[2]int] -/
def g93 : AFunc := ⟨4,[.t s010],
 (.seq (.reg [⟨some s010,.mv (.c (.i .i64 0)),none⟩])
 (.seq (.reg [⟨some s011,.mv (.t s000),none⟩,⟨some s012,.mv (.t s001),none⟩,⟨some s013,.bin .sub (.t s012) (.c (.i .i64 1)),none⟩,⟨some s014,.mv (.t s001),none⟩,⟨some s015,.mv (.t s001),none⟩,⟨some s016,.bin .add (.t s015) (.c (.i .i64 1)),none⟩,⟨some s017,.mv (.t s002),none⟩,⟨some s020,.mv (.t s003),none⟩,⟨some s021,.call (.c (.fn 94 [])) [(.t s011),(.t s013),(.t s014),(.t s016),(.t s017),(.t s020)],none⟩,⟨some s010,.mv (.t s021),none⟩])
 (.ret)))⟩
/-- slices.medianCmpFunc[[2]int] -/
def g94 : AFunc := ⟨6,[.t s014],
 (.seq (.reg [⟨some s014,.mv (.c (.i .i64 0)),none⟩])
 (.seq (.reg [⟨some s016,.mv (.t s000),none⟩,⟨some s017,.mv (.t s001),none⟩,⟨some s020,.mv (.t s002),none⟩,⟨some s021,.mv (.t s004),none⟩,⟨some s022,.mv (.t s005),none⟩,⟨some s023,.call (.c (.fn 104 [])) [(.t s016),(.t s017),(.t s020),(.t s021),(.t s022)],none⟩,⟨some s015,.mv (.t s023),none⟩,⟨some s024,.ext (.t s015) 0,none⟩,⟨some s025,.ext (.t s015) 1,none⟩,⟨some s001,.mv (.t s024),none⟩,⟨some s002,.mv (.t s025),none⟩])
 (.seq (.reg [⟨some s027,.mv (.t s000),none⟩,⟨some s030,.mv (.t s002),none⟩,⟨some s031,.mv (.t s003),none⟩,⟨some s032,.mv (.t s004),none⟩,⟨some s033,.mv (.t s005),none⟩,⟨some s034,.call (.c (.fn 104 [])) [(.t s027),(.t s030),(.t s031),(.t s032),(.t s033)],none⟩,⟨some s026,.mv (.t s034),none⟩,⟨some s035,.ext (.t s026) 0,none⟩,⟨some s036,.ext (.t s026) 1,none⟩,⟨some s002,.mv (.t s035),none⟩,⟨some s003,.mv (.t s036),none⟩])
 (.seq (.reg [⟨some s040,.mv (.t s000),none⟩,⟨some s041,.mv (.t s001),none⟩,⟨some s042,.mv (.t s002),none⟩,⟨some s043,.mv (.t s004),none⟩,⟨some s044,.mv (.t s005),none⟩,⟨some s045,.call (.c (.fn 104 [])) [(.t s040),(.t s041),(.t s042),(.t s043),(.t s044)],none⟩,⟨some s037,.mv (.t s045),none⟩,⟨some s046,.ext (.t s037) 0,none⟩,⟨some s047,.ext (.t s037) 1,none⟩,⟨some s001,.mv (.t s046),none⟩,⟨some s002,.mv (.t s047),none⟩])
 (.seq (.reg [⟨some s050,.mv (.t s002),none⟩,⟨some s014,.mv (.t s050),none⟩])
 (.ret))))))⟩
/-- slices.pdqsortOrdered[int] -/
def g95 : AFunc := ⟨4,[],
 (.seq (.reg [⟨some s010,.mv (.c (.b true)),none⟩])
 (.seq (.reg [⟨some s011,.mv (.c (.b true)),none⟩])
 (.block 0 (.loop (.block 1 (.seq (.reg [⟨some s023,.mv (.t s002),none⟩,⟨some s024,.mv (.t s001),none⟩,⟨some s025,.bin .sub (.t s023) (.t s024),none⟩,⟨some s012,.mv (.t s025),none⟩])
    (.seq (.seq (.reg [⟨some s026,.mv (.t s012),none⟩,⟨some s027,.bin .leq (.t s026) (.c (.i .i64 12)),none⟩])
    (.cond (.t s027) (.seq (.reg [⟨some s030,.mv (.t s000),none⟩,⟨some s031,.mv (.t s001),none⟩,⟨some s032,.mv (.t s002),none⟩,⟨some s033,.call (.c (.fn 105 [])) [(.t s030),(.t s031),(.t s032)],none⟩])
     (.ret))
    (.skip)))
    (.seq (.seq (.reg [⟨some s034,.mv (.t s003),none⟩,⟨some s035,.eq .int false (.t s034) (.c (.i .i64 0)),none⟩])
    (.cond (.t s035) (.seq (.reg [⟨some s036,.mv (.t s000),none⟩,⟨some s037,.mv (.t s001),none⟩,⟨some s040,.mv (.t s002),none⟩,⟨some s041,.call (.c (.fn 106 [])) [(.t s036),(.t s037),(.t s040)],none⟩])
     (.ret))
    (.skip)))
    (.seq (.seq (.reg [⟨some s042,.mv (.t s010),none⟩,⟨some s043,.un .not (.t s042),none⟩])
    (.cond (.t s043) (.seq (.reg [⟨some s044,.mv (.t s000),none⟩,⟨some s045,.mv (.t s001),none⟩,⟨some s046,.mv (.t s002),none⟩,⟨some s047,.call (.c (.fn 107 [])) [(.t s044),(.t s045),(.t s046)],none⟩])
     (.reg [⟨some s050,.mv (.t s003),none⟩,⟨some s051,.bin .sub (.t s050) (.c (.i .i64 1)),none⟩,⟨some s003,.mv (.t s051),none⟩]))
    (.skip)))
    (.seq (.reg [⟨some s053,.mv (.t s000),none⟩,⟨some s054,.mv (.t s001),none⟩,⟨some s055,.mv (.t s002),none⟩,⟨some s056,.call (.c (.fn 108 [])) [(.t s053),(.t s054),(.t s055)],none⟩,⟨some s052,.mv (.t s056),none⟩,⟨some s057,.ext (.t s052) 0,none⟩,⟨some s060,.ext (.t s052) 1,none⟩,⟨some s013,.mv (.t s057),none⟩,⟨some s014,.mv (.t s060),none⟩])
    (.seq (.seq (.reg [⟨some s061,.mv (.t s014),none⟩,⟨some s062,.eq .int false (.t s061) (.c (.i .i64 2)),none⟩])
    (.cond (.t s062) (.seq (.reg [⟨some s063,.mv (.t s000),none⟩,⟨some s064,.mv (.t s001),none⟩,⟨some s065,.mv (.t s002),none⟩,⟨some s066,.call (.c (.fn 109 [])) [(.t s063),(.t s064),(.t s065)],none⟩])
     (.seq (.reg [⟨some s067,.mv (.t s002),none⟩,⟨some s070,.bin .sub (.t s067) (.c (.i .i64 1)),none⟩,⟨some s071,.mv (.t s013),none⟩,⟨some s072,.mv (.t s001),none⟩,⟨some s073,.bin .sub (.t s071) (.t s072),none⟩,⟨some s074,.bin .sub (.t s070) (.t s073),none⟩,⟨some s013,.mv (.t s074),none⟩])
     (.reg [⟨some s014,.mv (.c (.i .i64 1)),none⟩])))
    (.skip)))
    (.seq (.seq (.reg [⟨some s075,.mv (.t s010),none⟩,⟨some s076,.mv (.t s075),none⟩,⟨some s077,.mv (.t s011),(some (s076,true))⟩,⟨some s100,.pick (.t s076) (.t s077) (.c (.b false)),none⟩,⟨some s101,.mv (.t s100),none⟩,⟨some s102,.mv (.t s014),(some (s101,true))⟩,⟨some s103,.eq .int false (.t s102) (.c (.i .i64 1)),(some (s101,true))⟩,⟨some s104,.pick (.t s101) (.t s103) (.c (.b false)),none⟩])
    (.cond (.t s104) (.seq (.reg [⟨some s105,.mv (.t s000),none⟩,⟨some s106,.mv (.t s001),none⟩,⟨some s107,.mv (.t s002),none⟩,⟨some s110,.call (.c (.fn 110 [])) [(.t s105),(.t s106),(.t s107)],none⟩])
     (.cond (.t s110) (.ret)
     (.skip)))
    (.skip)))
    (.seq (.seq (.dreg [(0,⟨some s111,.mv (.t s001),none⟩,0,true),(1,⟨some s112,.bin .gtr (.t s111) (.c (.i .i64 0)),none⟩,1,true),(2,⟨some s113,.mv (.t s112),none⟩,3,true),(3,⟨some s114,.mv (.t s000),(some (s113,true))⟩,7,false),(4,⟨some s115,.mv (.t s001),(some (s113,true))⟩,7,false),(5,⟨some s116,.bin .sub (.t s115) (.c (.i .i64 1)),(some (s113,true))⟩,23,false),(6,⟨some s117,.idxa 1 (.t s114) (.t s116),(some (s113,true))⟩,63,false),(7,⟨some s120,.ld (.t s117),(some (s113,true))⟩,127,false),(8,⟨some s121,.mv (.t s000),(some (s113,true))⟩,7,false),(9,⟨some s122,.mv (.t s013),(some (s113,true))⟩,7,false),(10,⟨some s123,.idxa 1 (.t s121) (.t s122),(some (s113,true))⟩,775,false),(11,⟨some s124,.ld (.t s123),(some (s113,true))⟩,1799,false),(12,⟨some s125,.call (.c (.fn 111 [])) [(.t s120),(.t s124)],(some (s113,true))⟩,4095,true),(13,⟨some s126,.un .not (.t s125),(some (s113,true))⟩,8191,true),(14,⟨some s127,.pick (.t s113) (.t s126) (.c (.b false)),none⟩,16383,true)])
    (.cond (.t s127) (.seq (.reg [⟨some s130,.mv (.t s000),none⟩,⟨some s131,.mv (.t s001),none⟩,⟨some s132,.mv (.t s002),none⟩,⟨some s133,.mv (.t s013),none⟩,⟨some s134,.call (.c (.fn 112 [])) [(.t s130),(.t s131),(.t s132),(.t s133)],none⟩,⟨some s015,.mv (.t s134),none⟩])
     (.seq (.reg [⟨some s135,.mv (.t s015),none⟩,⟨some s001,.mv (.t s135),none⟩])
     (.exit 1)))
    (.skip)))
    (.seq (.reg [⟨some s137,.mv (.t s000),none⟩,⟨some s140,.mv (.t s001),none⟩,⟨some s141,.mv (.t s002),none⟩,⟨some s142,.mv (.t s013),none⟩,⟨some s143,.call (.c (.fn 113 [])) [(.t s137),(.t s140),(.t s141),(.t s142)],none⟩,⟨some s136,.mv (.t s143),none⟩,⟨some s144,.ext (.t s136) 0,none⟩,⟨some s145,.ext (.t s136) 1,none⟩,⟨some s016,.mv (.t s144),none⟩,⟨some s017,.mv (.t s145),none⟩])
    (.seq (.reg [⟨some s146,.mv (.t s017),none⟩,⟨some s011,.mv (.t s146),none⟩])
    (.seq (.reg [⟨some s147,.mv (.t s016),none⟩,⟨some s150,.mv (.t s001),none⟩,⟨some s151,.bin .sub (.t s147) (.t s150),none⟩,⟨some s152,.mv (.t s002),none⟩,⟨some s153,.mv (.t s016),none⟩,⟨some s154,.bin .sub (.t s152) (.t s153),none⟩,⟨some s020,.mv (.t s151),none⟩,⟨some s021,.mv (.t s154),none⟩])
    (.seq (.reg [⟨some s155,.mv (.t s012),none⟩,⟨some s156,.bin .quo (.t s155) (.c (.i .i64 8)),none⟩,⟨some s022,.mv (.t s156),none⟩])
    (.seq (.reg [⟨some s157,.mv (.t s020),none⟩,⟨some s160,.mv (.t s021),none⟩,⟨some s161,.bin .lss (.t s157) (.t s160),none⟩])
    (.cond (.t s161) (.seq (.reg [⟨some s162,.mv (.t s020),none⟩,⟨some s163,.mv (.t s022),none⟩,⟨some s164,.bin .geq (.t s162) (.t s163),none⟩,⟨some s010,.mv (.t s164),none⟩])
     (.seq (.reg [⟨some s165,.mv (.t s000),none⟩,⟨some s166,.mv (.t s001),none⟩,⟨some s167,.mv (.t s016),none⟩,⟨some s170,.mv (.t s003),none⟩,⟨some s171,.call (.c (.fn 95 [])) [(.t s165),(.t s166),(.t s167),(.t s170)],none⟩])
     (.reg [⟨some s172,.mv (.t s016),none⟩,⟨some s173,.bin .add (.t s172) (.c (.i .i64 1)),none⟩,⟨some s001,.mv (.t s173),none⟩])))
    (.seq (.reg [⟨some s174,.mv (.t s021),none⟩,⟨some s175,.mv (.t s022),none⟩,⟨some s176,.bin .geq (.t s174) (.t s175),none⟩,⟨some s010,.mv (.t s176),none⟩])
     (.seq (.reg [⟨some s177,.mv (.t s000),none⟩,⟨some s200,.mv (.t s016),none⟩,⟨some s201,.bin .add (.t s200) (.c (.i .i64 1)),none⟩,⟨some s202,.mv (.t s002),none⟩,⟨some s203,.mv (.t s003),none⟩,⟨some s204,.call (.c (.fn 95 [])) [(.t s177),(.t s201),(.t s202),(.t s203)],none⟩])
     (.reg [⟨some s205,.mv (.t s016),none⟩,⟨some s002,.mv (.t s205),none⟩]))))))))))))))))))))))⟩
/-- slices.insertionSortCmpFunc[[][2]int] -/
def g96 : AFunc := ⟨4,[],
 (.seq (.reg [⟨some s012,.mv (.t s001),none⟩,⟨some s013,.bin .add (.t s012) (.c (.i .i64 1)),none⟩,⟨some s010,.mv (.t s013),none⟩])
 (.block 0 (.loop (.seq (.seq (.reg [⟨some s014,.mv (.t s010),none⟩,⟨some s015,.mv (.t s002),none⟩,⟨some s016,.bin .lss (.t s014) (.t s015),none⟩])
   (.cond (.t s016) (.skip)
   (.exit 0)))
   (.seq (.block 1 (.seq (.reg [⟨some s021,.mv (.t s010),none⟩,⟨some s011,.mv (.t s021),none⟩])
    (.block 2 (.loop (.seq (.seq (.dreg [(0,⟨some s022,.mv (.t s011),none⟩,0,true),(1,⟨some s023,.mv (.t s001),none⟩,0,true),(2,⟨some s024,.bin .gtr (.t s022) (.t s023),none⟩,3,true),(3,⟨some s025,.mv (.t s024),none⟩,7,true),(4,⟨some s026,.mv (.t s003),(some (s025,true))⟩,15,false),(5,⟨some s027,.mv (.t s000),(some (s025,true))⟩,15,false),(6,⟨some s030,.mv (.t s011),(some (s025,true))⟩,15,false),(7,⟨some s031,.idxa 1 (.t s027) (.t s030),(some (s025,true))⟩,111,false),(8,⟨some s032,.ld (.t s031),(some (s025,true))⟩,239,false),(9,⟨some s033,.mv (.t s000),(some (s025,true))⟩,15,false),(10,⟨some s034,.mv (.t s011),(some (s025,true))⟩,15,false),(11,⟨some s035,.bin .sub (.t s034) (.c (.i .i64 1)),(some (s025,true))⟩,1039,false),(12,⟨some s036,.idxa 1 (.t s033) (.t s035),(some (s025,true))⟩,3599,false),(13,⟨some s037,.ld (.t s036),(some (s025,true))⟩,7695,false),(14,⟨some s040,.call (.t s026) [(.t s032),(.t s037)],(some (s025,true))⟩,16383,true),(15,⟨some s041,.bin .lss (.t s040) (.c (.i .i64 0)),(some (s025,true))⟩,32767,true),(16,⟨some s042,.pick (.t s025) (.t s041) (.c (.b false)),none⟩,65535,true)])
      (.cond (.t s042) (.skip)
      (.exit 2)))
      (.seq (.block 3 (.dreg [(0,⟨some s045,.mv (.t s000),none⟩,0,false),(1,⟨some s046,.mv (.t s011),none⟩,0,false),(5,⟨some s052,.mv (.t s000),none⟩,0,false),(6,⟨some s053,.mv (.t s011),none⟩,0,false),(7,⟨some s054,.bin .sub (.t s053) (.c (.i .i64 1)),none⟩,64,false),(8,⟨some s055,.idxa 1 (.t s052) (.t s054),none⟩,224,false),(9,⟨some s056,.ld (.t s055),none⟩,480,false),(10,⟨some s057,.mv (.t s000),none⟩,0,false),(11,⟨some s060,.mv (.t s011),none⟩,0,false),(12,⟨some s061,.idxa 1 (.t s057) (.t s060),none⟩,3072,false),(13,⟨some s062,.ld (.t s061),none⟩,7168,false),(14,⟨some s063,.idxa 1 (.t s045) (.t s046),none⟩,16355,true),(15,⟨none,.st 1 (.t s063) (.t s056),none⟩,32739,true),(2,⟨some s047,.mv (.t s000),none⟩,0,false),(3,⟨some s050,.mv (.t s011),none⟩,0,false),(4,⟨some s051,.bin .sub (.t s050) (.c (.i .i64 1)),none⟩,8,false),(16,⟨some s064,.idxa 1 (.t s047) (.t s051),none⟩,65535,true),(17,⟨none,.st 1 (.t s064) (.t s062),none⟩,131071,true)]))
      (.reg [⟨some s043,.mv (.t s011),none⟩,⟨some s044,.bin .sub (.t s043) (.c (.i .i64 1)),none⟩,⟨some s011,.mv (.t s044),none⟩])))))))
   (.reg [⟨some s017,.mv (.t s010),none⟩,⟨some s020,.bin .add (.t s017) (.c (.i .i64 1)),none⟩,⟨some s010,.mv (.t s020),none⟩]))))))⟩
/-- slices.heapSortCmpFunc[[][2]int] -/
def g97 : AFunc := ⟨4,[],
 (.seq (.reg [⟨some s015,.mv (.t s001),none⟩,⟨some s010,.mv (.t s015),none⟩])
 (.seq (.reg [⟨some s011,.mv (.c (.i .i64 0)),none⟩])
 (.seq (.reg [⟨some s016,.mv (.t s002),none⟩,⟨some s017,.mv (.t s001),none⟩,⟨some s020,.bin .sub (.t s016) (.t s017),none⟩,⟨some s012,.mv (.t s020),none⟩])
 (.seq (.seq (.reg [⟨some s021,.mv (.t s012),none⟩,⟨some s022,.bin .sub (.t s021) (.c (.i .i64 1)),none⟩,⟨some s023,.bin .quo (.t s022) (.c (.i .i64 2)),none⟩,⟨some s013,.mv (.t s023),none⟩])
 (.block 0 (.loop (.seq (.seq (.reg [⟨some s024,.mv (.t s013),none⟩,⟨some s025,.bin .geq (.t s024) (.c (.i .i64 0)),none⟩])
   (.cond (.t s025) (.skip)
   (.exit 0)))
   (.seq (.block 1 (.reg [⟨some s030,.mv (.t s000),none⟩,⟨some s031,.mv (.t s013),none⟩,⟨some s032,.mv (.t s012),none⟩,⟨some s033,.mv (.t s010),none⟩,⟨some s034,.mv (.t s003),none⟩,⟨some s035,.call (.c (.fn 114 [])) [(.t s030),(.t s031),(.t s032),(.t s033),(.t s034)],none⟩]))
   (.reg [⟨some s026,.mv (.t s013),none⟩,⟨some s027,.bin .sub (.t s026) (.c (.i .i64 1)),none⟩,⟨some s013,.mv (.t s027),none⟩]))))))
 (.seq (.reg [⟨some s036,.mv (.t s012),none⟩,⟨some s037,.bin .sub (.t s036) (.c (.i .i64 1)),none⟩,⟨some s014,.mv (.t s037),none⟩])
 (.block 2 (.loop (.seq (.seq (.reg [⟨some s040,.mv (.t s014),none⟩,⟨some s041,.bin .geq (.t s040) (.c (.i .i64 0)),none⟩])
   (.cond (.t s041) (.skip)
   (.exit 2)))
   (.seq (.block 3 (.seq (.dreg [(0,⟨some s044,.mv (.t s000),none⟩,0,false),(1,⟨some s045,.mv (.t s010),none⟩,0,false),(6,⟨some s052,.mv (.t s000),none⟩,0,false),(7,⟨some s053,.mv (.t s010),none⟩,0,false),(8,⟨some s054,.mv (.t s014),none⟩,0,false),(9,⟨some s055,.bin .add (.t s053) (.t s054),none⟩,384,false),(10,⟨some s056,.idxa 1 (.t s052) (.t s055),none⟩,960,false),(11,⟨some s057,.ld (.t s056),none⟩,1984,false),(12,⟨some s060,.mv (.t s000),none⟩,0,false),(13,⟨some s061,.mv (.t s010),none⟩,0,false),(14,⟨some s062,.idxa 1 (.t s060) (.t s061),none⟩,12288,false),(15,⟨some s063,.ld (.t s062),none⟩,28672,false),(16,⟨some s064,.idxa 1 (.t s044) (.t s045),none⟩,65475,true),(17,⟨none,.st 1 (.t s064) (.t s057),none⟩,131011,true),(2,⟨some s046,.mv (.t s000),none⟩,0,false),(3,⟨some s047,.mv (.t s010),none⟩,0,false),(4,⟨some s050,.mv (.t s014),none⟩,0,false),(5,⟨some s051,.bin .add (.t s047) (.t s050),none⟩,24,false),(18,⟨some s065,.idxa 1 (.t s046) (.t s051),none⟩,262143,true),(19,⟨none,.st 1 (.t s065) (.t s063),none⟩,524287,true)])
    (.reg [⟨some s066,.mv (.t s000),none⟩,⟨some s067,.mv (.t s011),none⟩,⟨some s070,.mv (.t s014),none⟩,⟨some s071,.mv (.t s010),none⟩,⟨some s072,.mv (.t s003),none⟩,⟨some s073,.call (.c (.fn 114 [])) [(.t s066),(.t s067),(.t s070),(.t s071),(.t s072)],none⟩])))
   (.reg [⟨some s042,.mv (.t s014),none⟩,⟨some s043,.bin .sub (.t s042) (.c (.i .i64 1)),none⟩,⟨some s014,.mv (.t s043),none⟩]))))))))))⟩
/-- slices.breakPatternsCmpFunc[[][2]int] -/
def g98 : AFunc := ⟨4,[],
 (.seq (.reg [⟨some s015,.mv (.t s002),none⟩,⟨some s016,.mv (.t s001),none⟩,⟨some s017,.bin .sub (.t s015) (.t s016),none⟩,⟨some s010,.mv (.t s017),none⟩])
 (.seq (.reg [⟨some s020,.mv (.t s010),none⟩,⟨some s021,.bin .geq (.t s020) (.c (.i .i64 8)),none⟩])
 (.cond (.t s021) (.seq (.reg [⟨some s022,.mv (.t s010),none⟩,⟨some s023,.conv .u64 (.t s022),none⟩,⟨some s011,.new [(.i .u64 0)],none⟩,⟨none,.st 1 (.t s011) (.t s023),none⟩])
  (.seq (.reg [⟨some s024,.mv (.t s010),none⟩,⟨some s025,.call (.c (.fn 91 [])) [(.t s024)],none⟩,⟨some s012,.mv (.t s025),none⟩])
  (.seq (.reg [⟨some s026,.mv (.t s001),none⟩,⟨some s027,.mv (.t s010),none⟩,⟨some s030,.bin .quo (.t s027) (.c (.i .i64 4)),none⟩,⟨some s031,.bin .mul (.t s030) (.c (.i .i64 2)),none⟩,⟨some s032,.bin .add (.t s026) (.t s031),none⟩,⟨some s033,.bin .sub (.t s032) (.c (.i .i64 1)),none⟩,⟨some s013,.mv (.t s033),none⟩])
  (.block 0 (.loop (.seq (.seq (.reg [⟨some s034,.mv (.t s013),none⟩,⟨some s035,.mv (.t s001),none⟩,⟨some s036,.mv (.t s010),none⟩,⟨some s037,.bin .quo (.t s036) (.c (.i .i64 4)),none⟩,⟨some s040,.bin .mul (.t s037) (.c (.i .i64 2)),none⟩,⟨some s041,.bin .add (.t s035) (.t s040),none⟩,⟨some s042,.bin .add (.t s041) (.c (.i .i64 1)),none⟩,⟨some s043,.bin .leq (.t s034) (.t s042),none⟩])
    (.cond (.t s043) (.skip)
    (.exit 0)))
    (.seq (.block 1 (.seq (.reg [⟨some s046,.call (.c (.fn 92 [])) [(.t s011)],none⟩,⟨some s047,.mv (.t s012),none⟩,⟨some s050,.bin .sub (.t s047) (.c (.i .u64 1)),none⟩,⟨some s051,.bin .and (.t s046) (.t s050),none⟩,⟨some s052,.conv .i64 (.t s051),none⟩,⟨some s014,.mv (.t s052),none⟩])
     (.seq (.seq (.reg [⟨some s053,.mv (.t s014),none⟩,⟨some s054,.mv (.t s010),none⟩,⟨some s055,.bin .geq (.t s053) (.t s054),none⟩])
     (.cond (.t s055) (.reg [⟨some s056,.mv (.t s014),none⟩,⟨some s057,.mv (.t s010),none⟩,⟨some s060,.bin .sub (.t s056) (.t s057),none⟩,⟨some s014,.mv (.t s060),none⟩])
     (.skip)))
     (.dreg [(0,⟨some s061,.mv (.t s000),none⟩,0,false),(1,⟨some s062,.mv (.t s013),none⟩,0,false),(6,⟨some s067,.mv (.t s000),none⟩,0,false),(7,⟨some s070,.mv (.t s001),none⟩,0,false),(8,⟨some s071,.mv (.t s014),none⟩,0,false),(9,⟨some s072,.bin .add (.t s070) (.t s071),none⟩,384,false),(10,⟨some s073,.idxa 1 (.t s067) (.t s072),none⟩,960,false),(11,⟨some s074,.ld (.t s073),none⟩,1984,false),(12,⟨some s075,.mv (.t s000),none⟩,0,false),(13,⟨some s076,.mv (.t s013),none⟩,0,false),(14,⟨some s077,.idxa 1 (.t s075) (.t s076),none⟩,12288,false),(15,⟨some s100,.ld (.t s077),none⟩,28672,false),(16,⟨some s101,.idxa 1 (.t s061) (.t s062),none⟩,65475,true),(17,⟨none,.st 1 (.t s101) (.t s074),none⟩,131011,true),(2,⟨some s063,.mv (.t s000),none⟩,0,false),(3,⟨some s064,.mv (.t s001),none⟩,0,false),(4,⟨some s065,.mv (.t s014),none⟩,0,false),(5,⟨some s066,.bin .add (.t s064) (.t s065),none⟩,24,false),(18,⟨some s102,.idxa 1 (.t s063) (.t s066),none⟩,262143,true),(19,⟨none,.st 1 (.t s102) (.t s100),none⟩,524287,true)]))))
    (.reg [⟨some s044,.mv (.t s013),none⟩,⟨some s045,.bin .add (.t s044) (.c (.i .i64 1)),none⟩,⟨some s013,.mv (.t s045),none⟩]))))))))
 (.skip))))⟩
/-- slices.choosePivotCmpFunc[[][2]int] -/
def g99 : AFunc := ⟨4,[.t s010,.t s011],
 (.seq (.reg [⟨some s010,.mv (.c (.i .i64 0)),none⟩,⟨some s011,.mv (.c (.i .i64 0)),none⟩])
 (.seq (.reg [⟨some s017,.mv (.t s002),none⟩,⟨some s020,.mv (.t s001),none⟩,⟨some s021,.bin .sub (.t s017) (.t s020),none⟩,⟨some s012,.mv (.t s021),none⟩])
 (.seq (.reg [⟨some s013,.new [(.i .i64 0)],none⟩])
 (.seq (.reg [⟨some s022,.mv (.t s001),none⟩,⟨some s023,.mv (.t s012),none⟩,⟨some s024,.bin .quo (.t s023) (.c (.i .i64 4)),none⟩,⟨some s025,.bin .mul (.t s024) (.c (.i .i64 1)),none⟩,⟨some s026,.bin .add (.t s022) (.t s025),none⟩,⟨some s014,.mv (.t s026),none⟩])
 (.seq (.reg [⟨some s027,.mv (.t s001),none⟩,⟨some s030,.mv (.t s012),none⟩,⟨some s031,.bin .quo (.t s030) (.c (.i .i64 4)),none⟩,⟨some s032,.bin .mul (.t s031) (.c (.i .i64 2)),none⟩,⟨some s033,.bin .add (.t s027) (.t s032),none⟩,⟨some s015,.mv (.t s033),none⟩])
 (.seq (.reg [⟨some s034,.mv (.t s001),none⟩,⟨some s035,.mv (.t s012),none⟩,⟨some s036,.bin .quo (.t s035) (.c (.i .i64 4)),none⟩,⟨some s037,.bin .mul (.t s036) (.c (.i .i64 3)),none⟩,⟨some s040,.bin .add (.t s034) (.t s037),none⟩,⟨some s016,.mv (.t s040),none⟩])
 (.seq (.seq (.reg [⟨some s041,.mv (.t s012),none⟩,⟨some s042,.bin .geq (.t s041) (.c (.i .i64 8)),none⟩])
 (.cond (.t s042) (.seq (.seq (.reg [⟨some s043,.mv (.t s012),none⟩,⟨some s044,.bin .geq (.t s043) (.c (.i .i64 50)),none⟩])
  (.cond (.t s044) (.seq (.reg [⟨some s045,.mv (.t s000),none⟩,⟨some s046,.mv (.t s014),none⟩,⟨some s047,.mv (.t s003),none⟩,⟨some s050,.call (.c (.fn 115 [])) [(.t s045),(.t s046),(.t s013),(.t s047)],none⟩,⟨some s014,.mv (.t s050),none⟩])
   (.seq (.reg [⟨some s051,.mv (.t s000),none⟩,⟨some s052,.mv (.t s015),none⟩,⟨some s053,.mv (.t s003),none⟩,⟨some s054,.call (.c (.fn 115 [])) [(.t s051),(.t s052),(.t s013),(.t s053)],none⟩,⟨some s015,.mv (.t s054),none⟩])
   (.reg [⟨some s055,.mv (.t s000),none⟩,⟨some s056,.mv (.t s016),none⟩,⟨some s057,.mv (.t s003),none⟩,⟨some s060,.call (.c (.fn 115 [])) [(.t s055),(.t s056),(.t s013),(.t s057)],none⟩,⟨some s016,.mv (.t s060),none⟩])))
  (.skip)))
  (.reg [⟨some s061,.mv (.t s000),none⟩,⟨some s062,.mv (.t s014),none⟩,⟨some s063,.mv (.t s015),none⟩,⟨some s064,.mv (.t s016),none⟩,⟨some s065,.mv (.t s003),none⟩,⟨some s066,.call (.c (.fn 116 [])) [(.t s061),(.t s062),(.t s063),(.t s064),(.t s013),(.t s065)],none⟩,⟨some s015,.mv (.t s066),none⟩]))
 (.skip)))
 (.seq (.reg [⟨some s067,.ld (.t s013),none⟩])
 (.block 0 (.seq (.reg [⟨some s072,.eq .int false (.t s067) (.c (.i .i64 0)),none⟩,⟨some s071,.mv (.t s072),none⟩])
  (.cond (.t s071) (.seq (.reg [⟨some s073,.mv (.t s015),none⟩,⟨some s010,.mv (.t s073),none⟩,⟨some s011,.mv (.c (.i .i64 1)),none⟩])
   (.ret))
  (.seq (.reg [⟨some s075,.eq .int false (.t s067) (.c (.i .i64 12)),none⟩,⟨some s074,.mv (.t s075),none⟩])
   (.cond (.t s074) (.seq (.reg [⟨some s076,.mv (.t s015),none⟩,⟨some s010,.mv (.t s076),none⟩,⟨some s011,.mv (.c (.i .i64 2)),none⟩])
    (.ret))
   (.seq (.reg [⟨some s070,.mv (.t s015),none⟩,⟨some s010,.mv (.t s070),none⟩,⟨some s011,.mv (.c (.i .i64 0)),none⟩])
    (.ret)))))))))))))))⟩
/-- slices.reverseRangeCmpFunc[[][2]int] -/
def g100 : AFunc := ⟨4,[],
 (.seq (.reg [⟨some s012,.mv (.t s001),none⟩,⟨some s010,.mv (.t s012),none⟩])
 (.seq (.reg [⟨some s013,.mv (.t s002),none⟩,⟨some s014,.bin .sub (.t s013) (.c (.i .i64 1)),none⟩,⟨some s011,.mv (.t s014),none⟩])
 (.block 0 (.loop (.seq (.seq (.reg [⟨some s015,.mv (.t s010),none⟩,⟨some s016,.mv (.t s011),none⟩,⟨some s017,.bin .lss (.t s015) (.t s016),none⟩])
   (.cond (.t s017) (.skip)
   (.exit 0)))
   (.block 1 (.seq (.dreg [(0,⟨some s020,.mv (.t s000),none⟩,0,false),(1,⟨some s021,.mv (.t s010),none⟩,0,false),(4,⟨some s024,.mv (.t s000),none⟩,0,false),(5,⟨some s025,.mv (.t s011),none⟩,0,false),(6,⟨some s026,.idxa 1 (.t s024) (.t s025),none⟩,48,false),(7,⟨some s027,.ld (.t s026),none⟩,112,false),(8,⟨some s030,.mv (.t s000),none⟩,0,false),(9,⟨some s031,.mv (.t s010),none⟩,0,false),(10,⟨some s032,.idxa 1 (.t s030) (.t s031),none⟩,768,false),(11,⟨some s033,.ld (.t s032),none⟩,1792,false),(12,⟨some s034,.idxa 1 (.t s020) (.t s021),none⟩,4083,true),(13,⟨none,.st 1 (.t s034) (.t s027),none⟩,8179,true),(2,⟨some s022,.mv (.t s000),none⟩,0,false),(3,⟨some s023,.mv (.t s011),none⟩,0,false),(14,⟨some s035,.idxa 1 (.t s022) (.t s023),none⟩,16383,true),(15,⟨none,.st 1 (.t s035) (.t s033),none⟩,32767,true)])
    (.seq (.reg [⟨some s036,.mv (.t s010),none⟩,⟨some s037,.bin .add (.t s036) (.c (.i .i64 1)),none⟩,⟨some s010,.mv (.t s037),none⟩])
    (.reg [⟨some s040,.mv (.t s011),none⟩,⟨some s041,.bin .sub (.t s040) (.c (.i .i64 1)),none⟩,⟨some s011,.mv (.t s041),none⟩])))))))))⟩
/-- slices.partialInsertionSortCmpFunc[[][2]int] -/
def g101 : AFunc := ⟨4,[.t s010],
 (.seq (.reg [⟨some s010,.mv (.c (.b false)),none⟩])
 (.seq (.reg [⟨some s015,.mv (.t s001),none⟩,⟨some s016,.bin .add (.t s015) (.c (.i .i64 1)),none⟩,⟨some s011,.mv (.t s016),none⟩])
 (.seq (.seq (.reg [⟨some s012,.mv (.c (.i .i64 0)),none⟩])
 (.block 0 (.loop (.seq (.seq (.reg [⟨some s017,.mv (.t s012),none⟩,⟨some s020,.bin .lss (.t s017) (.c (.i .i64 5)),none⟩])
   (.cond (.t s020) (.skip)
   (.exit 0)))
   (.seq (.block 1 (.seq (.block 2 (.loop (.seq (.seq (.dreg [(0,⟨some s023,.mv (.t s011),none⟩,0,true),(1,⟨some s024,.mv (.t s002),none⟩,0,true),(2,⟨some s025,.bin .lss (.t s023) (.t s024),none⟩,3,true),(3,⟨some s026,.mv (.t s025),none⟩,7,true),(4,⟨some s027,.mv (.t s003),(some (s026,true))⟩,15,false),(5,⟨some s030,.mv (.t s000),(some (s026,true))⟩,15,false),(6,⟨some s031,.mv (.t s011),(some (s026,true))⟩,15,false),(7,⟨some s032,.idxa 1 (.t s030) (.t s031),(some (s026,true))⟩,111,false),(8,⟨some s033,.ld (.t s032),(some (s026,true))⟩,239,false),(9,⟨some s034,.mv (.t s000),(some (s026,true))⟩,15,false),(10,⟨some s035,.mv (.t s011),(some (s026,true))⟩,15,false),(11,⟨some s036,.bin .sub (.t s035) (.c (.i .i64 1)),(some (s026,true))⟩,1039,false),(12,⟨some s037,.idxa 1 (.t s034) (.t s036),(some (s026,true))⟩,3599,false),(13,⟨some s040,.ld (.t s037),(some (s026,true))⟩,7695,false),(14,⟨some s041,.call (.t s027) [(.t s033),(.t s040)],(some (s026,true))⟩,16383,true),(15,⟨some s042,.bin .lss (.t s041) (.c (.i .i64 0)),(some (s026,true))⟩,32767,true),(16,⟨some s043,.un .not (.t s042),(some (s026,true))⟩,65535,true),(17,⟨some s044,.pick (.t s026) (.t s043) (.c (.b false)),none⟩,131071,true)])
      (.cond (.t s044) (.skip)
      (.exit 2)))
      (.block 3 (.reg [⟨some s045,.mv (.t s011),none⟩,⟨some s046,.bin .add (.t s045) (.c (.i .i64 1)),none⟩,⟨some s011,.mv (.t s046),none⟩])))))
    (.seq (.seq (.reg [⟨some s047,.mv (.t s011),none⟩,⟨some s050,.mv (.t s002),none⟩,⟨some s051,.eq .int false (.t s047) (.t s050),none⟩])
    (.cond (.t s051) (.seq (.reg [⟨some s010,.mv (.c (.b true)),none⟩])
     (.ret))
    (.skip)))
    (.seq (.seq (.reg [⟨some s052,.mv (.t s002),none⟩,⟨some s053,.mv (.t s001),none⟩,⟨some s054,.bin .sub (.t s052) (.t s053),none⟩,⟨some s055,.bin .lss (.t s054) (.c (.i .i64 50)),none⟩])
    (.cond (.t s055) (.seq (.reg [⟨some s010,.mv (.c (.b false)),none⟩])
     (.ret))
    (.skip)))
    (.seq (.dreg [(0,⟨some s056,.mv (.t s000),none⟩,0,false),(1,⟨some s057,.mv (.t s011),none⟩,0,false),(5,⟨some s063,.mv (.t s000),none⟩,0,false),(6,⟨some s064,.mv (.t s011),none⟩,0,false),(7,⟨some s065,.bin .sub (.t s064) (.c (.i .i64 1)),none⟩,64,false),(8,⟨some s066,.idxa 1 (.t s063) (.t s065),none⟩,224,false),(9,⟨some s067,.ld (.t s066),none⟩,480,false),(10,⟨some s070,.mv (.t s000),none⟩,0,false),(11,⟨some s071,.mv (.t s011),none⟩,0,false),(12,⟨some s072,.idxa 1 (.t s070) (.t s071),none⟩,3072,false),(13,⟨some s073,.ld (.t s072),none⟩,7168,false),(14,⟨some s074,.idxa 1 (.t s056) (.t s057),none⟩,16355,true),(15,⟨none,.st 1 (.t s074) (.t s067),none⟩,32739,true),(2,⟨some s060,.mv (.t s000),none⟩,0,false),(3,⟨some s061,.mv (.t s011),none⟩,0,false),(4,⟨some s062,.bin .sub (.t s061) (.c (.i .i64 1)),none⟩,8,false),(16,⟨some s075,.idxa 1 (.t s060) (.t s062),none⟩,65535,true),(17,⟨none,.st 1 (.t s075) (.t s073),none⟩,131071,true)])
    (.seq (.seq (.reg [⟨some s076,.mv (.t s011),none⟩,⟨some s077,.mv (.t s001),none⟩,⟨some s100,.bin .sub (.t s076) (.t s077),none⟩,⟨some s101,.bin .geq (.t s100) (.c (.i .i64 2)),none⟩])
    (.cond (.t s101) (.seq (.reg [⟨some s102,.mv (.t s011),none⟩,⟨some s103,.bin .sub (.t s102) (.c (.i .i64 1)),none⟩,⟨some s013,.mv (.t s103),none⟩])
     (.block 4 (.loop (.seq (.seq (.reg [⟨some s104,.mv (.t s013),none⟩,⟨some s105,.bin .geq (.t s104) (.c (.i .i64 1)),none⟩])
       (.cond (.t s105) (.skip)
       (.exit 4)))
       (.seq (.block 5 (.seq (.seq (.dreg [(0,⟨some s110,.mv (.t s003),none⟩,0,false),(1,⟨some s111,.mv (.t s000),none⟩,0,false),(2,⟨some s112,.mv (.t s013),none⟩,0,false),(3,⟨some s113,.idxa 1 (.t s111) (.t s112),none⟩,6,false),(4,⟨some s114,.ld (.t s113),none⟩,14,false),(5,⟨some s115,.mv (.t s000),none⟩,0,false),(6,⟨some s116,.mv (.t s013),none⟩,0,false),(7,⟨some s117,.bin .sub (.t s116) (.c (.i .i64 1)),none⟩,64,false),(8,⟨some s120,.idxa 1 (.t s115) (.t s117),none⟩,224,false),(9,⟨some s121,.ld (.t s120),none⟩,480,false),(10,⟨some s122,.call (.t s110) [(.t s114),(.t s121)],none⟩,1023,true),(11,⟨some s123,.bin .lss (.t s122) (.c (.i .i64 0)),none⟩,2047,true),(12,⟨some s124,.un .not (.t s123),none⟩,4095,true)])
        (.cond (.t s124) (.exit 4)
        (.skip)))
        (.dreg [(0,⟨some s125,.mv (.t s000),none⟩,0,false),(1,⟨some s126,.mv (.t s013),none⟩,0,false),(5,⟨some s132,.mv (.t s000),none⟩,0,false),(6,⟨some s133,.mv (.t s013),none⟩,0,false),(7,⟨some s134,.bin .sub (.t s133) (.c (.i .i64 1)),none⟩,64,false),(8,⟨some s135,.idxa 1 (.t s132) (.t s134),none⟩,224,false),(9,⟨some s136,.ld (.t s135),none⟩,480,false),(10,⟨some s137,.mv (.t s000),none⟩,0,false),(11,⟨some s140,.mv (.t s013),none⟩,0,false),(12,⟨some s141,.idxa 1 (.t s137) (.t s140),none⟩,3072,false),(13,⟨some s142,.ld (.t s141),none⟩,7168,false),(14,⟨some s143,.idxa 1 (.t s125) (.t s126),none⟩,16355,true),(15,⟨none,.st 1 (.t s143) (.t s136),none⟩,32739,true),(2,⟨some s127,.mv (.t s000),none⟩,0,false),(3,⟨some s130,.mv (.t s013),none⟩,0,false),(4,⟨some s131,.bin .sub (.t s130) (.c (.i .i64 1)),none⟩,8,false),(16,⟨some s144,.idxa 1 (.t s127) (.t s131),none⟩,65535,true),(17,⟨none,.st 1 (.t s144) (.t s142),none⟩,131071,true)])))
       (.reg [⟨some s106,.mv (.t s013),none⟩,⟨some s107,.bin .sub (.t s106) (.c (.i .i64 1)),none⟩,⟨some s013,.mv (.t s107),none⟩]))))))
    (.skip)))
    (.seq (.reg [⟨some s145,.mv (.t s002),none⟩,⟨some s146,.mv (.t s011),none⟩,⟨some s147,.bin .sub (.t s145) (.t s146),none⟩,⟨some s150,.bin .geq (.t s147) (.c (.i .i64 2)),none⟩])
    (.cond (.t s150) (.seq (.reg [⟨some s151,.mv (.t s011),none⟩,⟨some s152,.bin .add (.t s151) (.c (.i .i64 1)),none⟩,⟨some s014,.mv (.t s152),none⟩])
     (.block 6 (.loop (.seq (.seq (.reg [⟨some s153,.mv (.t s014),none⟩,⟨some s154,.mv (.t s002),none⟩,⟨some s155,.bin .lss (.t s153) (.t s154),none⟩])
       (.cond (.t s155) (.skip)
       (.exit 6)))
       (.seq (.block 7 (.seq (.seq (.dreg [(0,⟨some s160,.mv (.t s003),none⟩,0,false),(1,⟨some s161,.mv (.t s000),none⟩,0,false),(2,⟨some s162,.mv (.t s014),none⟩,0,false),(3,⟨some s163,.idxa 1 (.t s161) (.t s162),none⟩,6,false),(4,⟨some s164,.ld (.t s163),none⟩,14,false),(5,⟨some s165,.mv (.t s000),none⟩,0,false),(6,⟨some s166,.mv (.t s014),none⟩,0,false),(7,⟨some s167,.bin .sub (.t s166) (.c (.i .i64 1)),none⟩,64,false),(8,⟨some s170,.idxa 1 (.t s165) (.t s167),none⟩,224,false),(9,⟨some s171,.ld (.t s170),none⟩,480,false),(10,⟨some s172,.call (.t s160) [(.t s164),(.t s171)],none⟩,1023,true),(11,⟨some s173,.bin .lss (.t s172) (.c (.i .i64 0)),none⟩,2047,true),(12,⟨some s174,.un .not (.t s173),none⟩,4095,true)])
        (.cond (.t s174) (.exit 6)
        (.skip)))
        (.dreg [(0,⟨some s175,.mv (.t s000),none⟩,0,false),(1,⟨some s176,.mv (.t s014),none⟩,0,false),(5,⟨some s202,.mv (.t s000),none⟩,0,false),(6,⟨some s203,.mv (.t s014),none⟩,0,false),(7,⟨some s204,.bin .sub (.t s203) (.c (.i .i64 1)),none⟩,64,false),(8,⟨some s205,.idxa 1 (.t s202) (.t s204),none⟩,224,false),(9,⟨some s206,.ld (.t s205),none⟩,480,false),(10,⟨some s207,.mv (.t s000),none⟩,0,false),(11,⟨some s210,.mv (.t s014),none⟩,0,false),(12,⟨some s211,.idxa 1 (.t s207) (.t s210),none⟩,3072,false),(13,⟨some s212,.ld (.t s211),none⟩,7168,false),(14,⟨some s213,.idxa 1 (.t s175) (.t s176),none⟩,16355,true),(15,⟨none,.st 1 (.t s213) (.t s206),none⟩,32739,true),(2,⟨some s177,.mv (.t s000),none⟩,0,false),(3,⟨some s200,.mv (.t s014),none⟩,0,false),(4,⟨some s201,.bin .sub (.t s200) (.c (.i .i64 1)),none⟩,8,false),(16,⟨some s214,.idxa 1 (.t s177) (.t s201),none⟩,65535,true),(17,⟨none,.st 1 (.t s214) (.t s212),none⟩,131071,true)])))
       (.reg [⟨some s156,.mv (.t s014),none⟩,⟨some s157,.bin .add (.t s156) (.c (.i .i64 1)),none⟩,⟨some s014,.mv (.t s157),none⟩]))))))
    (.skip)))))))))
   (.reg [⟨some s021,.mv (.t s012),none⟩,⟨some s022,.bin .add (.t s021) (.c (.i .i64 1)),none⟩,⟨some s012,.mv (.t s022),none⟩]))))))
 (.seq (.reg [⟨some s010,.mv (.c (.b false)),none⟩])
 (.ret)))))⟩
/-- slices.partitionEqualCmpFunc[[][2]int] -/
def g102 : AFunc := ⟨5,[.t s012],
 (.seq (.reg [⟨some s012,.mv (.c (.i .i64 0)),none⟩])
 (.seq (.dreg [(0,⟨some s015,.mv (.t s000),none⟩,0,false),(1,⟨some s016,.mv (.t s001),none⟩,0,false),(4,⟨some s021,.mv (.t s000),none⟩,0,false),(5,⟨some s022,.mv (.t s003),none⟩,0,false),(6,⟨some s023,.idxa 1 (.t s021) (.t s022),none⟩,48,false),(7,⟨some s024,.ld (.t s023),none⟩,112,false),(8,⟨some s025,.mv (.t s000),none⟩,0,false),(9,⟨some s026,.mv (.t s001),none⟩,0,false),(10,⟨some s027,.idxa 1 (.t s025) (.t s026),none⟩,768,false),(11,⟨some s030,.ld (.t s027),none⟩,1792,false),(12,⟨some s031,.idxa 1 (.t s015) (.t s016),none⟩,4083,true),(13,⟨none,.st 1 (.t s031) (.t s024),none⟩,8179,true),(2,⟨some s017,.mv (.t s000),none⟩,0,false),(3,⟨some s020,.mv (.t s003),none⟩,0,false),(14,⟨some s032,.idxa 1 (.t s017) (.t s020),none⟩,16383,true),(15,⟨none,.st 1 (.t s032) (.t s030),none⟩,32767,true)])
 (.seq (.reg [⟨some s033,.mv (.t s001),none⟩,⟨some s034,.bin .add (.t s033) (.c (.i .i64 1)),none⟩,⟨some s035,.mv (.t s002),none⟩,⟨some s036,.bin .sub (.t s035) (.c (.i .i64 1)),none⟩,⟨some s013,.mv (.t s034),none⟩,⟨some s014,.mv (.t s036),none⟩])
 (.seq (.block 0 (.loop (.block 1 (.seq (.block 2 (.loop (.seq (.seq (.dreg [(0,⟨some s037,.mv (.t s013),none⟩,0,true),(1,⟨some s040,.mv (.t s014),none⟩,0,true),(2,⟨some s041,.bin .leq (.t s037) (.t s040),none⟩,3,true),(3,⟨some s042,.mv (.t s041),none⟩,7,true),(4,⟨some s043,.mv (.t s004),(some (s042,true))⟩,15,false),(5,⟨some s044,.mv (.t s000),(some (s042,true))⟩,15,false),(6,⟨some s045,.mv (.t s001),(some (s042,true))⟩,15,false),(7,⟨some s046,.idxa 1 (.t s044) (.t s045),(some (s042,true))⟩,111,false),(8,⟨some s047,.ld (.t s046),(some (s042,true))⟩,239,false),(9,⟨some s050,.mv (.t s000),(some (s042,true))⟩,15,false),(10,⟨some s051,.mv (.t s013),(some (s042,true))⟩,15,false),(11,⟨some s052,.idxa 1 (.t s050) (.t s051),(some (s042,true))⟩,1551,false),(12,⟨some s053,.ld (.t s052),(some (s042,true))⟩,3599,false),(13,⟨some s054,.call (.t s043) [(.t s047),(.t s053)],(some (s042,true))⟩,8191,true),(14,⟨some s055,.bin .lss (.t s054) (.c (.i .i64 0)),(some (s042,true))⟩,16383,true),(15,⟨some s056,.un .not (.t s055),(some (s042,true))⟩,32767,true),(16,⟨some s057,.pick (.t s042) (.t s056) (.c (.b false)),none⟩,65535,true)])
      (.cond (.t s057) (.skip)
      (.exit 2)))
      (.block 3 (.reg [⟨some s060,.mv (.t s013),none⟩,⟨some s061,.bin .add (.t s060) (.c (.i .i64 1)),none⟩,⟨some s013,.mv (.t s061),none⟩])))))
    (.seq (.block 4 (.loop (.seq (.seq (.dreg [(0,⟨some s062,.mv (.t s013),none⟩,0,true),(1,⟨some s063,.mv (.t s014),none⟩,0,true),(2,⟨some s064,.bin .leq (.t s062) (.t s063),none⟩,3,true),(3,⟨some s065,.mv (.t s064),none⟩,7,true),(4,⟨some s066,.mv (.t s004),(some (s065,true))⟩,15,false),(5,⟨some s067,.mv (.t s000),(some (s065,true))⟩,15,false),(6,⟨some s070,.mv (.t s001),(some (s065,true))⟩,15,false),(7,⟨some s071,.idxa 1 (.t s067) (.t s070),(some (s065,true))⟩,111,false),(8,⟨some s072,.ld (.t s071),(some (s065,true))⟩,239,false),(9,⟨some s073,.mv (.t s000),(some (s065,true))⟩,15,false),(10,⟨some s074,.mv (.t s014),(some (s065,true))⟩,15,false),(11,⟨some s075,.idxa 1 (.t s073) (.t s074),(some (s065,true))⟩,1551,false),(12,⟨some s076,.ld (.t s075),(some (s065,true))⟩,3599,false),(13,⟨some s077,.call (.t s066) [(.t s072),(.t s076)],(some (s065,true))⟩,8191,true),(14,⟨some s100,.bin .lss (.t s077) (.c (.i .i64 0)),(some (s065,true))⟩,16383,true),(15,⟨some s101,.pick (.t s065) (.t s100) (.c (.b false)),none⟩,32767,true)])
      (.cond (.t s101) (.skip)
      (.exit 4)))
      (.block 5 (.reg [⟨some s102,.mv (.t s014),none⟩,⟨some s103,.bin .sub (.t s102) (.c (.i .i64 1)),none⟩,⟨some s014,.mv (.t s103),none⟩])))))
    (.seq (.seq (.reg [⟨some s104,.mv (.t s013),none⟩,⟨some s105,.mv (.t s014),none⟩,⟨some s106,.bin .gtr (.t s104) (.t s105),none⟩])
    (.cond (.t s106) (.exit 0)
    (.skip)))
    (.seq (.dreg [(0,⟨some s107,.mv (.t s000),none⟩,0,false),(1,⟨some s110,.mv (.t s013),none⟩,0,false),(4,⟨some s113,.mv (.t s000),none⟩,0,false),(5,⟨some s114,.mv (.t s014),none⟩,0,false),(6,⟨some s115,.idxa 1 (.t s113) (.t s114),none⟩,48,false),(7,⟨some s116,.ld (.t s115),none⟩,112,false),(8,⟨some s117,.mv (.t s000),none⟩,0,false),(9,⟨some s120,.mv (.t s013),none⟩,0,false),(10,⟨some s121,.idxa 1 (.t s117) (.t s120),none⟩,768,false),(11,⟨some s122,.ld (.t s121),none⟩,1792,false),(12,⟨some s123,.idxa 1 (.t s107) (.t s110),none⟩,4083,true),(13,⟨none,.st 1 (.t s123) (.t s116),none⟩,8179,true),(2,⟨some s111,.mv (.t s000),none⟩,0,false),(3,⟨some s112,.mv (.t s014),none⟩,0,false),(14,⟨some s124,.idxa 1 (.t s111) (.t s112),none⟩,16383,true),(15,⟨none,.st 1 (.t s124) (.t s122),none⟩,32767,true)])
    (.seq (.reg [⟨some s125,.mv (.t s013),none⟩,⟨some s126,.bin .add (.t s125) (.c (.i .i64 1)),none⟩,⟨some s013,.mv (.t s126),none⟩])
    (.reg [⟨some s127,.mv (.t s014),none⟩,⟨some s130,.bin .sub (.t s127) (.c (.i .i64 1)),none⟩,⟨some s014,.mv (.t s130),none⟩])))))))))
 (.seq (.reg [⟨some s131,.mv (.t s013),none⟩,⟨some s012,.mv (.t s131),none⟩])
 (.ret))))))⟩
theorem c61 : compFunc Go.Proofs.Tryz.prog some Go.Proofs.Tryz.f61 = some g61 := by kernel_rfl
theorem c62 : compFunc Go.Proofs.Tryz.prog some Go.Proofs.Tryz.f62 = some g62 := by kernel_rfl
theorem c63 : compFunc Go.Proofs.Tryz.prog some Go.Proofs.Tryz.f63 = some g63 := by kernel_rfl
theorem c64 : compFunc Go.Proofs.Tryz.prog some Go.Proofs.Tryz.f64 = some g64 := by kernel_rfl
theorem c65 : compFunc Go.Proofs.Tryz.prog some Go.Proofs.Tryz.f65 = some g65 := by kernel_rfl
theorem c67 : compFunc Go.Proofs.Tryz.prog some Go.Proofs.Tryz.f67 = some g67 := by kernel_rfl
theorem c68 : compFunc Go.Proofs.Tryz.prog some Go.Proofs.Tryz.f68 = some g68 := by kernel_rfl
theorem c69 : compFunc Go.Proofs.Tryz.prog some Go.Proofs.Tryz.f69 = some g69 := by kernel_rfl
theorem c70 : compFunc Go.Proofs.Tryz.prog some Go.Proofs.Tryz.f70 = some g70 := by kernel_rfl
theorem c71 : compFunc Go.Proofs.Tryz.prog some Go.Proofs.Tryz.f71 = some g71 := by kernel_rfl
theorem c72 : compFunc Go.Proofs.Tryz.prog some Go.Proofs.Tryz.f72 = some g72 := by kernel_rfl
theorem c73 : compFunc Go.Proofs.Tryz.prog some Go.Proofs.Tryz.f73 = some g73 := by kernel_rfl
theorem c74 : compFunc Go.Proofs.Tryz.prog some Go.Proofs.Tryz.f74 = some g74 := by kernel_rfl
theorem c75 : compFunc Go.Proofs.Tryz.prog some Go.Proofs.Tryz.f75 = some g75 := by kernel_rfl
theorem c76 : compFunc Go.Proofs.Tryz.prog some Go.Proofs.Tryz.f76 = some g76 := by kernel_rfl
theorem c77 : compFunc Go.Proofs.Tryz.prog some Go.Proofs.Tryz.f77 = some g77 := by kernel_rfl
theorem c78 : compFunc Go.Proofs.Tryz.prog some Go.Proofs.Tryz.f78 = some g78 := by kernel_rfl
theorem c79 : compFunc Go.Proofs.Tryz.prog some Go.Proofs.Tryz.f79 = some g79 := by kernel_rfl
theorem c80 : compFunc Go.Proofs.Tryz.prog some Go.Proofs.Tryz.f80 = some g80 := by kernel_rfl
theorem c81 : compFunc Go.Proofs.Tryz.prog some Go.Proofs.Tryz.f81 = some g81 := by kernel_rfl
theorem c82 : compFunc Go.Proofs.Tryz.prog some Go.Proofs.Tryz.f82 = some g82 := by kernel_rfl
theorem c83 : compFunc Go.Proofs.Tryz.prog some Go.Proofs.Tryz.f83 = some g83 := by kernel_rfl
theorem c84 : compFunc Go.Proofs.Tryz.prog some Go.Proofs.Tryz.f84 = some g84 := by kernel_rfl
theorem c85 : compFunc Go.Proofs.Tryz.prog some Go.Proofs.Tryz.f85 = some g85 := by kernel_rfl
theorem c86 : compFunc Go.Proofs.Tryz.prog some Go.Proofs.Tryz.f86 = some g86 := by kernel_rfl
theorem c87 : compFunc Go.Proofs.Tryz.prog some Go.Proofs.Tryz.f87 = some g87 := by kernel_rfl
theorem c88 : compFunc Go.Proofs.Tryz.prog some Go.Proofs.Tryz.f88 = some g88 := by kernel_rfl
theorem c89 : compFunc Go.Proofs.Tryz.prog some Go.Proofs.Tryz.f89 = some g89 := by kernel_rfl
theorem c90 : compFunc Go.Proofs.Tryz.prog some Go.Proofs.Tryz.f90 = some g90 := by kernel_rfl
theorem c91 : compFunc Go.Proofs.Tryz.prog some Go.Proofs.Tryz.f91 = some g91 := by kernel_rfl
theorem c92 : compFunc Go.Proofs.Tryz.prog some Go.Proofs.Tryz.f92 = some g92 := by kernel_rfl
theorem c93 : compFunc Go.Proofs.Tryz.prog some Go.Proofs.Tryz.f93 = some g93 := by kernel_rfl
theorem c94 : compFunc Go.Proofs.Tryz.prog some Go.Proofs.Tryz.f94 = some g94 := by kernel_rfl
theorem c95 : compFunc Go.Proofs.Tryz.prog some Go.Proofs.Tryz.f95 = some g95 := by kernel_rfl
theorem c96 : compFunc Go.Proofs.Tryz.prog some Go.Proofs.Tryz.f96 = some g96 := by kernel_rfl
theorem c97 : compFunc Go.Proofs.Tryz.prog some Go.Proofs.Tryz.f97 = some g97 := by kernel_rfl
theorem c98 : compFunc Go.Proofs.Tryz.prog some Go.Proofs.Tryz.f98 = some g98 := by kernel_rfl
theorem c99 : compFunc Go.Proofs.Tryz.prog some Go.Proofs.Tryz.f99 = some g99 := by kernel_rfl
theorem c100 : compFunc Go.Proofs.Tryz.prog some Go.Proofs.Tryz.f100 = some g100 := by kernel_rfl
theorem c101 : compFunc Go.Proofs.Tryz.prog some Go.Proofs.Tryz.f101 = some g101 := by kernel_rfl
theorem c102 : compFunc Go.Proofs.Tryz.prog some Go.Proofs.Tryz.f102 = some g102 := by kernel_rfl
end Go.AM.Zd
end
