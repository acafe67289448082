/- A part of a proof: what functions of the program compute. -/
import Derived.Test.YtmbfcjffjgecjaaGreatDoorRowE
import Derived.Test.YtmbfcjffjgecjaaGreatDoorLib1
import Derived.Test.YtmbfcjffjgecjaaGreatDoorLib2
import Derived.Test.YtmbfcjffjgecjaaGreatDoorLog15E
