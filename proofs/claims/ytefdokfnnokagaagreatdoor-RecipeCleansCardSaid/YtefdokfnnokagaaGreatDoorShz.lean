/- All that the functions do, together (written by a program of this session, shal.py). Conditions: none. -/
import Derived.Test.YtefdokfnnokagaaGreatDoorSh0
import Derived.Test.YtefdokfnnokagaaGreatDoorSh1
